/- The reference's ends, walked: a byte, one part, one behind the other. A library text: no claim is stated here. -/
import Derived.Test.YtjodmimnbpgfcaaS43

/- EnB -/
namespace Go.Proofs.Ytjodmimnbpgfcaa
open Go.RowKit Go.IntWalk

/-- The row 'to' of the call's own. -/
structure ToInv (g : G) (w : World) (tb n : Nat) (Q : Nat → Bool) (gq : G) (wr : World) : Prop where
  grow : Grow g w gq wr
  row : wr.heap[tb]? = some (.cells (boolsV (n + 1) Q).toArray 4)
  nb : gq.blk tb = none
  lt : w.heap.size ≤ tb

section
variable {g gq : G} {w wr : World} {tb n : Nat} {Q : Nat → Bool}
theorem ToInv.get (h : ToInv g w tb n Q gq wr) {i : Nat} (hi : i ≤ n) : wr.cell? ⟨tb, i, none⟩ = some (.bool (Q i)) := heap_cell h.row i _ (boolsV_get _ Q (by omega))
theorem ToInv.free (h : ToInv g w tb n Q gq wr) (i : Nat) : wr.frozen? ⟨tb, i, none⟩ = false := heap_free h.row i
theorem ToInv.put (h : ToInv g w tb n Q gq wr) (i : Nat) (b : Bool) : ToInv g w tb n (boolUpd Q i b) gq (wr.setCell ⟨tb, i, none⟩ (.bool b)) :=
  ⟨h.grow.setCell (a := ⟨tb, i, none⟩) h.nb h.lt _, by have := heap_setCell_same h.row (i := i) (.bool b); rw [boolsV_set] at this; exact this, h.nb, h.lt⟩
theorem ToInv.done (h : ToInv g w tb n Q gq wr) {P : Nat → Bool} (hP : ∀ i, i ≤ n → Q i = P i) : EndsP g n P w (.returned (.slice (some ⟨tb, 0, none⟩) (n + 1) (n + 1))) wr :=
  ⟨tb, rfl, h.grow.forget, h.lt, by rw [h.row, boolsV_congr (fun i hi => hP i (by omega))]⟩
end

theorem to_start {g g1 : G} {w W : World} {n : Nat} (hg : Grow g w g1 W) (hw : W.heap.size = w.heap.size + 1) : ToInv g w (w.heap.size + 1) n (fun _ => false) g1 (W.alloc (.cells (boolsV (n + 1) fun _ => false).toArray 4)) :=
  ⟨hg.alloc _, by have := heap_alloc_new W (.cells (boolsV (n + 1) fun _ => false).toArray 4); rwa [hw] at this, hg.fut.none_of_size (by omega), by omega⟩

section
variable {g : G} {s : List UInt8} {sa : Option Addr} {sc : Nat}

set_option maxRecDepth 100000 in
set_option maxHeartbeats 1000000 in
theorem ends_byte (S : Set4) (n : Int) (a : Option Addr) (len cap : Nat) (hs : s.length ≤ 1000) (hsl : SliceV g sa s.length sc (s.map byteV)) (P : Nat → Bool) (pa : Option Addr) (pc : Nat) (hp : SliceV g pa (s.length + 1) pc (boolsV (s.length + 1) P)) (w : World) (hw : Fut g w) :
    Calls Try.prog 85 #[.agg (cellsR ⟨2, S, n, a, len, cap⟩), .slice sa s.length sc, .slice pa (s.length + 1) pc] w (EndsP g s.length (endsR s (.byte S) P) w) := by
  obtain ⟨g1, hg1, c0, cs, cn, cl, cv⟩ := box_ref hw ⟨2, S, n, a, len, cap⟩
  obtain ⟨pb, po, rfl, hpc, hcp, -⟩ := from_row (hp.le hg1.le)
  have hf1 := hg1.fut
  have hf2 := hf1.alloc (.cells (boolsV (s.length + 1) fun _ => false).toArray 4)
  have HT := hid (to_start (n := s.length) hg1 (World.size_alloc _ _))
  have hmk := make_bools s.length (by omega)
  have hsum : IntKind.i64.wrap ((s.length : Int) + 1) = (s.length : Int) + 1 := IntWalk.i64_in _ (by omega)
  have HCP := hid hcp
  have HCS := hid cs
  have HSL := hid (hsl.le hg1.le)
  generalize hR : endsR s (.byte S) P = R
  have HR := hid hR
  clear cs cv hg1 hcp hp hR hsl
  go_enter Try.func85, Try.ntmps85
  go_wp2_with fail
  go_loopg [9] s.length (fun rem i wr => ∃ (q : Nat) (Q : Nat → Bool), q + rem = s.length ∧ i = .int .i64 q ∧ ToInv g w (w.heap.size + 1) s.length Q g1 wr ∧ Hid (∀ t, t ≤ s.length → Q t = (decide (t ≤ q) && endsR s (.byte S) P t)))
  case atStart =>
    refine ⟨0, _, by omega, rfl, HT.out, fun t ht => ?_⟩
    rcases t with _ | t
    · simp [endsR]
    · simp
  case round =>
    obtain ⟨q, Q, hq, rfl, hI, HQ⟩ := hrel
    have hfr := hI.grow.fut
    by_cases hlt : q < s.length
    · have hsq : s[q]? = some s[q] := List.getElem?_eq_getElem hlt
      obtain ⟨sb, so, rfl, hsc, hcs⟩ := HSL.out.at (i := q) (v := byteV s[q]) (by simp [hsq])
      have k1 := hcs _ hfr
      have k2 := HCP.out _ hfr q (by omega)
      have hx := s[q].toNat_lt
      have k3 := HCS.out s[q].toNat (by omega) _ hfr
      have hst := hI.get (i := q + 1) (by omega)
      have hfz := hI.free (q + 1)
      have HI := hid hI
      have hqi : (q : Int) < s.length := by omega
      have hxi : (s[q].toNat : Int) < 256 := by omega
      have hend : endsR s (.byte S) P (q + 1) = (P q && S.has s[q].toNat) := by simp [endsR, hsq]
      have hput := fun b => hI.put (q + 1) b
      have HPUT := hid hput
      have HEND := hid hend
      unfold byteV at k1
      clear hI hcs hput hend hsq
      cases hPq : P q with
      | false =>
        rw [hPq] at k2 HEND
        go_wp2_with fail
        go_roundg (s.length - (q + 1))
        case measure => omega
        case rel =>
          refine ⟨q + 1, _, by omega, by go_num, HPUT.out false, fun t ht => ?_⟩
          unfold boolUpd
          split
          · rename_i e
            subst e
            rw [HEND.out]; simp
          · rw [HQ.out t ht]
            congr 1
            simp; omega
      | true =>
        rw [hPq] at k2 HEND
        cases hSx : S.has s[q].toNat with
        | false =>
          rw [hSx] at k3 HEND
          go_wp2_with fail
          go_roundg (s.length - (q + 1))
          case measure => omega
          case rel =>
            refine ⟨q + 1, _, by omega, by go_num, HPUT.out false, fun t ht => ?_⟩
            unfold boolUpd
            split
            · rename_i e
              subst e
              rw [HEND.out]; simp
            · rw [HQ.out t ht]
              congr 1
              simp; omega
        | true =>
          rw [hSx] at k3 HEND
          go_wp2_with fail
          go_roundg (s.length - (q + 1))
          case measure => omega
          case rel =>
            refine ⟨q + 1, _, by omega, by go_num, HPUT.out true, fun t ht => ?_⟩
            unfold boolUpd
            split
            · rename_i e
              subst e
              rw [HEND.out]; simp
            · rw [HQ.out t ht]
              congr 1
              simp; omega
    · obtain rfl : q = s.length := by omega
      have HI := hid hI
      clear hI
      go_wp2_with fail
      go_ret
      rw [← HR.out]
      exact HI.out.done (fun i hi => by rw [HQ.out i hi]; simp [hi])

set_option maxRecDepth 100000 in
set_option maxHeartbeats 1000000 in
theorem ends_group (S : Set4) (n : Int) {b off : Nat} (cap : Nat) {r0 : CRow} {E : (Nat → Bool) → Nat → Bool} (hr0 : ∀ w', Fut g w' → w'.rangeAt b off (cellsR r0).toList) (H0 : EndsSpec g s sa sc r0 E) (hs : s.length ≤ 1000) (P : Nat → Bool) (pa : Option Addr) (pc : Nat) (hp : SliceV g pa (s.length + 1) pc (boolsV (s.length + 1) P)) (w : World) (hw : Fut g w) :
    Calls Try.prog 85 #[.agg (cellsR ⟨6, S, n, some ⟨b, off, none⟩, 1, cap⟩), .slice sa s.length sc, .slice pa (s.length + 1) pc] w (EndsP g s.length (E P) w) := by
  obtain ⟨g1, hg1, c0, cs, cn, cl, cv⟩ := box_ref hw ⟨6, S, n, some ⟨b, off, none⟩, 1, cap⟩
  have hf1 := hg1.fut
  have hf2 := hf1.alloc (.cells (boolsV (s.length + 1) fun _ => false).toArray 4)
  have HC := hid (H0 g1 hg1.le P pa pc (hp.le hg1.le) _ hf2)
  have H := hid (hr0 _ (hf2.le hg1.le))
  have hmk := make_bools s.length (by omega)
  have hsum : IntKind.i64.wrap ((s.length : Int) + 1) = (s.length : Int) + 1 := IntWalk.i64_in _ (by omega)
  have HG1 := hid (hg1.alloc (.cells (boolsV (s.length + 1) fun _ => false).toArray 4))
  clear cs cv hg1 hr0 H0 hp
  go_enter Try.func85, Try.ntmps85
  go_wp2_with (first | (refine wpList_load54 rfl _ rfl rfl H.out ?_) | (go_at_call 85; refine HC.out.mono ?_; rintro e w2 ⟨tb, rfl, hg2, hb2, hc2⟩; have HG2 := hid hg2; have HB2 := hid hb2; have HC2 := hid hc2; clear hg2 hb2 hc2) | fail)
  go_ret
  exact ⟨tb, rfl, (HG1.out.trans HG2.out).forget, Nat.le_trans HG1.out.size HB2.out, HC2.out⟩

set_option maxRecDepth 100000 in
set_option maxHeartbeats 1000000 in
theorem ends_anew (S : Set4) (n : Int) {b off : Nat} (cap : Nat) {r0 : CRow} {E : (Nat → Bool) → Nat → Bool} (hr0 : ∀ w', Fut g w' → w'.rangeAt b off (cellsR r0).toList) (H0 : EndsSpec g s sa sc r0 E) (hs : s.length ≤ 1000) (P : Nat → Bool) (pa : Option Addr) (pc : Nat) (hp : SliceV g pa (s.length + 1) pc (boolsV (s.length + 1) P)) (w : World) (hw : Fut g w) :
    Calls Try.prog 85 #[.agg (cellsR ⟨7, S, n, some ⟨b, off, none⟩, 1, cap⟩), .slice sa s.length sc, .slice pa (s.length + 1) pc] w (EndsP g s.length (E P) w) := by
  obtain ⟨g1, hg1, c0, cs, cn, cl, cv⟩ := box_ref hw ⟨7, S, n, some ⟨b, off, none⟩, 1, cap⟩
  have hf1 := hg1.fut
  have hf2 := hf1.alloc (.cells (boolsV (s.length + 1) fun _ => false).toArray 4)
  have HC := hid (H0 g1 hg1.le P pa pc (hp.le hg1.le) _ hf2)
  have H := hid (hr0 _ (hf2.le hg1.le))
  have hmk := make_bools s.length (by omega)
  have hsum : IntKind.i64.wrap ((s.length : Int) + 1) = (s.length : Int) + 1 := IntWalk.i64_in _ (by omega)
  have HG1 := hid (hg1.alloc (.cells (boolsV (s.length + 1) fun _ => false).toArray 4))
  clear cs cv hg1 hr0 H0 hp
  go_enter Try.func85, Try.ntmps85
  go_wp2_with (first | (refine wpList_load54 rfl _ rfl rfl H.out ?_) | (go_at_call 85; refine HC.out.mono ?_; rintro e w2 ⟨tb, rfl, hg2, hb2, hc2⟩; have HG2 := hid hg2; have HB2 := hid hb2; have HC2 := hid hc2; clear hg2 hb2 hc2) | fail)
  go_ret
  exact ⟨tb, rfl, (HG1.out.trans HG2.out).forget, Nat.le_trans HG1.out.size HB2.out, HC2.out⟩

set_option maxRecDepth 100000 in
set_option maxHeartbeats 1000000 in
theorem ends_both (S : Set4) (n : Int) {b off : Nat} (cap : Nat) {r0 r1 : CRow} {E0 E1 : (Nat → Bool) → Nat → Bool} (hr0 : ∀ w', Fut g w' → w'.rangeAt b off (cellsR r0).toList) (hr1 : ∀ w', Fut g w' → w'.rangeAt b (off + 259) (cellsR r1).toList) (H0 : EndsSpec g s sa sc r0 E0) (H1 : EndsSpec g s sa sc r1 E1) (hs : s.length ≤ 1000) (P : Nat → Bool) (pa : Option Addr) (pc : Nat) (hp : SliceV g pa (s.length + 1) pc (boolsV (s.length + 1) P)) (w : World) (hw : Fut g w) :
    Calls Try.prog 85 #[.agg (cellsR ⟨3, S, n, some ⟨b, off, none⟩, 2, cap⟩), .slice sa s.length sc, .slice pa (s.length + 1) pc] w (EndsP g s.length (E1 (E0 P)) w) := by
  obtain ⟨g1, hg1, c0, cs, cn, cl, cv⟩ := box_ref hw ⟨3, S, n, some ⟨b, off, none⟩, 2, cap⟩
  have hf1 := hg1.fut
  have hle1 := hg1.le
  have hf2 := hf1.alloc (.cells (boolsV (s.length + 1) fun _ => false).toArray 4)
  have HC0 := hid (fun w' (hw' : Fut g1 w') => H0 g1 hg1.le P pa pc (hp.le hg1.le) w' hw')
  have HC1 := hid (H1.le hg1.le)
  have HR0 := hid (fun w' (hw' : Fut g1 w') => hr0 w' (hw'.le hle1))
  have HR1 := hid (fun w' (hw' : Fut g1 w') => hr1 w' (hw'.le hle1))
  have hmk := make_bools s.length (by omega)
  have hsum : IntKind.i64.wrap ((s.length : Int) + 1) = (s.length : Int) + 1 := IntWalk.i64_in _ (by omega)
  have HG1 := hid (hg1.alloc (.cells (boolsV (s.length + 1) fun _ => false).toArray 4))
  clear cs cv hg1 hr0 hr1 H0 H1 hp
  go_enter Try.func85, Try.ntmps85
  go_upto_region 12 with fail
  refine wp_region_held_drew (S := (fun w' => Fut g1 w')) (by kernel_rfl) hf2.drew ?_
  intro hS0
  refine wpAnyH_take (i := 0) (oi := { dst := some 55, op := Go.Op.fieldAddr 54 (Go.Operand.tmp 3) 3, type := 0, pos := "ref.go:328", after := #[], guard := none }) (v := ?_) rfl (by kernel_rfl) (by kernel_rfl) (by kernel_rfl) (fun _ _ _ h => h) (Or.inl ⟨by rfl, ?_⟩) (by assumption) ?_
  rotate_left
  · intro w hSw; go_simp; all_goals with_reducible rfl
  try simp only [Act.put, List.setIfInBounds_toArray, List.set_cons_zero, List.set_cons_succ]
  refine wpAnyH_take (i := 1) (oi := { dst := some 56, op := Go.Op.load 52 (Go.Operand.tmp 55), type := 52, pos := "ref.go:328", after := #[{ on := 0, ground := Go.Ground.data }], guard := none }) (v := ?_) rfl (by kernel_rfl) (by kernel_rfl) (by kernel_rfl) (fun _ _ _ h => h) (Or.inl ⟨by rfl, ?_⟩) (by assumption) ?_
  rotate_left
  · intro w hSw; go_simp; all_goals with_reducible rfl
  try simp only [Act.put, List.setIfInBounds_toArray, List.set_cons_zero, List.set_cons_succ]
  refine wpAnyH_take (i := 2) (oi := { dst := some 57, op := Go.Op.indexAddr 52 (Go.Operand.tmp 56) (Go.Operand.const (Go.Value.int Go.IntKind.i64 1)), type := 0, pos := "ref.go:328", after := #[{ on := 1, ground := Go.Ground.data }], guard := none }) (v := ?_) rfl (by kernel_rfl) (by kernel_rfl) (by kernel_rfl) (fun _ _ _ h => h) (Or.inl ⟨by rfl, ?_⟩) (by assumption) ?_
  rotate_left
  · intro w hSw; go_simp; all_goals with_reducible rfl
  try simp only [Act.put, List.setIfInBounds_toArray, List.set_cons_zero, List.set_cons_succ]
  refine wpAnyH_take (i := 3) (oi := { dst := some 58, op := Go.Op.load 54 (Go.Operand.tmp 57), type := 54, pos := "ref.go:328", after := #[{ on := 2, ground := Go.Ground.data }], guard := none }) (v := ?_) rfl (by kernel_rfl) (by kernel_rfl) (by kernel_rfl) (fun _ _ _ h => h) (Or.inl ⟨by rfl, ?_⟩) (by assumption) ?_
  rotate_left
  · intro w hSw; refine exec_load54 (x := .tmp 57) (r := r1) ?_ ?_ (HR1.out _ hSw) <;> rfl
  try simp only [Act.put, List.setIfInBounds_toArray, List.set_cons_zero, List.set_cons_succ]
  refine wpAnyH_take (i := 4) (oi := { dst := some 59, op := Go.Op.move (Go.Operand.tmp 1), type := 28, pos := "ref.go:328", after := #[], guard := none }) (v := ?_) rfl (by kernel_rfl) (by kernel_rfl) (by kernel_rfl) (fun _ _ _ h => h) (Or.inl ⟨by rfl, ?_⟩) (by assumption) ?_
  rotate_left
  · intro w hSw; go_simp; all_goals with_reducible rfl
  try simp only [Act.put, List.setIfInBounds_toArray, List.set_cons_zero, List.set_cons_succ]
  refine wpAnyH_take (i := 5) (oi := { dst := some 60, op := Go.Op.fieldAddr 54 (Go.Operand.tmp 3) 3, type := 0, pos := "ref.go:328", after := #[], guard := none }) (v := ?_) rfl (by kernel_rfl) (by kernel_rfl) (by kernel_rfl) (fun _ _ _ h => h) (Or.inl ⟨by rfl, ?_⟩) (by assumption) ?_
  rotate_left
  · intro w hSw; go_simp; all_goals with_reducible rfl
  try simp only [Act.put, List.setIfInBounds_toArray, List.set_cons_zero, List.set_cons_succ]
  refine wpAnyH_take (i := 6) (oi := { dst := some 61, op := Go.Op.load 52 (Go.Operand.tmp 60), type := 52, pos := "ref.go:328", after := #[{ on := 5, ground := Go.Ground.data }], guard := none }) (v := ?_) rfl (by kernel_rfl) (by kernel_rfl) (by kernel_rfl) (fun _ _ _ h => h) (Or.inl ⟨by rfl, ?_⟩) (by assumption) ?_
  rotate_left
  · intro w hSw; go_simp; all_goals with_reducible rfl
  try simp only [Act.put, List.setIfInBounds_toArray, List.set_cons_zero, List.set_cons_succ]
  refine wpAnyH_take (i := 7) (oi := { dst := some 62, op := Go.Op.indexAddr 52 (Go.Operand.tmp 61) (Go.Operand.const (Go.Value.int Go.IntKind.i64 0)), type := 0, pos := "ref.go:328", after := #[{ on := 6, ground := Go.Ground.data }], guard := none }) (v := ?_) rfl (by kernel_rfl) (by kernel_rfl) (by kernel_rfl) (fun _ _ _ h => h) (Or.inl ⟨by rfl, ?_⟩) (by assumption) ?_
  rotate_left
  · intro w hSw; go_simp; all_goals with_reducible rfl
  try simp only [Act.put, List.setIfInBounds_toArray, List.set_cons_zero, List.set_cons_succ]
  refine wpAnyH_take (i := 8) (oi := { dst := some 63, op := Go.Op.load 54 (Go.Operand.tmp 62), type := 54, pos := "ref.go:328", after := #[{ on := 7, ground := Go.Ground.data }], guard := none }) (v := ?_) rfl (by kernel_rfl) (by kernel_rfl) (by kernel_rfl) (fun _ _ _ h => h) (Or.inl ⟨by rfl, ?_⟩) (by assumption) ?_
  rotate_left
  · intro w hSw; refine exec_load54 (x := .tmp 62) (r := r0) ?_ ?_ (HR0.out _ hSw) <;> rfl
  try simp only [Act.put, List.setIfInBounds_toArray, List.set_cons_zero, List.set_cons_succ]
  refine wpAnyH_take (i := 9) (oi := { dst := some 64, op := Go.Op.move (Go.Operand.tmp 1), type := 28, pos := "ref.go:328", after := #[], guard := none }) (v := ?_) rfl (by kernel_rfl) (by kernel_rfl) (by kernel_rfl) (fun _ _ _ h => h) (Or.inl ⟨by rfl, ?_⟩) (by assumption) ?_
  rotate_left
  · intro w hSw; go_simp; all_goals with_reducible rfl
  try simp only [Act.put, List.setIfInBounds_toArray, List.set_cons_zero, List.set_cons_succ]
  refine wpAnyH_take (i := 10) (oi := { dst := some 65, op := Go.Op.move (Go.Operand.tmp 2), type := 97, pos := "ref.go:328", after := #[], guard := none }) (v := ?_) rfl (by kernel_rfl) (by kernel_rfl) (by kernel_rfl) (fun _ _ _ h => h) (Or.inl ⟨by rfl, ?_⟩) (by assumption) ?_
  rotate_left
  · intro w hSw; go_simp; all_goals with_reducible rfl
  try simp only [Act.put, List.setIfInBounds_toArray, List.set_cons_zero, List.set_cons_succ]
  refine wpAnyH_ready (rs := [11]) (by kernel_rfl) (by simp) ?_
  refine (AllReadyH.cons (o := { dst := some 66, op := Go.Op.call { callee := Go.Callee.value (Go.Operand.func 85), args := #[Go.Operand.tmp 63, Go.Operand.tmp 64, Go.Operand.tmp 65], argTypes := #[54, 28, 97] }, type := 97, pos := "ref.go:328", after := #[{ on := 8, ground := Go.Ground.data }, { on := 9, ground := Go.Ground.data }, { on := 10, ground := Go.Ground.data }], guard := none }) rfl (fun K hK => ?_) AllReadyH.nil)
  · go_simp
    refine (HC0.out _ (by assumption)).mono ?_
    rintro e w3 ⟨tb, rfl, hg3, hb3, hc3⟩
    obtain ⟨g3, hG3, hs3⟩ := ends_keep hf2.drew hg3 hb3 hc3 hs
    have HG3 := hid hG3
    have HC3 := hid (HC1.out g3 hG3.le _ _ _ hs3 w3 hG3.fut)
    have hf3 := hg3.fut
    clear hG3 hs3 hg3 hb3 hc3
    try go_wp2_with fail
    refine hK.out _ _ ?_ (fun hHeld => ?_)
    · first | exact Fut.drew (by assumption) | exact Fut.alloc (by assumption) _ | assumption
    clear hK K
    try simp only [Act.put, List.setIfInBounds_toArray, List.set_cons_zero, List.set_cons_succ]
    refine wpAnyH_ready (rs := [12]) (by kernel_rfl) (by simp) ?_
    refine (AllReadyH.cons (o := { dst := some 67, op := Go.Op.call { callee := Go.Callee.value (Go.Operand.func 85), args := #[Go.Operand.tmp 58, Go.Operand.tmp 59, Go.Operand.tmp 66], argTypes := #[54, 28, 97] }, type := 97, pos := "ref.go:328", after := #[{ on := 3, ground := Go.Ground.data }, { on := 4, ground := Go.Ground.data }, { on := 11, ground := Go.Ground.data }, { on := 11, ground := Go.Ground.chain }], guard := none }) rfl (fun K hK => ?_) AllReadyH.nil)
    · go_simp
      refine HC3.out.mono ?_
      rintro e w4 ⟨tb2, rfl, hg4, hb4, hc4⟩
      have HG4 := hid hg4
      have HB4 := hid hb4
      have HC4 := hid hc4
      have hf4 := hg4.fut.le HG3.out.le
      clear hg4 hb4 hc4
      try go_wp2_with fail
      refine hK.out _ _ ?_ (fun hHeld => ?_)
      · first | exact Fut.drew (by assumption) | exact Fut.alloc (by assumption) _ | assumption
      clear hK K
      try simp only [Act.put, List.setIfInBounds_toArray, List.set_cons_zero, List.set_cons_succ]
      refine wpAnyH_take (i := 13) (oi := { dst := some 6, op := Go.Op.assign (Go.Operand.tmp 67), type := 97, pos := "ref.go:328", after := #[{ on := 12, ground := Go.Ground.data }, { on := 12, ground := Go.Ground.chain }, { on := 0, ground := Go.Ground.phase }, { on := 1, ground := Go.Ground.phase }, { on := 2, ground := Go.Ground.phase }, { on := 3, ground := Go.Ground.phase }, { on := 4, ground := Go.Ground.phase }, { on := 5, ground := Go.Ground.phase }, { on := 6, ground := Go.Ground.phase }, { on := 7, ground := Go.Ground.phase }, { on := 8, ground := Go.Ground.phase }, { on := 9, ground := Go.Ground.phase }, { on := 10, ground := Go.Ground.phase }, { on := 11, ground := Go.Ground.phase }, { on := 12, ground := Go.Ground.phase }], guard := none }) (v := ?_) rfl (by kernel_rfl) (by kernel_rfl) (by kernel_rfl) (fun _ _ _ h => h) (Or.inl ⟨by rfl, ?_⟩) (by assumption) ?_
      rotate_left
      · intro w hSw; go_simp; all_goals with_reducible rfl
      try simp only [Act.put, List.setIfInBounds_toArray, List.set_cons_zero, List.set_cons_succ]
      refine wpAnyH_done (by kernel_rfl) ?_ _
      go_wp2_with fail
      go_ret
      exact ⟨tb2, rfl, ((HG1.out.drew.trans HG3.out).trans HG4.out).forget, Nat.le_trans (HG1.out.drew.trans HG3.out).size HB4.out, HC4.out⟩
end
end Go.Proofs.Ytjodmimnbpgfcaa
