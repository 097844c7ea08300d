/- The reference's ends, walked: one or the other, a star. A library text: no claim is stated here. -/
import Derived.Test.YtjodmimnbpgfcaaS44

/- EnC -/
namespace Go.Proofs.Ytjodmimnbpgfcaa
open Go.RowKit Go.IntWalk

section
variable {g gq : G} {w wr : World} {tb n : Nat} {Q : Nat → Bool}
theorem ToInv.congr (h : ToInv g w tb n Q gq wr) {P : Nat → Bool} (hP : ∀ i, i ≤ n → Q i = P i) : ToInv g w tb n P gq wr :=
  ⟨h.grow, by rw [h.row, boolsV_congr (fun i hi => hP i (by omega))], h.nb, h.lt⟩
theorem ToInv.in (h : ToInv g w tb n Q gq wr) : tb < wr.heap.size := (Array.getElem?_eq_some_iff.1 h.row).1
theorem ToInv.go {g2 : G} {w2 : World} (h : ToInv g w tb n Q gq wr) (hg : Grow gq wr g2 w2) : ToInv g w tb n Q g2 w2 :=
  ⟨h.grow.trans hg, (hg.old _ h.in).trans h.row, hg.new _ h.nb h.in, h.lt⟩
/-- 'to' handed to a call that leaves it alone. -/
theorem ToInv.lent (h : ToInv g w tb n Q gq wr) (hn : n ≤ 1000) : Fut (gq.add tb (.cells (boolsV (n + 1) Q).toArray 4)) wr ∧ gq.Le (gq.add tb (.cells (boolsV (n + 1) Q).toArray 4)) ∧ SliceV (gq.add tb (.cells (boolsV (n + 1) Q).toArray 4)) (some ⟨tb, 0, none⟩) (n + 1) (n + 1) (boolsV (n + 1) Q) := by
  refine ⟨h.grow.fut.add h.row, G.le_add h.nb, ?_⟩
  have hl : (boolsV (n + 1) Q).length = n + 1 := by simp [boolsV]
  have := SliceV.row (g := gq.add tb (.cells (boolsV (n + 1) Q).toArray 4)) tb 0 (n + 1) (boolsV (n + 1) Q) (by omega) (by omega) (fun W hW i v hv => by
    rw [Nat.zero_add]
    exact fut_cell (G.add_same _ _ _) i v (by simpa using hv) W hW)
  rwa [hl] at this
end
theorem Grow.under {g g' : G} {w w' : World} (h : Grow g' w g' w') (k : g.Le g') : Grow g w g w' := ⟨G.Le.refl g, h.fut.le k, h.size, h.old, fun _ hb _ => hb⟩

section
variable {g : G} {s : List UInt8} {sa : Option Addr} {sc : Nat}

set_option maxRecDepth 100000 in
set_option maxHeartbeats 2000000 in
theorem ends_or (S : Set4) (n : Int) {b off : Nat} (cap : Nat) {r0 r1 : CRow} {E0 E1 : (Nat → Bool) → Nat → Bool} (hr0 : ∀ w', Fut g w' → w'.rangeAt b off (cellsR r0).toList) (hr1 : ∀ w', Fut g w' → w'.rangeAt b (off + 259) (cellsR r1).toList) (H0 : EndsSpec g s sa sc r0 E0) (H1 : EndsSpec g s sa sc r1 E1) (hs : s.length ≤ 1000) (P : Nat → Bool) (pa : Option Addr) (pc : Nat) (hp : SliceV g pa (s.length + 1) pc (boolsV (s.length + 1) P)) (w : World) (hw : Fut g w) :
    Calls Try.prog 85 #[.agg (cellsR ⟨4, S, n, some ⟨b, off, none⟩, 2, cap⟩), .slice sa s.length sc, .slice pa (s.length + 1) pc] w (EndsP g s.length (fun t => E0 P t || E1 P t) w) := by
  obtain ⟨g1, hg1, c0, cs, cn, cl, cv⟩ := box_ref hw ⟨4, S, n, some ⟨b, off, none⟩, 2, cap⟩
  have hf1 := hg1.fut
  have hle1 := hg1.le
  have hf2 := hf1.alloc (.cells (boolsV (s.length + 1) fun _ => false).toArray 4)
  have HA := hid (fun g' (hle : g1.Le g') w' (hw' : Fut g' w') => H0 g' (hg1.le.trans hle) P pa pc (hp.le (hg1.le.trans hle)) w' hw')
  have HB := hid (fun g' (hle : g1.Le g') w' (hw' : Fut g' w') => H1 g' (hg1.le.trans hle) P pa pc (hp.le (hg1.le.trans hle)) w' hw')
  have HR0 := hid (fun w' (hw' : Fut g1 w') => hr0 w' (hw'.le hle1))
  have HR1 := hid (fun w' (hw' : Fut g1 w') => hr1 w' (hw'.le hle1))
  have hmk := make_bools s.length (by omega)
  have hsum : IntKind.i64.wrap ((s.length : Int) + 1) = (s.length : Int) + 1 := IntWalk.i64_in _ (by omega)
  have HT := hid (to_start (n := s.length) hg1 (World.size_alloc _ _))
  generalize E0 P = PA at HA ⊢
  generalize E1 P = PB at HB ⊢
  clear cs cv hg1 hr0 hr1 H0 H1 hp
  go_enter Try.func85, Try.ntmps85
  go_upto_region 14 with fail
  go_cut [10, 11] from 70 to 84 (fun s10 s11 wc => ∃ (g2 : G) (ab bb : Nat), s10 = .slice (some ⟨ab, 0, none⟩) (s.length + 1) (s.length + 1) ∧ s11 = .slice (some ⟨bb, 0, none⟩) (s.length + 1) (s.length + 1) ∧ ToInv g w (w.heap.size + 1) s.length (fun _ => false) g2 wc ∧ Hid (SliceV g2 (some ⟨ab, 0, none⟩) (s.length + 1) (s.length + 1) (boolsV (s.length + 1) PA)) ∧ Hid (SliceV g2 (some ⟨bb, 0, none⟩) (s.length + 1) (s.length + 1) (boolsV (s.length + 1) PB)))
  case first =>
    refine wp_region_held_drew (S := (fun w' => Fut g1 w')) (by kernel_rfl) hf2.drew ?_
    intro hS0
    refine wpAnyH_take (i := 0) (oi := { dst := some 70, op := Go.Op.fieldAddr 54 (Go.Operand.tmp 3) 3, type := 0, pos := "ref.go:330", after := #[], guard := none }) (v := ?_) rfl (by kernel_rfl) (by kernel_rfl) (by kernel_rfl) (fun _ _ _ h => h) (Or.inl ⟨by rfl, ?_⟩) (by assumption) ?_
    rotate_left
    · intro w hSw; go_simp; all_goals with_reducible rfl
    try simp only [Act.put, List.setIfInBounds_toArray, List.set_cons_zero, List.set_cons_succ]
    refine wpAnyH_take (i := 1) (oi := { dst := some 71, op := Go.Op.load 52 (Go.Operand.tmp 70), type := 52, pos := "ref.go:330", after := #[{ on := 0, ground := Go.Ground.data }], guard := none }) (v := ?_) rfl (by kernel_rfl) (by kernel_rfl) (by kernel_rfl) (fun _ _ _ h => h) (Or.inl ⟨by rfl, ?_⟩) (by assumption) ?_
    rotate_left
    · intro w hSw; go_simp; all_goals with_reducible rfl
    try simp only [Act.put, List.setIfInBounds_toArray, List.set_cons_zero, List.set_cons_succ]
    refine wpAnyH_take (i := 2) (oi := { dst := some 72, op := Go.Op.indexAddr 52 (Go.Operand.tmp 71) (Go.Operand.const (Go.Value.int Go.IntKind.i64 0)), type := 0, pos := "ref.go:330", after := #[{ on := 1, ground := Go.Ground.data }], guard := none }) (v := ?_) rfl (by kernel_rfl) (by kernel_rfl) (by kernel_rfl) (fun _ _ _ h => h) (Or.inl ⟨by rfl, ?_⟩) (by assumption) ?_
    rotate_left
    · intro w hSw; go_simp; all_goals with_reducible rfl
    try simp only [Act.put, List.setIfInBounds_toArray, List.set_cons_zero, List.set_cons_succ]
    refine wpAnyH_take (i := 3) (oi := { dst := some 73, op := Go.Op.load 54 (Go.Operand.tmp 72), type := 54, pos := "ref.go:330", after := #[{ on := 2, ground := Go.Ground.data }], guard := none }) (v := ?_) rfl (by kernel_rfl) (by kernel_rfl) (by kernel_rfl) (fun _ _ _ h => h) (Or.inl ⟨by rfl, ?_⟩) (by assumption) ?_
    rotate_left
    · intro w hSw; refine exec_load54 (x := .tmp 72) (r := r0) ?_ ?_ (HR0.out _ hSw) <;> rfl
    try simp only [Act.put, List.setIfInBounds_toArray, List.set_cons_zero, List.set_cons_succ]
    refine wpAnyH_take (i := 4) (oi := { dst := some 74, op := Go.Op.move (Go.Operand.tmp 1), type := 28, pos := "ref.go:330", after := #[], guard := none }) (v := ?_) rfl (by kernel_rfl) (by kernel_rfl) (by kernel_rfl) (fun _ _ _ h => h) (Or.inl ⟨by rfl, ?_⟩) (by assumption) ?_
    rotate_left
    · intro w hSw; go_simp; all_goals with_reducible rfl
    try simp only [Act.put, List.setIfInBounds_toArray, List.set_cons_zero, List.set_cons_succ]
    refine wpAnyH_take (i := 5) (oi := { dst := some 75, op := Go.Op.move (Go.Operand.tmp 2), type := 97, pos := "ref.go:330", after := #[], guard := none }) (v := ?_) rfl (by kernel_rfl) (by kernel_rfl) (by kernel_rfl) (fun _ _ _ h => h) (Or.inl ⟨by rfl, ?_⟩) (by assumption) ?_
    rotate_left
    · intro w hSw; go_simp; all_goals with_reducible rfl
    try simp only [Act.put, List.setIfInBounds_toArray, List.set_cons_zero, List.set_cons_succ]
    refine wpAnyH_take (i := 7) (oi := { dst := some 77, op := Go.Op.fieldAddr 54 (Go.Operand.tmp 3) 3, type := 0, pos := "ref.go:330", after := #[], guard := none }) (v := ?_) rfl (by kernel_rfl) (by kernel_rfl) (by kernel_rfl) (fun _ _ _ h => h) (Or.inl ⟨by rfl, ?_⟩) (by assumption) ?_
    rotate_left
    · intro w hSw; go_simp; all_goals with_reducible rfl
    try simp only [Act.put, List.setIfInBounds_toArray, List.set_cons_zero, List.set_cons_succ]
    refine wpAnyH_take (i := 8) (oi := { dst := some 78, op := Go.Op.load 52 (Go.Operand.tmp 77), type := 52, pos := "ref.go:330", after := #[{ on := 7, ground := Go.Ground.data }], guard := none }) (v := ?_) rfl (by kernel_rfl) (by kernel_rfl) (by kernel_rfl) (fun _ _ _ h => h) (Or.inl ⟨by rfl, ?_⟩) (by assumption) ?_
    rotate_left
    · intro w hSw; go_simp; all_goals with_reducible rfl
    try simp only [Act.put, List.setIfInBounds_toArray, List.set_cons_zero, List.set_cons_succ]
    refine wpAnyH_take (i := 9) (oi := { dst := some 79, op := Go.Op.indexAddr 52 (Go.Operand.tmp 78) (Go.Operand.const (Go.Value.int Go.IntKind.i64 1)), type := 0, pos := "ref.go:330", after := #[{ on := 8, ground := Go.Ground.data }], guard := none }) (v := ?_) rfl (by kernel_rfl) (by kernel_rfl) (by kernel_rfl) (fun _ _ _ h => h) (Or.inl ⟨by rfl, ?_⟩) (by assumption) ?_
    rotate_left
    · intro w hSw; go_simp; all_goals with_reducible rfl
    try simp only [Act.put, List.setIfInBounds_toArray, List.set_cons_zero, List.set_cons_succ]
    refine wpAnyH_take (i := 10) (oi := { dst := some 80, op := Go.Op.load 54 (Go.Operand.tmp 79), type := 54, pos := "ref.go:330", after := #[{ on := 9, ground := Go.Ground.data }], guard := none }) (v := ?_) rfl (by kernel_rfl) (by kernel_rfl) (by kernel_rfl) (fun _ _ _ h => h) (Or.inl ⟨by rfl, ?_⟩) (by assumption) ?_
    rotate_left
    · intro w hSw; refine exec_load54 (x := .tmp 79) (r := r1) ?_ ?_ (HR1.out _ hSw) <;> rfl
    try simp only [Act.put, List.setIfInBounds_toArray, List.set_cons_zero, List.set_cons_succ]
    refine wpAnyH_take (i := 11) (oi := { dst := some 81, op := Go.Op.move (Go.Operand.tmp 1), type := 28, pos := "ref.go:330", after := #[], guard := none }) (v := ?_) rfl (by kernel_rfl) (by kernel_rfl) (by kernel_rfl) (fun _ _ _ h => h) (Or.inl ⟨by rfl, ?_⟩) (by assumption) ?_
    rotate_left
    · intro w hSw; go_simp; all_goals with_reducible rfl
    try simp only [Act.put, List.setIfInBounds_toArray, List.set_cons_zero, List.set_cons_succ]
    refine wpAnyH_take (i := 12) (oi := { dst := some 82, op := Go.Op.move (Go.Operand.tmp 2), type := 97, pos := "ref.go:330", after := #[], guard := none }) (v := ?_) rfl (by kernel_rfl) (by kernel_rfl) (by kernel_rfl) (fun _ _ _ h => h) (Or.inl ⟨by rfl, ?_⟩) (by assumption) ?_
    rotate_left
    · intro w hSw; go_simp; all_goals with_reducible rfl
    try simp only [Act.put, List.setIfInBounds_toArray, List.set_cons_zero, List.set_cons_succ]
    refine wpAnyH_ready (rs := [6]) (by kernel_rfl) (by simp) ?_
    refine (AllReadyH.cons (o := { dst := some 76, op := Go.Op.call { callee := Go.Callee.value (Go.Operand.func 85), args := #[Go.Operand.tmp 73, Go.Operand.tmp 74, Go.Operand.tmp 75], argTypes := #[54, 28, 97] }, type := 97, pos := "ref.go:330", after := #[{ on := 3, ground := Go.Ground.data }, { on := 4, ground := Go.Ground.data }, { on := 5, ground := Go.Ground.data }], guard := none }) rfl (fun K hK => ?_) AllReadyH.nil)
    · go_simp
      first | refine (HA.out _ HLB.out _ HGB.out.fut).mono ?_ | refine (HA.out _ (G.Le.refl _) _ (by assumption)).mono ?_
      rintro e wA ⟨tA, rfl, hgA, hbA, hcA⟩
      obtain ⟨gA, hGA, hsA⟩ := ends_keep (by first | exact HGB.out.fut | exact hf2.drew) hgA hbA hcA hs
      have HGA := hid hGA
      have HSA := hid hsA
      have HLA : Hid (g1.Le gA) := by first | exact HLB.out.trans hGA.le | exact hGA.le
      have hfA : Fut g1 wA := HGA.out.fut.le HLA.out
      clear hGA hsA hgA hbA hcA
      try go_wp2_with fail
      refine hK.out _ _ ?_ (fun hHeld => ?_)
      · first | exact Fut.drew (by assumption) | exact Fut.alloc (by assumption) _ | assumption
      clear hK K
      try simp only [Act.put, List.setIfInBounds_toArray, List.set_cons_zero, List.set_cons_succ]
      refine wpAnyH_ready (rs := [13]) (by kernel_rfl) (by simp) ?_
      refine (AllReadyH.cons (o := { dst := some 83, op := Go.Op.call { callee := Go.Callee.value (Go.Operand.func 85), args := #[Go.Operand.tmp 80, Go.Operand.tmp 81, Go.Operand.tmp 82], argTypes := #[54, 28, 97] }, type := 97, pos := "ref.go:330", after := #[{ on := 10, ground := Go.Ground.data }, { on := 11, ground := Go.Ground.data }, { on := 12, ground := Go.Ground.data }, { on := 6, ground := Go.Ground.chain }], guard := none }) rfl (fun K hK => ?_) AllReadyH.nil)
      · go_simp
        first | refine (HB.out _ HLA.out _ HGA.out.fut).mono ?_ | refine (HB.out _ (G.Le.refl _) _ (by assumption)).mono ?_
        rintro e wB ⟨tB, rfl, hgB, hbB, hcB⟩
        obtain ⟨gB, hGB, hsB⟩ := ends_keep (by first | exact HGA.out.fut | exact hf2.drew) hgB hbB hcB hs
        have HGB := hid hGB
        have HSB := hid hsB
        have HLB : Hid (g1.Le gB) := by first | exact HLA.out.trans hGB.le | exact hGB.le
        have hfB : Fut g1 wB := HGB.out.fut.le HLB.out
        clear hGB hsB hgB hbB hcB
        try go_wp2_with fail
        refine hK.out _ _ ?_ (fun hHeld => ?_)
        · first | exact Fut.drew (by assumption) | exact Fut.alloc (by assumption) _ | assumption
        clear hK K
        try simp only [Act.put, List.setIfInBounds_toArray, List.set_cons_zero, List.set_cons_succ]
        refine wpAnyH_take (i := 14) (oi := { dst := some 10, op := Go.Op.assign (Go.Operand.tmp 76), type := 97, pos := "ref.go:330", after := #[{ on := 6, ground := Go.Ground.data }, { on := 13, ground := Go.Ground.chain }, { on := 0, ground := Go.Ground.phase }, { on := 1, ground := Go.Ground.phase }, { on := 2, ground := Go.Ground.phase }, { on := 3, ground := Go.Ground.phase }, { on := 4, ground := Go.Ground.phase }, { on := 5, ground := Go.Ground.phase }, { on := 6, ground := Go.Ground.phase }, { on := 7, ground := Go.Ground.textOnly Go.Departure.lateStores }, { on := 8, ground := Go.Ground.textOnly Go.Departure.lateStores }, { on := 9, ground := Go.Ground.textOnly Go.Departure.lateStores }, { on := 10, ground := Go.Ground.textOnly Go.Departure.lateStores }, { on := 11, ground := Go.Ground.textOnly Go.Departure.lateStores }, { on := 12, ground := Go.Ground.textOnly Go.Departure.lateStores }, { on := 13, ground := Go.Ground.textOnly Go.Departure.lateStoresUnsure }], guard := none }) (v := ?_) rfl (by kernel_rfl) (by kernel_rfl) (by kernel_rfl) (fun _ _ _ h => h) (Or.inl ⟨by rfl, ?_⟩) (by assumption) ?_
        rotate_left
        · intro w hSw; go_simp; all_goals with_reducible rfl
        try simp only [Act.put, List.setIfInBounds_toArray, List.set_cons_zero, List.set_cons_succ]
        refine wpAnyH_take (i := 15) (oi := { dst := some 11, op := Go.Op.assign (Go.Operand.tmp 83), type := 97, pos := "ref.go:330", after := #[{ on := 13, ground := Go.Ground.data }, { on := 14, ground := Go.Ground.chain }, { on := 0, ground := Go.Ground.phase }, { on := 1, ground := Go.Ground.phase }, { on := 2, ground := Go.Ground.phase }, { on := 3, ground := Go.Ground.phase }, { on := 4, ground := Go.Ground.phase }, { on := 5, ground := Go.Ground.phase }, { on := 6, ground := Go.Ground.phase }, { on := 7, ground := Go.Ground.phase }, { on := 8, ground := Go.Ground.phase }, { on := 9, ground := Go.Ground.phase }, { on := 10, ground := Go.Ground.phase }, { on := 11, ground := Go.Ground.phase }, { on := 12, ground := Go.Ground.phase }, { on := 13, ground := Go.Ground.phase }, { on := 14, ground := Go.Ground.phase }], guard := none }) (v := ?_) rfl (by kernel_rfl) (by kernel_rfl) (by kernel_rfl) (fun _ _ _ h => h) (Or.inl ⟨by rfl, ?_⟩) (by assumption) ?_
        rotate_left
        · intro w hSw; go_simp; all_goals with_reducible rfl
        try simp only [Act.put, List.setIfInBounds_toArray, List.set_cons_zero, List.set_cons_succ]
        refine wpAnyH_done (by kernel_rfl) ?_ _
        go_wp2_with fail
        go_meet
        case rel =>
          first
          | exact ⟨gB, tA, tB, rfl, rfl, (HT.out.go ((Grow.refl HT.out.grow.fut).drew.trans HGA.out)).go HGB.out, HSA.out.le HGB.out.le, HSB.out⟩
          | exact ⟨gA, tA, tB, rfl, rfl, (HT.out.go ((Grow.refl HT.out.grow.fut).drew.trans HGB.out)).go HGA.out, HSA.out, HSB.out.le HGA.out.le⟩
  case rest =>
    obtain ⟨g2, ab, bb, rfl, rfl, hT, HSA, HSB⟩ := hcut
    clear HA HB HR0 HR1 hf1 hf2 HT
    have HT := hid hT
    clear hT
    obtain ⟨ab', ao, ea, -, hca, -⟩ := from_row HSA.out
    obtain ⟨bb', bo, eb, -, hcb, -⟩ := from_row HSB.out
    simp only [Option.some.injEq, Addr.mk.injEq] at ea eb
    obtain ⟨rfl, rfl, -⟩ := ea
    obtain ⟨rfl, rfl, -⟩ := eb
    have HCA := hid hca
    have HCB := hid hcb
    clear hca hcb
    go_wp2_with fail
    go_loopg [12] (s.length + 1) (fun rem i wr => ∃ (q : Nat) (Q : Nat → Bool), q + rem = s.length + 1 ∧ i = .int .i64 q ∧ ToInv g w (w.heap.size + 1) s.length Q g2 wr ∧ Hid (∀ t, t < q → Q t = (PA t || PB t)))
    case atStart => exact ⟨0, _, by omega, rfl, HT.out, fun t ht => by omega⟩
    case round =>
      obtain ⟨q, Q, hq, rfl, hI, HQ⟩ := hrel
      have hfr := hI.grow.fut
      by_cases hlt : q ≤ s.length
      · have k1 := HCA.out _ hfr q hlt
        have k2 := HCB.out _ hfr q hlt
        rw [Nat.zero_add] at k1 k2
        have hst := hI.get (i := q) hlt
        have hfz := hI.free q
        have hput := fun b => hI.put q b
        have HPUT := hid hput
        have hqi : (q : Int) ≤ s.length := by omega
        clear hI hput
        cases hPa : PA q with
        | true =>
          rw [hPa] at k1
          go_wp2_with fail
          go_roundg (s.length + 1 - (q + 1))
          case measure => omega
          case rel =>
            refine ⟨q + 1, _, by omega, by go_num, HPUT.out true, fun t ht => ?_⟩
            unfold boolUpd
            split
            · rename_i e
              rw [e, hPa]; rfl
            · exact HQ.out t (by omega)
        | false =>
          rw [hPa] at k1
          go_wp2_with fail
          go_roundg (s.length + 1 - (q + 1))
          case measure => omega
          case rel =>
            refine ⟨q + 1, _, by omega, by go_num, HPUT.out (PB q), fun t ht => ?_⟩
            unfold boolUpd
            split
            · rename_i e
              rw [e, hPa]; rfl
            · exact HQ.out t (by omega)
      · obtain rfl : q = s.length + 1 := by omega
        have HI := hid hI
        clear hI
        go_wp2_with fail
        go_ret
        exact HI.out.done (fun i hi => HQ.out i (by omega))

theorem starIt_yes {m : Nat} {E : (Nat → Bool) → Nat → Bool} {k : Nat} {Q : Nat → Bool} (h : (List.range (m + 1)).any (fun i => E Q i && !Q i) = true) : starIt m E (k + 1) Q = starIt m E k (fun i => Q i || E Q i) := by
  rw [starIt, if_pos h]
theorem starIt_no {m : Nat} {E : (Nat → Bool) → Nat → Bool} {k : Nat} {Q : Nat → Bool} (h : (List.range (m + 1)).any (fun i => E Q i && !Q i) = false) : starIt m E (k + 1) Q = fun i => Q i || E Q i := by
  rw [starIt, if_neg (by rw [h]; decide)]

set_option maxRecDepth 100000 in
set_option maxHeartbeats 4000000 in
theorem ends_star (S : Set4) (n : Int) {b off : Nat} (cap : Nat) {r0 : CRow} {E : (Nat → Bool) → Nat → Bool} (hr0 : ∀ w', Fut g w' → w'.rangeAt b off (cellsR r0).toList) (H0 : EndsSpec g s sa sc r0 E) (hs : s.length ≤ 1000) (P : Nat → Bool) (pa : Option Addr) (pc : Nat) (hp : SliceV g pa (s.length + 1) pc (boolsV (s.length + 1) P)) (w : World) (hw : Fut g w) :
    Calls Try.prog 85 #[.agg (cellsR ⟨5, S, n, some ⟨b, off, none⟩, 1, cap⟩), .slice sa s.length sc, .slice pa (s.length + 1) pc] w (EndsP g s.length (starIt s.length E (s.length + 1) P) w) := by
  obtain ⟨g1, hg1, c0, cs, cn, cl, cv⟩ := box_ref hw ⟨5, S, n, some ⟨b, off, none⟩, 1, cap⟩
  obtain ⟨pb, po, rfl, hpc, -, hcp⟩ := from_row (hp.le hg1.le)
  have hf1 := hg1.fut
  have hle1 := hg1.le
  have hf2 := hf1.alloc (.cells (boolsV (s.length + 1) fun _ => false).toArray 4)
  have HA := hid (fun g' (hle : g1.Le g') => H0 g' (hg1.le.trans hle))
  have HR0 := hid (fun w' (hw' : Fut g1 w') => hr0 w' (hw'.le hle1))
  have hmk := make_bools s.length (by omega)
  have hsum : IntKind.i64.wrap ((s.length : Int) + 1) = (s.length : Int) + 1 := IntWalk.i64_in _ (by omega)
  have HT := hid (to_start (n := s.length) hg1 (World.size_alloc _ _))
  have HCP := hid (hcp _ hf2)
  generalize hRES : starIt s.length E (s.length + 1) P = RES
  have HRES := hid hRES
  clear cs cv hg1 hr0 H0 hp hcp hRES
  go_enter Try.func85, Try.ntmps85
  go_wp2_with (first | (refine wpList_copy_own rfl _ _ 97 97 rfl 4 Try.underlying97 (by kernel_rfl) (w.heap.size + 1) 0 (s.length + 1) (s.length + 1) ⟨pb, po, none⟩ (s.length + 1) pc rfl rfl (boolsV (s.length + 1) fun _ => false).toArray 4 HT.out.row (boolsV (s.length + 1) P) (by rw [bools_len]; exact (Nat.min_self _).symm) HCP.out (by simp [bools_len]) (boolsV_one _ _) ?_; rw [copy_whole]) | fail)
  have HT2 : Hid (ToInv g w (w.heap.size + 1) s.length P g1 (World.setRow _ (w.heap.size + 1) (boolsV (s.length + 1) P).toArray)) := ⟨HT.out.grow.setRow HT.out.nb HT.out.lt _, setRow_heap _ _ _ _ _ _ HT.out.row, HT.out.nb, HT.out.lt⟩
  clear HT HCP hf2
  go_loopg [13] (s.length + 1) (fun rem i wr => ∃ (k : Nat) (Q : Nat → Bool) (gq : G), k + rem = s.length + 1 ∧ i = .int .i64 k ∧ ToInv g w (w.heap.size + 1) s.length Q gq wr ∧ g1.Le gq ∧ Hid (starIt s.length E rem Q = RES))
  case atStart => exact ⟨0, P, g1, by omega, rfl, HT2.out, G.Le.refl _, HRES.out⟩
  case round =>
    obtain ⟨k, Q, gq, hk, rfl, hI, hle2, HQ⟩ := hrel
    have hfq := hI.grow.fut
    have d3 := fun w' (h : Fut gq w') => cl w' (h.le hle2)
    have hH := HR0.out _ (hfq.le hle2)
    clear HT2 hf1
    by_cases hlt : k ≤ s.length
    · obtain ⟨hfl, hll, hsl⟩ := hI.lent hs
      have HC := hid (HA.out _ (hle2.trans hll) Q _ _ hsl _ hfl)
      have HLL := hid hll
      have HFL := hid hfl
      have HI := hid hI
      have H := hid hH
      cases gk with
      | zero => omega
      | succ rem =>
      clear hI hll hfl hsl hH
      generalize hM : E Q = M at HC
      have HM := hid hM
      clear hM
      go_wp2_with (first | (refine wpList_load54 rfl _ rfl rfl H.out ?_) | (go_at_call 85; refine HC.out.mono ?_; rintro e w2 ⟨mb, rfl, hg2, hb2, hc2⟩; obtain ⟨g2, hG2, hs2⟩ := ends_keep hfq (hg2.under HLL.out) hb2 hc2 hs; have HG2 := hid hG2; have HS2 := hid hs2; have hf2 := hG2.fut; clear hg2 hb2 hc2 hG2 hs2) | fail)
      obtain ⟨mb', mo, em, -, hcm, -⟩ := from_row HS2.out
      simp only [Option.some.injEq, Addr.mk.injEq] at em
      obtain ⟨rfl, rfl, -⟩ := em
      have HCM := hid hcm
      have HT3 := hid (HI.out.go HG2.out)
      have hle3 := hle2.trans HG2.out.le
      clear HI HG2 HS2 HC H HFL HLL hcm d3 hfq
      go_loopg [15, 16] (s.length + 1) (fun rem s15 i wr => ∃ (q : Nat) (Q2 : Nat → Bool) (b : Bool), q + rem = s.length + 1 ∧ s15 = .bool b ∧ i = .int .i64 q ∧ ToInv g w (w.heap.size + 1) s.length Q2 g2 wr ∧ Hid (b = (List.range q).any (fun t => M t && !Q t)) ∧ Hid (∀ t, t ≤ s.length → Q2 t = if t < q then (Q t || M t) else Q t))
      case atStart => exact ⟨0, Q, false, by omega, rfl, rfl, HT3.out, rfl, fun t ht => by simp⟩
      case round =>
        obtain ⟨q, Q2, bb, hq, rfl, rfl, hI, HB, HQ2⟩ := hrel
        have hfr := hI.grow.fut
        clear HT3
        by_cases hlq : q ≤ s.length
        · have k1 := HCM.out _ hfr q hlq
          rw [Nat.zero_add] at k1
          have k2 := hI.get (i := q) hlq
          have hq2 : Q2 q = Q q := by rw [HQ2.out q hlq, if_neg (Nat.lt_irrefl _)]
          rw [hq2] at k2
          have hfz := hI.free q
          have HPUT := hid (fun b => hI.put q b)
          have hqi : (q : Int) ≤ s.length := by omega
          have hany : (List.range (q + 1)).any (fun t => M t && !Q t) = ((List.range q).any (fun t => M t && !Q t) || (M q && !Q q)) := by
            rw [List.range_succ, List.any_append]; simp
          have HANY := hid hany
          have hupd : ∀ c, c = (Q q || M q) → ∀ t, t ≤ s.length → boolUpd Q2 q c t = if t < q + 1 then (Q t || M t) else Q t := by
            intro c hc t ht
            unfold boolUpd
            split
            · rename_i e
              rw [e, if_pos (by omega), hc]
            · rw [HQ2.out t ht]
              by_cases h1 : t < q
              · rw [if_pos h1, if_pos (by omega)]
              · rw [if_neg h1, if_neg (by omega)]
          have HUPD := hid hupd
          clear hI hany hupd hq2
          rw [← HB.out] at HANY
          cases bb <;> cases hMq : M q <;> cases hQq : Q q
          all_goals
            rw [hMq, hQq] at HANY HUPD
            rw [hMq] at k1
            rw [hQq] at k2
            go_wp2_with fail
            go_roundg (s.length + 1 - (q + 1))
            case measure => omega
            case rel => exact ⟨q + 1, _, _, by omega, rfl, by go_num, HPUT.out _, HANY.out.symm, HUPD.out _ rfl⟩
        · obtain rfl : q = s.length + 1 := by omega
          have hT5 := hI.congr (P := fun i => Q i || M i) (fun i hi => by rw [HQ2.out i hi, if_pos (by omega)])
          have HT5 := hid hT5
          clear hI hT5
          cases bb with
          | true =>
            have hst : starIt s.length E rem (fun i => Q i || M i) = RES := by
              rw [← HM.out, ← starIt_yes (by rw [HM.out]; exact HB.out.symm)]; exact HQ.out
            have HST := hid hst
            clear hst
            go_wp2_with fail
            go_roundg rem
            case measure => omega
            case rel => exact ⟨k + 1, _, g2, by omega, by go_num, HT5.out, hle3, HST.out⟩
          | false =>
            have hst : (fun i => Q i || M i) = RES := by
              rw [← HM.out, ← starIt_no (k := rem) (by rw [HM.out]; exact HB.out.symm)]; exact HQ.out
            have HST := hid hst
            clear hst
            go_wp2_with fail
            go_ret
            rw [← HST.out]
            exact HT5.out.done (fun i hi => rfl)
    · obtain rfl : k = s.length + 1 := by omega
      have HI := hid hI
      obtain rfl : gk = 0 := by omega
      clear hI hH
      go_wp2_with fail
      go_ret
      rw [← HQ.out]
      exact HI.out.done (fun i hi => rfl)
end
end Go.Proofs.Ytjodmimnbpgfcaa
