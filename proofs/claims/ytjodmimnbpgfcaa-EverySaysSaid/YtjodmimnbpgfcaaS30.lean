/- The reference's every, walked: one behind the other. A library text: no claim is stated here. -/
import Derived.Test.YtjodmimnbpgfcaaS29

/- EvD -/
namespace Go.Proofs.Ytjodmimnbpgfcaa
open Go.RowKit Go.IntWalk

theorem ValV.two61 {g : G} {r q : VRow} {v u : Val} {b : Nat} {e : TypeId} (h : ValV g r v) (h' : ValV g q u) (hb : g.blk b = some (.cells #[.int .i64 r.k, .int .u8 r.b, .slice r.a r.len r.cap, .int .i64 q.k, .int .u8 q.b, .slice q.a q.len q.cap] e)) (k b' : Int) :
    ValV g ⟨k, b', some ⟨b, 0, none⟩, 2, 2⟩ (.mk k b' [v, u]) := by
  refine .row k b' b 0 2 [v, u] (fun i => if i = 0 then r else q) (by simp) (by simp) (by omega) (fun i hi => ?_) (fun i hi => ?_)
  · have : i = 0 ∨ i = 1 := by simp at hi; omega
    rcases this with rfl | rfl
    · exact ⟨fut_cell hb 0 _ rfl, fut_cell hb 1 _ rfl, fut_cell hb 2 _ rfl⟩
    · exact ⟨fut_cell hb 3 _ rfl, fut_cell hb 4 _ rfl, fut_cell hb 5 _ rfl⟩
  · have : i = 0 ∨ i = 1 := by simp at hi; omega
    rcases this with rfl | rfl
    · exact h
    · exact h'

theorem heap_drew_new2 (w : World) (o1 o2 : Obj) : ((w.alloc o1).alloc o2).drew.heap[w.heap.size + 1]? = some o2 := by
  have := heap_alloc_new (w.alloc o1) o2
  rw [World.size_alloc] at this
  exact this

/-- Pairs out of A and B. -/
def pairsV (A B : List Val) : List Val := A.flatMap fun x => B.map fun y => Val.mk 3 0 [x, y]
theorem pairsV_snoc (A B : List Val) {i : Nat} (hi : i < A.length) : pairsV (A.take (i + 1)) B = pairsV (A.take i) B ++ B.map fun y => Val.mk 3 0 [A[i], y] := by
  unfold pairsV
  rw [List.take_add_one, List.getElem?_eq_getElem hi, List.flatMap_append]
  simp
theorem range_split {α : Type} (f : Nat → List α) {k n : Nat} (h : k ≤ n) : ∃ Y, (List.range n).flatMap f = (List.range k).flatMap f ++ Y := by
  obtain ⟨d, rfl⟩ : ∃ d, n = k + d := ⟨n - k, by omega⟩
  exact ⟨_, by rw [List.range_add, List.flatMap_append]⟩

theorem EvSpec.part {g : G} {most : Int} {r : CRow} {F : List UInt8 → List Val} (h : EvSpec g most r F) {u : List UInt8} (hu : u.length ≤ 1000) {sa : Option Addr} {sc : Nat} (hsl : SliceV g sa u.length sc (u.map byteV)) {k : Nat} (hk : k ≤ u.length) :
    ∀ g', g.Le g' → ∀ w, Fut g' w → Calls Try.prog 40 #[.agg (cellsR r), .slice sa k sc, .int .i64 most] w (EvPost g' (F (u.take k)) w) := by
  intro g' hle w hw
  have hl : (u.take k).length = k := by simp; omega
  have h1 := h g' hle (u.take k) sa sc (by omega) (by rw [hl, List.map_take]; exact (hsl.le hle).take hk) w hw
  rwa [hl] at h1
theorem EvSpec.rest {g : G} {most : Int} {r : CRow} {F : List UInt8 → List Val} (h : EvSpec g most r F) {u : List UInt8} (hu : u.length ≤ 1000) {sa : Option Addr} {sc : Nat} (hsl : SliceV g sa u.length sc (u.map byteV)) {k : Nat} (hk : k ≤ u.length) :
    ∀ g', g.Le g' → ∀ w, Fut g' w → Calls Try.prog 40 #[.agg (cellsR r), .slice (tailA sa sc k 1) (u.length - k) (sc - k), .int .i64 most] w (EvPost g' (F (u.drop k)) w) := by
  intro g' hle w hw
  have hl : (u.drop k).length = u.length - k := by simp
  have h1 := h g' hle (u.drop k) (tailA sa sc k 1) (sc - k) (by omega) (by rw [hl, List.map_drop]; exact (hsl.le hle).drop hk) w hw
  rwa [hl] at h1

set_option maxRecDepth 100000 in
set_option maxHeartbeats 4000000 in
theorem ev_both {g : G} (s : Set4) (n : Int) {b off : Nat} (cap : Nat) {r0 r1 : CRow} {FA FB : List UInt8 → List Val} (m : Nat) (most : Int) (hmm : (m : Int) = most + 1) (hm2 : m ≤ 2001) (hr0 : ∀ w', Fut g w' → w'.rangeAt b off (cellsR r0).toList) (hr1 : ∀ w', Fut g w' → w'.rangeAt b (off + 259) (cellsR r1).toList) (H0 : EvSpec g most r0 FA) (H1 : EvSpec g most r1 FB) (hFA : ∀ u, (FA u).length ≤ m) (hFB : ∀ u, (FB u).length ≤ m) {sa : Option Addr} {sc : Nat} (u : List UInt8) (hu : u.length ≤ 1000) (hsl : SliceV g sa u.length sc (u.map byteV)) (w : World) (hw : Fut g w) :
    Calls Try.prog 40 #[.agg (cellsR ⟨3, s, n, some ⟨b, off, none⟩, 2, cap⟩), .slice sa u.length sc, .int .i64 most] w (EvPost g (((List.range (u.length + 1)).flatMap fun k => pairsV (FA (u.take k)) (FB (u.drop k))).take m) w) := by
  obtain ⟨i0, hi, hz0, hz1, hz2⟩ := info_parts Try.info61
  obtain ⟨g1, hg1, c0, cs, cn, cl, cv⟩ := box_ref hw ⟨3, s, n, some ⟨b, off, none⟩, 2, cap⟩
  have hf1 := hg1.fut
  have hle1 := hg1.le
  have hscu := hsl.length.2.1
  have HA := hid (fun (k : Nat) (hk : k ≤ u.length) => H0.part hu hsl hk)
  have HB := hid (fun (k : Nat) (hk : k ≤ u.length) => H1.rest hu hsl hk)
  have HR0 := hid (fun w' (hw' : Fut g1 w') => hr0 w' (hw'.le hle1))
  have HR1 := hid (fun w' (hw' : Fut g1 w') => hr1 w' (hw'.le hle1))
  have HG1 := hid hg1
  clear cs cv hg1 hr0 hr1 H0 H1
  generalize hRES : ((List.range (u.length + 1)).flatMap fun k => pairsV (FA (u.take k)) (FB (u.drop k))).take m = RES
  have HRES := hid hRES
  clear hRES
  go_enter Try.func40, Try.ntmps40
  go_wp2_with fail
  go_loopg [7, 8] (u.length + 1) (fun rem s7 i wr => ∃ (k n7 : Nat) (gq : G) (la : Option Addr) (lc : Nat) (rs : List VRow), k + rem = u.length + 1 ∧ s7 = .slice la n7 lc ∧ (((List.range k).flatMap fun k => pairsV (FA (u.take k)) (FB (u.drop k))).take m).length = n7 ∧ i = .int .i64 k ∧ g1.Le gq ∧ EInv g w (((List.range k).flatMap fun k => pairsV (FA (u.take k)) (FB (u.drop k))).take m) gq wr la lc rs)
  case atStart => exact ⟨0, 0, g1, none, 0, [], by omega, rfl, by simp, rfl, G.Le.refl _, by simpa using EInv.start HG1.out⟩
  case round =>
    obtain ⟨k, n7, gq, la, lc, rs, hk, rfl, hn7, rfl, hle2, hI⟩ := hrel
    have hn7m : n7 ≤ m := by rw [← hn7, List.length_take]; omega
    have hfq := hI.grow.fut
    have d3 := fun w' (h : Fut gq w') => cl w' (h.le hle2)
    have HE0 := hid hI
    clear hI hf1 HG1
    by_cases hku : k ≤ u.length
    · by_cases hroom : (n7 : Int) ≤ most
      · have HAk := hid (fun g' (hle : g1.Le g') => HA.out k hku g' (hle1.trans hle))
        have HBk := hid (fun g' (hle : g1.Le g') => HB.out k hku g' (hle1.trans hle))
        have hAl := hFA (u.take k)
        have hBl := hFB (u.drop k)
        have hP : (List.range (k + 1)).flatMap (fun k => pairsV (FA (u.take k)) (FB (u.drop k))) = (List.range k).flatMap (fun k => pairsV (FA (u.take k)) (FB (u.drop k))) ++ pairsV (FA (u.take k)) (FB (u.drop k)) := by
          rw [List.range_succ, List.flatMap_append]; simp
        generalize FA (u.take k) = A at HAk hAl hP
        generalize FB (u.drop k) = B at HBk hBl hP
        generalize hPd : (List.range k).flatMap (fun k => pairsV (FA (u.take k)) (FB (u.drop k))) = P at HE0 hn7 hP
        clear HA HB hFA hFB
        go_upto_region 13 with fail
        refine wp_region_held_drew (S := (fun w' => Fut gq w')) (by kernel_rfl) hfq.drew ?_
        intro hS0
        refine wpAnyH_take (i := 0) (oi := { dst := some 69, op := Go.Op.fieldAddr 54 (Go.Operand.tmp 3) 3, type := 0, pos := "ref.go:757", after := #[], guard := none }) (v := ?_) rfl (by kernel_rfl) (by kernel_rfl) (by kernel_rfl) (fun _ _ _ h => h) (Or.inl ⟨by rfl, ?_⟩) (by assumption) ?_
        rotate_left
        · intro w hSw; have hS1 := hSw.le hle2; go_simp; all_goals with_reducible rfl
        try simp only [Act.put, List.setIfInBounds_toArray, List.set_cons_zero, List.set_cons_succ]
        refine wpAnyH_take (i := 1) (oi := { dst := some 70, op := Go.Op.load 52 (Go.Operand.tmp 69), type := 52, pos := "ref.go:757", after := #[{ on := 0, ground := Go.Ground.data }], guard := none }) (v := ?_) rfl (by kernel_rfl) (by kernel_rfl) (by kernel_rfl) (fun _ _ _ h => h) (Or.inl ⟨by rfl, ?_⟩) (by assumption) ?_
        rotate_left
        · intro w hSw; have hS1 := hSw.le hle2; go_simp; all_goals with_reducible rfl
        try simp only [Act.put, List.setIfInBounds_toArray, List.set_cons_zero, List.set_cons_succ]
        refine wpAnyH_take (i := 2) (oi := { dst := some 71, op := Go.Op.indexAddr 52 (Go.Operand.tmp 70) (Go.Operand.const (Go.Value.int Go.IntKind.i64 0)), type := 0, pos := "ref.go:757", after := #[{ on := 1, ground := Go.Ground.data }], guard := none }) (v := ?_) rfl (by kernel_rfl) (by kernel_rfl) (by kernel_rfl) (fun _ _ _ h => h) (Or.inl ⟨by rfl, ?_⟩) (by assumption) ?_
        rotate_left
        · intro w hSw; have hS1 := hSw.le hle2; go_simp; all_goals with_reducible rfl
        try simp only [Act.put, List.setIfInBounds_toArray, List.set_cons_zero, List.set_cons_succ]
        refine wpAnyH_take (i := 3) (oi := { dst := some 72, op := Go.Op.load 54 (Go.Operand.tmp 71), type := 54, pos := "ref.go:757", after := #[{ on := 2, ground := Go.Ground.data }], guard := none }) (v := ?_) rfl (by kernel_rfl) (by kernel_rfl) (by kernel_rfl) (fun _ _ _ h => h) (Or.inl ⟨by rfl, ?_⟩) (by assumption) ?_
        rotate_left
        · intro w hSw; refine exec_load54 (x := .tmp 71) (r := r0) ?_ ?_ (HR0.out _ (hSw.le hle2)) <;> rfl
        try simp only [Act.put, List.setIfInBounds_toArray, List.set_cons_zero, List.set_cons_succ]
        refine wpAnyH_take (i := 4) (oi := { dst := some 73, op := Go.Op.move (Go.Operand.tmp 1), type := 28, pos := "ref.go:757", after := #[], guard := none }) (v := ?_) rfl (by kernel_rfl) (by kernel_rfl) (by kernel_rfl) (fun _ _ _ h => h) (Or.inl ⟨by rfl, ?_⟩) (by assumption) ?_
        rotate_left
        · intro w hSw; have hS1 := hSw.le hle2; go_simp; all_goals with_reducible rfl
        try simp only [Act.put, List.setIfInBounds_toArray, List.set_cons_zero, List.set_cons_succ]
        refine wpAnyH_take (i := 5) (oi := { dst := some 74, op := Go.Op.move (Go.Operand.tmp 8), type := 3, pos := "ref.go:757", after := #[], guard := none }) (v := ?_) rfl (by kernel_rfl) (by kernel_rfl) (by kernel_rfl) (fun _ _ _ h => h) (Or.inl ⟨by rfl, ?_⟩) (by assumption) ?_
        rotate_left
        · intro w hSw; have hS1 := hSw.le hle2; go_simp; all_goals with_reducible rfl
        try simp only [Act.put, List.setIfInBounds_toArray, List.set_cons_zero, List.set_cons_succ]
        refine wpAnyH_take (i := 6) (oi := { dst := some 75, op := Go.Op.slice 28 (Go.Operand.tmp 73) none (some (Go.Operand.tmp 74)) none, type := 28, pos := "ref.go:757", after := #[{ on := 4, ground := Go.Ground.data }, { on := 5, ground := Go.Ground.data }], guard := none }) (v := ?_) rfl (by kernel_rfl) (by kernel_rfl) (by kernel_rfl) (fun _ _ _ h => h) (Or.inl ⟨by rfl, ?_⟩) (by assumption) ?_
        rotate_left
        · intro w hSw; refine exec_take28 (x := .tmp 73) (y := .tmp 74) (sa := sa) (n := u.length) (sc := sc) (k := k) ?_ ?_ ?_ (by omega) <;> rfl
        try simp only [Act.put, List.setIfInBounds_toArray, List.set_cons_zero, List.set_cons_succ]
        refine wpAnyH_take (i := 7) (oi := { dst := some 76, op := Go.Op.move (Go.Operand.tmp 2), type := 3, pos := "ref.go:757", after := #[], guard := none }) (v := ?_) rfl (by kernel_rfl) (by kernel_rfl) (by kernel_rfl) (fun _ _ _ h => h) (Or.inl ⟨by rfl, ?_⟩) (by assumption) ?_
        rotate_left
        · intro w hSw; have hS1 := hSw.le hle2; go_simp; all_goals with_reducible rfl
        try simp only [Act.put, List.setIfInBounds_toArray, List.set_cons_zero, List.set_cons_succ]
        refine wpAnyH_ready (rs := [8]) (by kernel_rfl) (by simp) ?_
        refine (AllReadyH.cons (o := { dst := some 77, op := Go.Op.call { callee := Go.Callee.value (Go.Operand.func 40), args := #[Go.Operand.tmp 72, Go.Operand.tmp 75, Go.Operand.tmp 76], argTypes := #[54, 28, 3] }, type := 56, pos := "ref.go:757", after := #[{ on := 3, ground := Go.Ground.data }, { on := 6, ground := Go.Ground.data }, { on := 7, ground := Go.Ground.data }], guard := none }) rfl (fun K hK => ?_) AllReadyH.nil)
        · go_simp
          refine (HAk.out gq hle2 _ (by assumption)).mono ?_
          rintro e w2 ⟨g2, aa, ac, rfl, hg2, hv2⟩
          have hf2 := hg2.fut
          have HG2 := hid ((Grow.refl hfq).drew.trans hg2)
          have HV2 := hid hv2
          have hfq2 := hg2.fut.le hg2.le
          clear hg2 hv2
          try go_wp2_with fail
          refine hK.out _ _ ?_ (fun hHeld => ?_)
          · first | exact Fut.drew (by assumption) | exact Fut.alloc (by assumption) _ | assumption
          clear hK K
          try simp only [Act.put, List.setIfInBounds_toArray, List.set_cons_zero, List.set_cons_succ]
          refine wpAnyH_take (i := 9) (oi := { dst := some 9, op := Go.Op.assign (Go.Operand.tmp 77), type := 56, pos := "ref.go:757", after := #[{ on := 8, ground := Go.Ground.data }, { on := 8, ground := Go.Ground.chain }, { on := 0, ground := Go.Ground.phase }, { on := 1, ground := Go.Ground.phase }, { on := 2, ground := Go.Ground.phase }, { on := 3, ground := Go.Ground.phase }, { on := 4, ground := Go.Ground.phase }, { on := 5, ground := Go.Ground.phase }, { on := 6, ground := Go.Ground.phase }, { on := 7, ground := Go.Ground.phase }, { on := 8, ground := Go.Ground.phase }], guard := none }) (v := ?_) rfl (by kernel_rfl) (by kernel_rfl) (by kernel_rfl) (fun _ _ _ h => h) (Or.inl ⟨by rfl, ?_⟩) (by assumption) ?_
          rotate_left
          · intro w hSw; have hS1 := hSw.le hle2; go_simp; all_goals with_reducible rfl
          try simp only [Act.put, List.setIfInBounds_toArray, List.set_cons_zero, List.set_cons_succ]
          refine wpAnyH_done (by kernel_rfl) ?_ _
          by_cases hA0 : A.length = 0
          · have hA0' : ((A.length : Int) == 0) = true := by simp [hA0]
            go_wp2_with fail
            go_roundg (u.length + 1 - (k + 1))
            case measure => omega
            case rel =>
              have hA : A = [] := List.eq_nil_of_length_eq_zero hA0
              subst hA
              have e : pairsV [] B = [] := rfl
              rw [e, List.append_nil] at hP
              exact ⟨k + 1, n7, g2, la, lc, rs, by omega, rfl, by rw [hP]; exact hn7, by go_num, hle2.trans HG2.out.le, by rw [hP]; exact HE0.out.go HG2.out⟩
          · have hA0' : ((A.length : Int) == 0) = false := by simp; intro e; exact hA0 (by rw [e]; rfl)
            have hle3 := hle2.trans HG2.out.le
            have d4 := fun w' (h : Fut g2 w') => cl w' (h.le hle3)
            go_upto_region 15 with fail
            refine wp_region_held_drew (S := (fun w' => Fut g2 w')) (by kernel_rfl) hf2.drew ?_
            intro hS0
            refine wpAnyH_take (i := 0) (oi := { dst := some 81, op := Go.Op.fieldAddr 54 (Go.Operand.tmp 3) 3, type := 0, pos := "ref.go:761", after := #[], guard := none }) (v := ?_) rfl (by kernel_rfl) (by kernel_rfl) (by kernel_rfl) (fun _ _ _ h => h) (Or.inl ⟨by rfl, ?_⟩) (by assumption) ?_
            rotate_left
            · intro w hSw; have hS1 := hSw.le hle3; go_simp; all_goals with_reducible rfl
            try simp only [Act.put, List.setIfInBounds_toArray, List.set_cons_zero, List.set_cons_succ]
            refine wpAnyH_take (i := 1) (oi := { dst := some 82, op := Go.Op.load 52 (Go.Operand.tmp 81), type := 52, pos := "ref.go:761", after := #[{ on := 0, ground := Go.Ground.data }], guard := none }) (v := ?_) rfl (by kernel_rfl) (by kernel_rfl) (by kernel_rfl) (fun _ _ _ h => h) (Or.inl ⟨by rfl, ?_⟩) (by assumption) ?_
            rotate_left
            · intro w hSw; have hS1 := hSw.le hle3; go_simp; all_goals with_reducible rfl
            try simp only [Act.put, List.setIfInBounds_toArray, List.set_cons_zero, List.set_cons_succ]
            refine wpAnyH_take (i := 2) (oi := { dst := some 83, op := Go.Op.indexAddr 52 (Go.Operand.tmp 82) (Go.Operand.const (Go.Value.int Go.IntKind.i64 1)), type := 0, pos := "ref.go:761", after := #[{ on := 1, ground := Go.Ground.data }], guard := none }) (v := ?_) rfl (by kernel_rfl) (by kernel_rfl) (by kernel_rfl) (fun _ _ _ h => h) (Or.inl ⟨by rfl, ?_⟩) (by assumption) ?_
            rotate_left
            · intro w hSw; have hS1 := hSw.le hle3; go_simp; all_goals with_reducible rfl
            try simp only [Act.put, List.setIfInBounds_toArray, List.set_cons_zero, List.set_cons_succ]
            refine wpAnyH_take (i := 3) (oi := { dst := some 84, op := Go.Op.load 54 (Go.Operand.tmp 83), type := 54, pos := "ref.go:761", after := #[{ on := 2, ground := Go.Ground.data }], guard := none }) (v := ?_) rfl (by kernel_rfl) (by kernel_rfl) (by kernel_rfl) (fun _ _ _ h => h) (Or.inl ⟨by rfl, ?_⟩) (by assumption) ?_
            rotate_left
            · intro w hSw; refine exec_load54 (x := .tmp 83) (r := r1) ?_ ?_ (HR1.out _ (hSw.le hle3)) <;> rfl
            try simp only [Act.put, List.setIfInBounds_toArray, List.set_cons_zero, List.set_cons_succ]
            refine wpAnyH_take (i := 4) (oi := { dst := some 85, op := Go.Op.move (Go.Operand.tmp 1), type := 28, pos := "ref.go:761", after := #[], guard := none }) (v := ?_) rfl (by kernel_rfl) (by kernel_rfl) (by kernel_rfl) (fun _ _ _ h => h) (Or.inl ⟨by rfl, ?_⟩) (by assumption) ?_
            rotate_left
            · intro w hSw; have hS1 := hSw.le hle3; go_simp; all_goals with_reducible rfl
            try simp only [Act.put, List.setIfInBounds_toArray, List.set_cons_zero, List.set_cons_succ]
            refine wpAnyH_take (i := 5) (oi := { dst := some 86, op := Go.Op.move (Go.Operand.tmp 8), type := 3, pos := "ref.go:761", after := #[], guard := none }) (v := ?_) rfl (by kernel_rfl) (by kernel_rfl) (by kernel_rfl) (fun _ _ _ h => h) (Or.inl ⟨by rfl, ?_⟩) (by assumption) ?_
            rotate_left
            · intro w hSw; have hS1 := hSw.le hle3; go_simp; all_goals with_reducible rfl
            try simp only [Act.put, List.setIfInBounds_toArray, List.set_cons_zero, List.set_cons_succ]
            refine wpAnyH_take (i := 6) (oi := { dst := some 87, op := Go.Op.slice 28 (Go.Operand.tmp 85) (some (Go.Operand.tmp 86)) none none, type := 28, pos := "ref.go:761", after := #[{ on := 4, ground := Go.Ground.data }, { on := 5, ground := Go.Ground.data }], guard := none }) (v := ?_) rfl (by kernel_rfl) (by kernel_rfl) (by kernel_rfl) (fun _ _ _ h => h) (Or.inl ⟨by rfl, ?_⟩) (by assumption) ?_
            rotate_left
            · intro w hSw; refine exec_drop28 (x := .tmp 85) (y := .tmp 86) (sa := sa) (n := u.length) (sc := sc) (k := k) ?_ ?_ ?_ (by omega) <;> rfl
            try simp only [Act.put, List.setIfInBounds_toArray, List.set_cons_zero, List.set_cons_succ]
            refine wpAnyH_take (i := 7) (oi := { dst := some 88, op := Go.Op.move (Go.Operand.tmp 2), type := 3, pos := "ref.go:761", after := #[], guard := none }) (v := ?_) rfl (by kernel_rfl) (by kernel_rfl) (by kernel_rfl) (fun _ _ _ h => h) (Or.inl ⟨by rfl, ?_⟩) (by assumption) ?_
            rotate_left
            · intro w hSw; have hS1 := hSw.le hle3; go_simp; all_goals with_reducible rfl
            try simp only [Act.put, List.setIfInBounds_toArray, List.set_cons_zero, List.set_cons_succ]
            refine wpAnyH_ready (rs := [8]) (by kernel_rfl) (by simp) ?_
            refine (AllReadyH.cons (o := { dst := some 89, op := Go.Op.call { callee := Go.Callee.value (Go.Operand.func 40), args := #[Go.Operand.tmp 84, Go.Operand.tmp 87, Go.Operand.tmp 88], argTypes := #[54, 28, 3] }, type := 56, pos := "ref.go:761", after := #[{ on := 3, ground := Go.Ground.data }, { on := 6, ground := Go.Ground.data }, { on := 7, ground := Go.Ground.data }], guard := none }) rfl (fun K hK => ?_) AllReadyH.nil)
            · go_simp
              refine (HBk.out g2 hle3 _ (by assumption)).mono ?_
              rintro e w3 ⟨g3, ba, bc, rfl, hg3, hv3⟩
              have hf3 := hg3.fut
              have HG3 := hid ((Grow.refl hf2).drew.trans hg3)
              have HV3 := hid hv3
              have hfq3 := hg3.fut.le hg3.le
              clear hg3 hv3
              try go_wp2_with fail
              refine hK.out _ _ ?_ (fun hHeld => ?_)
              · first | exact Fut.drew (by assumption) | exact Fut.alloc (by assumption) _ | assumption
              clear hK K
              try simp only [Act.put, List.setIfInBounds_toArray, List.set_cons_zero, List.set_cons_succ]
              refine wpAnyH_take (i := 9) (oi := { dst := some 10, op := Go.Op.assign (Go.Operand.tmp 89), type := 56, pos := "ref.go:761", after := #[{ on := 8, ground := Go.Ground.data }, { on := 8, ground := Go.Ground.chain }, { on := 0, ground := Go.Ground.phase }, { on := 1, ground := Go.Ground.phase }, { on := 2, ground := Go.Ground.phase }, { on := 3, ground := Go.Ground.phase }, { on := 4, ground := Go.Ground.phase }, { on := 5, ground := Go.Ground.phase }, { on := 6, ground := Go.Ground.phase }, { on := 7, ground := Go.Ground.phase }, { on := 8, ground := Go.Ground.phase }], guard := none }) (v := ?_) rfl (by kernel_rfl) (by kernel_rfl) (by kernel_rfl) (fun _ _ _ h => h) (Or.inl ⟨by rfl, ?_⟩) (by assumption) ?_
              rotate_left
              · intro w hSw; have hS1 := hSw.le hle3; go_simp; all_goals with_reducible rfl
              try simp only [Act.put, List.setIfInBounds_toArray, List.set_cons_zero, List.set_cons_succ]
              refine wpAnyH_done (by kernel_rfl) ?_ _
              have HE1 := hid ((HE0.out.go HG2.out).go HG3.out)
              have HVA : Hid (ValsV g3 aa A.length ac A) := hid (ValV.le HV2.out HG3.out.le)
              have hle5 := hle3.trans HG3.out.le
              clear HE0 HG2 HG3 HV2 HAk HBk d3 d4 hfq2 hfq
              go_wp2_with fail
              go_loopg [7, 11] A.length (fun rem s7 i wr => ∃ (p n8 : Nat) (gp : G) (la : Option Addr) (lc : Nat) (rs : List VRow), p + rem = A.length ∧ s7 = .slice la n8 lc ∧ ((P ++ pairsV (A.take p) B).take m).length = n8 ∧ i = .int .i64 p ∧ g3.Le gp ∧ EInv g w ((P ++ pairsV (A.take p) B).take m) gp wr la lc rs)
              case atStart => exact ⟨0, n7, g3, la, lc, rs, by omega, rfl, by simpa [pairsV] using hn7, rfl, G.Le.refl _, by simpa [pairsV] using HE1.out⟩
              case round =>
                clear HE1
                obtain ⟨p, n8, gp, la1, lc1, rs1, hp, rfl, hn8, rfl, hle6, hI⟩ := hrel
                by_cases hlt : p < A.length
                · have HE2 := hid hI
                  clear hI
                  go_wp2_with fail
                  go_loopg [7, 12] B.length (fun rem s7 i wr => ∃ (j n9 : Nat) (gj : G) (la : Option Addr) (lc : Nat) (rs : List VRow), j + rem = B.length ∧ s7 = .slice la n9 lc ∧ ((P ++ pairsV (A.take p) B ++ (B.take j).map fun y => Val.mk 3 0 [A[p], y]).take m).length = n9 ∧ i = .int .i64 j ∧ g3.Le gj ∧ EInv g w ((P ++ pairsV (A.take p) B ++ (B.take j).map fun y => Val.mk 3 0 [A[p], y]).take m) gj wr la lc rs)
                  case atStart => exact ⟨0, n8, gp, la1, lc1, rs1, by omega, rfl, by simpa using hn8, rfl, hle6, by simpa using HE2.out⟩
                  case round =>
                    clear HE2
                    obtain ⟨j, n9, gj, la2, lc2, rs2, hj, rfl, hn9, rfl, hle7, hI⟩ := hrel
                    have hn9m : n9 ≤ m := by rw [← hn9, List.length_take]; omega
                    have hfj := hI.grow.fut
                    by_cases hjt : j < B.length
                    · by_cases hroom2 : (n9 : Int) ≤ most
                      · obtain ⟨ab, ao, ra, rfl, hca, hva, -⟩ := HVA.out.at hlt
                        obtain ⟨bb, bo, rb, rfl, hcb, hvb, -⟩ := HV3.out.at hjt
                        have hac := HVA.out.len.2
                        have hbc := HV3.out.len.2
                        obtain ⟨a0, a1, a2⟩ := hca.le hle7
                        obtain ⟨b0, b1, b2⟩ := hcb.le hle7
                        have hpi : (p : Int) < A.length := by omega
                        have hji : (j : Int) < B.length := by omega
                        obtain ⟨g6, hG6, hb6⟩ := box1 hfj (.cells #[.int .i64 ra.k, .int .u8 ra.b, .slice ra.a ra.len ra.cap, .int .i64 rb.k, .int .u8 rb.b, .slice rb.a rb.len rb.cap] 61)
                        have hv6 : ValV g6 ⟨3, 0, some ⟨wr.heap.size, 0, none⟩, 2, 2⟩ (.mk 3 0 [A[p], B[j]]) := ValV.two61 (hva.le (hle7.trans hG6.le)) (hvb.le (hle7.trans hG6.le)) hb6 3 0
                        have HE := hid (hI.go ((hG6.drew).alloc (.cells #[.int .i64 3, .int .u8 0, .slice (some ⟨wr.heap.size, 0, none⟩) 2 2] 61)))
                        have HV6 := hid hv6
                        have HG6 := hid hG6
                        clear hI hca hcb hva hvb hv6 hG6 hb6
                        go_upto_region 22 with fail
                        refine wp_region_held_drew (S := (fun w' => Fut gj w')) (by kernel_rfl) hfj.drew ?_
                        intro hS0
                        refine wpAnyH_take (i := 0) (oi := { dst := some 108, op := Go.Op.move (Go.Operand.tmp 7), type := 56, pos := "ref.go:764", after := #[], guard := none }) (v := ?_) rfl (by kernel_rfl) (by kernel_rfl) (by kernel_rfl) (fun _ _ _ h => h) (Or.inl ⟨by rfl, ?_⟩) (by assumption) ?_
                        rotate_left
                        · intro w hSw; go_simp; all_goals with_reducible rfl
                        try simp only [Act.put, List.setIfInBounds_toArray, List.set_cons_zero, List.set_cons_succ]
                        refine wpAnyH_take (i := 1) (oi := { dst := some 109, op := Go.Op.move (Go.Operand.tmp 9), type := 56, pos := "ref.go:764", after := #[], guard := none }) (v := ?_) rfl (by kernel_rfl) (by kernel_rfl) (by kernel_rfl) (fun _ _ _ h => h) (Or.inl ⟨by rfl, ?_⟩) (by assumption) ?_
                        rotate_left
                        · intro w hSw; go_simp; all_goals with_reducible rfl
                        try simp only [Act.put, List.setIfInBounds_toArray, List.set_cons_zero, List.set_cons_succ]
                        refine wpAnyH_take (i := 2) (oi := { dst := some 110, op := Go.Op.move (Go.Operand.tmp 11), type := 3, pos := "ref.go:764", after := #[], guard := none }) (v := ?_) rfl (by kernel_rfl) (by kernel_rfl) (by kernel_rfl) (fun _ _ _ h => h) (Or.inl ⟨by rfl, ?_⟩) (by assumption) ?_
                        rotate_left
                        · intro w hSw; go_simp; all_goals with_reducible rfl
                        try simp only [Act.put, List.setIfInBounds_toArray, List.set_cons_zero, List.set_cons_succ]
                        refine wpAnyH_take (i := 3) (oi := { dst := some 111, op := Go.Op.indexAddr 56 (Go.Operand.tmp 109) (Go.Operand.tmp 110), type := 0, pos := "ref.go:764", after := #[{ on := 1, ground := Go.Ground.data }, { on := 2, ground := Go.Ground.data }], guard := none }) (v := ?_) rfl (by kernel_rfl) (by kernel_rfl) (by kernel_rfl) (fun _ _ _ h => h) (Or.inl ⟨by rfl, ?_⟩) (by assumption) ?_
                        rotate_left
                        · intro w hSw; go_simp; all_goals with_reducible rfl
                        try simp only [Act.put, List.setIfInBounds_toArray, List.set_cons_zero, List.set_cons_succ]
                        refine wpAnyH_take (i := 4) (oi := { dst := some 112, op := Go.Op.load 61 (Go.Operand.tmp 111), type := 61, pos := "ref.go:764", after := #[{ on := 3, ground := Go.Ground.data }], guard := none }) (v := ?_) rfl (by kernel_rfl) (by kernel_rfl) (by kernel_rfl) (fun _ _ _ h => h) (Or.inl ⟨by rfl, ?_⟩) (by assumption) ?_
                        rotate_left
                        · intro w hSw; go_simp; all_goals with_reducible rfl
                        try simp only [Act.put, List.setIfInBounds_toArray, List.set_cons_zero, List.set_cons_succ]
                        refine wpAnyH_take (i := 5) (oi := { dst := some 113, op := Go.Op.move (Go.Operand.tmp 10), type := 56, pos := "ref.go:764", after := #[], guard := none }) (v := ?_) rfl (by kernel_rfl) (by kernel_rfl) (by kernel_rfl) (fun _ _ _ h => h) (Or.inl ⟨by rfl, ?_⟩) (by assumption) ?_
                        rotate_left
                        · intro w hSw; go_simp; all_goals with_reducible rfl
                        try simp only [Act.put, List.setIfInBounds_toArray, List.set_cons_zero, List.set_cons_succ]
                        refine wpAnyH_take (i := 6) (oi := { dst := some 114, op := Go.Op.move (Go.Operand.tmp 12), type := 3, pos := "ref.go:764", after := #[], guard := none }) (v := ?_) rfl (by kernel_rfl) (by kernel_rfl) (by kernel_rfl) (fun _ _ _ h => h) (Or.inl ⟨by rfl, ?_⟩) (by assumption) ?_
                        rotate_left
                        · intro w hSw; go_simp; all_goals with_reducible rfl
                        try simp only [Act.put, List.setIfInBounds_toArray, List.set_cons_zero, List.set_cons_succ]
                        refine wpAnyH_take (i := 7) (oi := { dst := some 115, op := Go.Op.indexAddr 56 (Go.Operand.tmp 113) (Go.Operand.tmp 114), type := 0, pos := "ref.go:764", after := #[{ on := 5, ground := Go.Ground.data }, { on := 6, ground := Go.Ground.data }], guard := none }) (v := ?_) rfl (by kernel_rfl) (by kernel_rfl) (by kernel_rfl) (fun _ _ _ h => h) (Or.inl ⟨by rfl, ?_⟩) (by assumption) ?_
                        rotate_left
                        · intro w hSw; go_simp; all_goals with_reducible rfl
                        try simp only [Act.put, List.setIfInBounds_toArray, List.set_cons_zero, List.set_cons_succ]
                        refine wpAnyH_take (i := 8) (oi := { dst := some 116, op := Go.Op.load 61 (Go.Operand.tmp 115), type := 61, pos := "ref.go:764", after := #[{ on := 7, ground := Go.Ground.data }], guard := none }) (v := ?_) rfl (by kernel_rfl) (by kernel_rfl) (by kernel_rfl) (fun _ _ _ h => h) (Or.inl ⟨by rfl, ?_⟩) (by assumption) ?_
                        rotate_left
                        · intro w hSw; go_simp; all_goals with_reducible rfl
                        try simp only [Act.put, List.setIfInBounds_toArray, List.set_cons_zero, List.set_cons_succ]
                        refine wpAnyH_ready (rs := [9]) (by kernel_rfl) (by simp) ?_
                        refine (AllReadyH.cons (o := { dst := some 117, op := Go.Op.buildSlice 56 2 #[(0, Go.Operand.tmp 112), (1, Go.Operand.tmp 116)], type := 56, pos := "ref.go:764", after := #[{ on := 4, ground := Go.Ground.data }, { on := 8, ground := Go.Ground.data }], guard := none }) rfl (fun K hK => ?_) AllReadyH.nil)
                        · go_simp
                          refine hK.out _ _ ?_ (fun hHeld => ?_)
                          · first | exact Fut.drew (by assumption) | exact Fut.alloc (by assumption) _ | assumption
                          clear hK K
                          try simp only [Act.put, List.setIfInBounds_toArray, List.set_cons_zero, List.set_cons_succ]
                          refine wpAnyH_take (i := 10) (oi := { dst := some 118, op := Go.Op.build 61 #[(0, Go.Operand.const (Go.Value.int Go.IntKind.i64 3)), (2, Go.Operand.tmp 117)], type := 61, pos := "ref.go:764", after := #[{ on := 9, ground := Go.Ground.data }], guard := none }) (v := ?_) rfl (by kernel_rfl) (by kernel_rfl) (by kernel_rfl) (fun _ _ _ h => h) (Or.inl ⟨by rfl, ?_⟩) (by assumption) ?_
                          rotate_left
                          · intro w hSw; go_simp; all_goals with_reducible rfl
                          try simp only [Act.put, List.setIfInBounds_toArray, List.set_cons_zero, List.set_cons_succ]
                          refine wpAnyH_ready (rs := [11]) (by kernel_rfl) (by simp) ?_
                          refine (AllReadyH.cons (o := { dst := some 119, op := Go.Op.buildSlice 56 1 #[(0, Go.Operand.tmp 118)], type := 56, pos := "ref.go:764", after := #[{ on := 10, ground := Go.Ground.data }], guard := none }) rfl (fun K hK => ?_) AllReadyH.nil)
                          · go_simp
                            refine hK.out _ _ ?_ (fun hHeld => ?_)
                            · first | exact Fut.drew (by assumption) | exact Fut.alloc (by assumption) _ | assumption
                            clear hK K
                            try simp only [Act.put, List.setIfInBounds_toArray, List.set_cons_zero, List.set_cons_succ]
                            refine wpAnyH_ready (rs := [12]) (by kernel_rfl) (by simp) ?_
                            refine (AllReadyH.cons (o := { dst := some 120, op := Go.Op.call { callee := Go.Callee.builtin Go.Builtin.append, args := #[Go.Operand.tmp 108, Go.Operand.tmp 119], argTypes := #[56, 56] }, type := 56, pos := "ref.go:764", after := #[{ on := 0, ground := Go.Ground.data }, { on := 11, ground := Go.Ground.data }], guard := none }) rfl (fun K hK => ?_) AllReadyH.nil)
                            · refine step_append_lies _ rfl (.tmp 108) (.tmp 119) 56 rfl _ 61 i0 (.agg #[.int .i64 0, .int .u8 0, .slice none 0 0]) 3 40 Try.underlying56 hi hz0 hz1 hz2 rfl (by decide) _ n9 (rowsCells _) rfl (HE.out.rowN hn9) ⟨wr.heap.size + 1, 0, none⟩ 1 1 (VRow.cells ⟨3, 0, some ⟨wr.heap.size, 0, none⟩, 2, 2⟩) rfl rfl (World.news_of_block (heap_drew_new2 _ _ _)) (by simp [VRow.cells, Value.oneCell']) (by decide) (by unfold maxLen; omega) (by omega) HE.out.base _ rfl ?_
                              intro kb kcap w3 hown3 hgrow3 hat3 hlt3
                              have HF := hid (HE.out.app hn9 (r2 := ⟨3, 0, some ⟨wr.heap.size, 0, none⟩, 2, 2⟩) HV6.out hown3 hgrow3 hat3)
                              have hf3 := HF.out.grow.fut
                              clear hown3 hgrow3 hat3 hlt3
                              have hfj3 := HF.out.grow.fut.le HG6.out.le
                              refine hK.out _ _ ?_ (fun hHeld => ?_)
                              · first | exact Fut.drew (by assumption) | exact Fut.alloc (by assumption) _ | assumption
                              clear hK K
                              try simp only [Act.put, List.setIfInBounds_toArray, List.set_cons_zero, List.set_cons_succ]
                              refine wpAnyH_take (i := 13) (oi := { dst := some 7, op := Go.Op.assign (Go.Operand.tmp 120), type := 56, pos := "ref.go:764", after := #[{ on := 12, ground := Go.Ground.data }, { on := 12, ground := Go.Ground.chain }, { on := 0, ground := Go.Ground.phase }, { on := 1, ground := Go.Ground.phase }, { on := 2, ground := Go.Ground.phase }, { on := 3, ground := Go.Ground.phase }, { on := 4, ground := Go.Ground.phase }, { on := 5, ground := Go.Ground.phase }, { on := 6, ground := Go.Ground.phase }, { on := 7, ground := Go.Ground.phase }, { on := 8, ground := Go.Ground.phase }, { on := 9, ground := Go.Ground.phase }, { on := 10, ground := Go.Ground.phase }, { on := 11, ground := Go.Ground.phase }, { on := 12, ground := Go.Ground.phase }], guard := none }) (v := ?_) rfl (by kernel_rfl) (by kernel_rfl) (by kernel_rfl) (fun _ _ _ h => h) (Or.inl ⟨by rfl, ?_⟩) (by assumption) ?_
                              rotate_left
                              · intro w hSw; go_simp; all_goals with_reducible rfl
                              try simp only [Act.put, List.setIfInBounds_toArray, List.set_cons_zero, List.set_cons_succ]
                              refine wpAnyH_done (by kernel_rfl) ?_ _
                              go_wp2_with fail
                              go_roundg (B.length - (j + 1))
                              case measure => omega
                              case rel =>
                                have e : (P ++ pairsV (A.take p) B ++ (B.take (j + 1)).map fun y => Val.mk 3 0 [A[p], y]).take m = (P ++ pairsV (A.take p) B ++ (B.take j).map fun y => Val.mk 3 0 [A[p], y]).take m ++ [.mk 3 0 [A[p], B[j]]] := by
                                  rw [take_room (by omega), List.take_add_one, List.getElem?_eq_getElem hjt, List.map_append, ← List.append_assoc]; rfl
                                have hf := HF.out
                                rw [← e] at hf
                                exact ⟨j + 1, n9 + 1, g6, _, _, _, by omega, rfl, by rw [e, List.length_append, hn9]; rfl, by go_num, hle7.trans HG6.out.le, hf⟩
                      · have e : (P ++ pairsV (A.take p) B ++ (B.take j).map fun y => Val.mk 3 0 [A[p], y]).take m = (P ++ pairsV (A.take (p + 1)) B).take m := by
                          have h := take_full (m := m) (X := P ++ pairsV (A.take p) B ++ (B.take j).map fun y => Val.mk 3 0 [A[p], y]) (by omega) ((B.drop j).map fun y => Val.mk 3 0 [A[p], y])
                          rw [h, List.append_assoc _ ((B.take j).map _), ← List.map_append, List.take_append_drop, pairsV_snoc A B hlt, List.append_assoc]
                        rw [e] at hI hn9
                        have HE := hid hI
                        clear hI
                        go_wp2_with fail
                        go_roundg (A.length - (p + 1))
                        case measure => omega
                        case rel => exact ⟨p + 1, n9, gj, la2, lc2, rs2, by omega, rfl, hn9, by go_num, hle7, HE.out⟩
                    · obtain rfl : j = B.length := by omega
                      have e : (P ++ pairsV (A.take p) B ++ (B.take B.length).map fun y => Val.mk 3 0 [A[p], y]).take m = (P ++ pairsV (A.take (p + 1)) B).take m := by
                        rw [List.take_length, pairsV_snoc A B hlt, List.append_assoc]
                      rw [e] at hI hn9
                      have HE := hid hI
                      clear hI
                      go_wp2_with fail
                      go_roundg (A.length - (p + 1))
                      case measure => omega
                      case rel => exact ⟨p + 1, n9, gj, la2, lc2, rs2, by omega, rfl, hn9, by go_num, hle7, HE.out⟩
                · obtain rfl : p = A.length := by omega
                  rw [List.take_length, ← hP] at hI hn8
                  have HE := hid hI
                  clear hI
                  go_wp2_with fail
                  go_roundg (u.length + 1 - (k + 1))
                  case measure => omega
                  case rel => exact ⟨k + 1, n8, gp, la1, lc1, rs1, by omega, rfl, hn8, by go_num, hle5.trans hle6, HE.out⟩
      · have hX : (((List.range (u.length + 1)).flatMap fun k => pairsV (FA (u.take k)) (FB (u.drop k))).take m) = (((List.range k).flatMap fun k => pairsV (FA (u.take k)) (FB (u.drop k))).take m) := by
          obtain ⟨Y, hY⟩ := range_split (fun k => pairsV (FA (u.take k)) (FB (u.drop k))) (show k ≤ u.length + 1 by omega)
          rw [hY, ← take_full (by omega)]
        go_wp2_with fail
        go_ret
        rw [← HRES.out, hX]
        exact HE0.out.done hn7
    · obtain rfl : k = u.length + 1 := by omega
      go_wp2_with fail
      go_ret
      rw [← HRES.out]
      exact HE0.out.done hn7
end Go.Proofs.Ytjodmimnbpgfcaa
