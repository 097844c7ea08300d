/- coreOf, walked. A library text: no claim is stated here. -/
import Derived.Test.YtjodmimnbpgfcaaS25
import Derived.Test.YtjodmimnbpgfcaaS02

/- RefR -/
namespace Go.Proofs.Ytjodmimnbpgfcaa
open Go.RowKit Go.IntWalk

theorem Fut.setRow {g : G} {w : World} (h : Fut g w) {b : Nat} (ha : g.blk b = none) (cs : Array Value) : Fut g (w.setRow b cs) :=
  ⟨h.os, h.out, fun x o hx => by rw [setRow_other _ _ _ _ (fun e => by rw [e, ha] at hx; cases hx)]; exact h.blk x o hx⟩

theorem heap_drew_new (w : World) (o1 o2 o3 : Obj) : (((w.alloc o1).alloc o2).alloc o3).drew.heap[w.heap.size + 1 + 1]? = some o3 := by
  have := heap_alloc_new ((w.alloc o1).alloc o2) o3
  rw [World.size_alloc, World.size_alloc] at this
  exact this

/-- coreOf's core under construction. -/
structure CInv (g : G) (w : World) (B2 B3 : Nat) (k : Int) (s : Set4) (n : Int) (l : List Core) (q : Nat) (gq : G) (wr : World) (la : Option Addr) (lc : Nat) (rs : List CRow) : Prop where
  grow : Grow g w gq wr
  b2 : wr.heap[B2]? = some (.cells (cellsR ⟨0, set0, 0, none, 0, 0⟩) 54)
  b3 : wr.heap[B3]? = some (.cells (cellsR ⟨k, s, n, la, q, lc⟩) 54)
  own : OwnR (B3 + 1) gq wr (.slice la q lc) (l.take q) rs
  le : q ≤ l.length
  n2 : gq.blk B2 = none
  n3 : gq.blk B3 = none
  lt2 : w.heap.size ≤ B2
  lt3 : B2 < B3

theorem CInv.step {g : G} {w : World} {B2 B3 : Nat} {k : Int} {s : Set4} {n : Int} {l : List Core} {q : Nat} {gq g2 : G} {wr w1 w3 : World} {la : Option Addr} {lc : Nat} {rs : List CRow} {r2 : CRow} {kb kcap : Nat}
    (h : CInv g w B2 B3 k s n l q gq wr la lc rs) (hq : q < l.length) (hg : Grow gq wr.drew g2 w1) (hv : RefV g2 r2 l[q])
    (ho : w3.ownsRow (B3 + 1) 54 259 (.slice (some ⟨kb, 0, none⟩) (q + 1) kcap) (q + 1) (rowsR rs ++ rowR r2)) (hgr : (w1.alloc (.cells (cellsR r2) 54)).grownBy w3 (Value.ownBlock (.slice la q lc)))
    (hat : Value.ownBlock (.slice la q lc) = some kb ∨ kb = (w1.alloc (.cells (cellsR r2) 54)).heap.size) :
    Fut gq w3 ∧ w3.cell? ⟨B3, 258, none⟩ = some (.slice la q lc) ∧ w3.frozen? ⟨B3, 258, none⟩ = false ∧
    CInv g w B2 B3 k s n l (q + 1) g2 (w3.setCell ⟨B3, 258, none⟩ (.slice (some ⟨kb, 0, none⟩) (q + 1) kcap)) (some ⟨kb, 0, none⟩) kcap (rs ++ [r2]) := by
  have hlt3 : B3 < wr.heap.size := (Array.getElem?_eq_some_iff.1 h.b3).1
  have hlt2 : B2 < wr.heap.size := (Array.getElem?_eq_some_iff.1 h.b2).1
  have hgd : Grow gq wr g2 w1 := (Grow.refl h.grow.fut).drew.trans hg
  have hown2 := h.own.grow hgd
  have hsz := hgd.size
  have hG1 : Grow g w g2 w1 := h.grow.trans hgd
  have hG3 : Grow g w g2 w3 := (hG1.alloc _).grown hgr (fun k hk => ⟨by have := (h.own.lt hk).1; have := h.lt2; have := h.lt3; omega, hown2.nown k hk⟩)
  have ne3 : some B3 ≠ Value.ownBlock (.slice la q lc) := fun e => by have := (h.own.lt e.symm).1; omega
  have ne2 : some B2 ≠ Value.ownBlock (.slice la q lc) := fun e => by have := (h.own.lt e.symm).1; have := h.lt3; omega
  have b3 : w3.heap[B3]? = some (.cells (cellsR ⟨k, s, n, la, q, lc⟩) 54) := by
    rw [hgr.block B3 (by rw [World.size_alloc]; omega) ne3, Below.heap_alloc _ _ _ (by omega), hgd.old _ hlt3, h.b3]
  have b2 : w3.heap[B2]? = some (.cells (cellsR ⟨0, set0, 0, none, 0, 0⟩) 54) := by
    rw [hgr.block B2 (by rw [World.size_alloc]; omega) ne2, Below.heap_alloc _ _ _ (by omega), hgd.old _ hlt2, h.b2]
  have n3 := hgd.new _ h.n3 hlt3
  have n2 := hgd.new _ h.n2 hlt2
  refine ⟨hG3.fut.le hgd.le, heap_cell b3 258 _ (cellsR_l _), heap_free b3 258, ⟨hG3.setCell n3 (by have := h.lt2; have := h.lt3; show w.heap.size ≤ B3; omega) _, ?_, ?_, ?_, hq, n2, n3, h.lt2, h.lt3⟩⟩
  · rw [Below.heap_setCell _ _ _ _ (by have := h.lt3; show B2 ≠ B3; omega)]; exact b2
  · rw [heap_setCell_same b3, set_cellsR]
  · have hH : g2.blk (w1.alloc (.cells (cellsR r2) 54)).heap.size = none := hg.fut.none_of_size (by rw [World.size_alloc]; omega)
    have hs := hown2.snoc (w' := w3) (by simp; omega : (l.take q).length = q) hv ho hat hH
    have e : l.take (q + 1) = l.take q ++ [l[q]] := by rw [List.take_add_one, List.getElem?_eq_getElem hq]; rfl
    rw [e]
    have hkb : kb ≠ B3 := by have := (ho.lt kb rfl).1; omega
    exact ⟨ownsRow_setCell_ne hs.own (by simp [Value.ownBlock]; exact hkb) _, hs.len, hs.rel, hs.nown, hs.nil⟩

theorem CInv.own2 {g : G} {w : World} {B2 B3 : Nat} {k : Int} {s : Set4} {n : Int} {l : List Core} {q : Nat} {gq g2 : G} {wr w1 : World} {la : Option Addr} {lc : Nat} {rs : List CRow}
    (h : CInv g w B2 B3 k s n l q gq wr la lc rs) (hg : Grow gq wr.drew g2 w1) (o : Obj) : (w1.alloc o).ownsRow (B3 + 1) 54 259 (.slice la q lc) q (rowsR rs) := by
  have hgd : Grow gq wr g2 w1 := (Grow.refl h.grow.fut).drew.trans hg
  have := (h.own.grow (hgd.alloc o)).own
  rwa [show (l.take q).length = q by have := h.le; simp; omega] at this
theorem CInv.base {g : G} {w : World} {B2 B3 : Nat} {k : Int} {s : Set4} {n : Int} {l : List Core} {q : Nat} {gq g2 : G} {wr w1 : World} {la : Option Addr} {lc : Nat} {rs : List CRow}
    (h : CInv g w B2 B3 k s n l q gq wr la lc rs) (hg : Grow gq wr.drew g2 w1) (o : Obj) : B3 + 1 ≤ (w1.alloc o).heap.size := by
  have hlt3 : B3 < wr.heap.size := (Array.getElem?_eq_some_iff.1 h.b3).1
  have hgd : Grow gq wr g2 w1 := (Grow.refl h.grow.fut).drew.trans hg
  have := hgd.size
  rw [World.size_alloc]; omega
theorem CInv.cell {g : G} {w : World} {B2 B3 : Nat} {k : Int} {s : Set4} {n : Int} {l : List Core} {q : Nat} {gq g2 : G} {wr w1 : World} {la : Option Addr} {lc : Nat} {rs : List CRow}
    (h : CInv g w B2 B3 k s n l q gq wr la lc rs) (hg : Grow gq wr.drew g2 w1) (o : Obj) : w1.cell? ⟨B3, 258, none⟩ = some (.slice la q lc) ∧ (w1.alloc o).cell? ⟨B3, 258, none⟩ = some (.slice la q lc) := by
  have hlt3 : B3 < wr.heap.size := (Array.getElem?_eq_some_iff.1 h.b3).1
  have hgd : Grow gq wr g2 w1 := (Grow.refl h.grow.fut).drew.trans hg
  have h1 : w1.heap[B3]? = _ := (hgd.old _ hlt3).trans h.b3
  have h2 : (w1.alloc o).heap[B3]? = _ := ((hgd.alloc o).old _ hlt3).trans h.b3
  exact ⟨heap_cell h1 258 _ (cellsR_l _), heap_cell h2 258 _ (cellsR_l _)⟩

theorem nodes_kid {l : List Core} {q : Nat} (hq : q < l.length) : nodes l[q] ≤ nodesL l := by
  induction l generalizing q with
  | nil => simp at hq
  | cons x r ih =>
    cases q with
    | zero => simp [nodesL]
    | succ q => have := ih (q := q) (by simpa using hq); simp [nodesL]; omega
theorem nodesL_len (l : List Core) : l.length ≤ nodesL l := by
  induction l with
  | nil => simp
  | cons x r ih => cases x; simp [nodesL, nodes]; omega

theorem CInv.start {g g1 : G} {w W wc : World} {B2 B3 : Nat} {k : Int} {s : Set4} {n : Int} {l : List Core} {r0 : CRow} (hG : Grow g w g1 W) (hb2 : W.heap[B2]? = some (.cells (cellsR ⟨0, set0, 0, none, 0, 0⟩) 54)) (n2 : g1.blk B2 = none) (lt2 : w.heap.size ≤ B2)
    (hG3 : Grow g1 W g1 wc) (hb3 : wc.heap[B3]? = some (.cells (cellsR r0) 54)) (hB3 : W.heap.size ≤ B3) : CInv g w B2 B3 k s n l 0 g1 (wc.setRow B3 (cellsR ⟨k, s, n, none, 0, 0⟩)) none 0 [] := by
  have hlt2 : B2 < W.heap.size := (Array.getElem?_eq_some_iff.1 hb2).1
  have n3 := hG.fut.none_of_size hB3
  have hs := hG.size
  refine ⟨(hG.trans hG3).setRow n3 (by omega) _, ?_, setRow_heap _ _ _ _ _ _ hb3, OwnR.start _ _ _, Nat.zero_le _, n2, n3, lt2, by omega⟩
  rw [setRow_other _ _ _ _ (by omega), hG3.old _ hlt2, hb2]

def CorePost (g : G) (c : Core) (w : World) (e : Ending) (w' : World) : Prop := ∃ g2 r2, e = .returned (CRow.rval r2) ∧ Grow g w g2 w' ∧ RefV g2 r2 c

set_option maxRecDepth 100000 in
set_option maxHeartbeats 4000000 in
theorem coreOf_any {g : G} {r : CRow} {c : Core} (h : CoreV g r c) : nodes c ≤ 100000 → ∀ g', g.Le g' → ∀ w, Fut g' w → Calls Try.prog 20 #[r.val] w (CorePost g' c w) := by
  refine CoreV.step (g := g) (motive := fun r c => nodes c ≤ 100000 → ∀ g', g.Le g' → ∀ w, Fut g' w → Calls Try.prog 20 #[r.val] w (CorePost g' c w)) ?_ h
  clear h r c
  intro k s n a cap l hk hs hn hkids hnodes g' hle w hw
  have hnl : nodesL l ≤ 100000 := by simp [nodes] at hnodes; omega
  have hll := nodesL_len l
  have hz := fun w => zero54 w
  obtain ⟨i0, hi, hz0, hz1, hz2⟩ := info_parts Try.info54
  obtain ⟨g1, hg1, c0, c1, c2, c3, c4, c5, c6⟩ := box_core hw ⟨k, s, n, a, l.length, cap⟩
  have hG2 := hg1.alloc (.cells (cellsR ⟨0, set0, 0, none, 0, 0⟩) 54)
  have hb2 : ((w.alloc (.cells #[.int .i64 k, .int .u64 s.a, .int .u64 s.b, .int .u64 s.c, .int .u64 s.d, .int .i64 n, .slice a l.length cap] 27)).alloc (.cells (cellsR ⟨0, set0, 0, none, 0, 0⟩) 54)).heap[w.heap.size + 1]? = some (.cells (cellsR ⟨0, set0, 0, none, 0, 0⟩) 54) := by
    have := heap_alloc_new (w.alloc (.cells #[.int .i64 k, .int .u64 s.a, .int .u64 s.b, .int .u64 s.c, .int .u64 s.d, .int .i64 n, .slice a l.length cap] 27)) (.cells (cellsR ⟨0, set0, 0, none, 0, 0⟩) 54)
    simpa using this
  have n2 := hg1.fut.none_of_size (b := w.heap.size + 1) (by simp)
  have hle1 := hle.trans hg1.le
  have HG2 := hid hG2
  have HB2 := hid hb2
  have HK := hid hkids
  clear hG2 hg1 hb2 hkids
  unfold CRow.val
  go_enter Try.func20, Try.ntmps20
  go_upto_region 1 with fail
  go_cut [3] from 5 to 13 (fun s3 wc => ∃ B3, s3 = .pointer (some ⟨B3, 0, none⟩) ∧ CInv g' w (w.heap.size + 1) B3 k s n l 0 g1 wc none 0 [])
  case first =>
    refine wp_region_held_drew (S := (fun w' => Fut g1 w')) (by kernel_rfl) HG2.out.fut.drew ?_
    intro hS0
    refine wpAnyH_take (i := 0) (oi := { dst := some 5, op := Go.Op.fieldAddr 27 (Go.Operand.tmp 1) 0, type := 0, pos := "law.go:22", after := #[], guard := none }) (v := ?_) rfl (by kernel_rfl) (by kernel_rfl) (by kernel_rfl) (fun _ _ _ h => h) (Or.inl ⟨by rfl, ?_⟩) (by assumption) ?_
    rotate_left
    · intro w hSw; go_simp; all_goals with_reducible rfl
    try simp only [Act.put, List.setIfInBounds_toArray, List.set_cons_zero, List.set_cons_succ]
    refine wpAnyH_take (i := 1) (oi := { dst := some 6, op := Go.Op.load 3 (Go.Operand.tmp 5), type := 3, pos := "law.go:22", after := #[{ on := 0, ground := Go.Ground.data }], guard := none }) (v := ?_) rfl (by kernel_rfl) (by kernel_rfl) (by kernel_rfl) (fun _ _ _ h => h) (Or.inl ⟨by rfl, ?_⟩) (by assumption) ?_
    rotate_left
    · intro w hSw; go_simp; all_goals with_reducible rfl
    try simp only [Act.put, List.setIfInBounds_toArray, List.set_cons_zero, List.set_cons_succ]
    refine wpAnyH_take (i := 2) (oi := { dst := some 7, op := Go.Op.fieldAddr 27 (Go.Operand.tmp 1) 1, type := 0, pos := "law.go:22", after := #[], guard := none }) (v := ?_) rfl (by kernel_rfl) (by kernel_rfl) (by kernel_rfl) (fun _ _ _ h => h) (Or.inl ⟨by rfl, ?_⟩) (by assumption) ?_
    rotate_left
    · intro w hSw; go_simp; all_goals with_reducible rfl
    try simp only [Act.put, List.setIfInBounds_toArray, List.set_cons_zero, List.set_cons_succ]
    refine wpAnyH_take (i := 3) (oi := { dst := some 8, op := Go.Op.load 24 (Go.Operand.tmp 7), type := 24, pos := "law.go:22", after := #[{ on := 2, ground := Go.Ground.data }], guard := none }) (v := ?_) rfl (by kernel_rfl) (by kernel_rfl) (by kernel_rfl) (fun _ _ _ h => h) (Or.inl ⟨by rfl, ?_⟩) (by assumption) ?_
    rotate_left
    · intro w hSw; go_simp; all_goals with_reducible rfl
    try simp only [Act.put, List.setIfInBounds_toArray, List.set_cons_zero, List.set_cons_succ]
    refine wpAnyH_take (i := 5) (oi := { dst := some 10, op := Go.Op.fieldAddr 27 (Go.Operand.tmp 1) 2, type := 0, pos := "law.go:22", after := #[], guard := none }) (v := ?_) rfl (by kernel_rfl) (by kernel_rfl) (by kernel_rfl) (fun _ _ _ h => h) (Or.inl ⟨by rfl, ?_⟩) (by assumption) ?_
    rotate_left
    · intro w hSw; go_simp; all_goals with_reducible rfl
    try simp only [Act.put, List.setIfInBounds_toArray, List.set_cons_zero, List.set_cons_succ]
    refine wpAnyH_take (i := 6) (oi := { dst := some 11, op := Go.Op.load 3 (Go.Operand.tmp 10), type := 3, pos := "law.go:22", after := #[{ on := 5, ground := Go.Ground.data }], guard := none }) (v := ?_) rfl (by kernel_rfl) (by kernel_rfl) (by kernel_rfl) (fun _ _ _ h => h) (Or.inl ⟨by rfl, ?_⟩) (by assumption) ?_
    rotate_left
    · intro w hSw; go_simp; all_goals with_reducible rfl
    try simp only [Act.put, List.setIfInBounds_toArray, List.set_cons_zero, List.set_cons_succ]
    refine wpAnyH_ready (rs := [4,8]) (by kernel_rfl) (by simp) ?_
    refine (AllReadyH.cons (o := { dst := some 9, op := Go.Op.call { callee := Go.Callee.value (Go.Operand.func 38), args := #[Go.Operand.tmp 8], argTypes := #[24] }, type := 51, pos := "law.go:22", after := #[{ on := 3, ground := Go.Ground.data }], guard := none }) rfl (fun K hK => ?_) (AllReadyH.cons (o := { dst := some 3, op := Go.Op.alloc 54, type := 0, pos := "law.go:22", after := #[], guard := none }) rfl (fun K hK => ?_) AllReadyH.nil))
    · go_simp
      refine (own_any s hs _ (by assumption)).mono ?_
      rintro e w1 ⟨rfl, hg1⟩
      have HO := hid hg1
      have hf3 := hg1.fut
      clear hg1
      try go_wp2_with fail
      refine hK.out _ _ ?_ (fun hHeld => ?_)
      · first | exact Fut.drew (by assumption) | exact Fut.alloc (by assumption) _ | assumption
      clear hK K
      try simp only [Act.put, List.setIfInBounds_toArray, List.set_cons_zero, List.set_cons_succ]
      refine wpAnyH_take (i := 7) (oi := { dst := some 12, op := Go.Op.build 54 #[(0, Go.Operand.tmp 6), (1, Go.Operand.tmp 9), (2, Go.Operand.tmp 11)], type := 54, pos := "law.go:22", after := #[{ on := 1, ground := Go.Ground.data }, { on := 4, ground := Go.Ground.data }, { on := 6, ground := Go.Ground.data }], guard := none }) (v := ?_) rfl (by kernel_rfl) (by kernel_rfl) (by kernel_rfl) (fun _ _ _ h => h) (Or.inl ⟨by rfl, ?_⟩) (by assumption) ?_
      rotate_left
      · intro w hSw; refine exec_build54 (x := .tmp 6) (y := .tmp 9) (z := .tmp 11) (k := k) (s := s) (n := n) ?_ ?_ ?_ ?_ <;> rfl
      try simp only [Act.put, List.setIfInBounds_toArray, List.set_cons_zero, List.set_cons_succ]
      refine wpAnyH_ready (rs := [8]) (by kernel_rfl) (by simp) ?_
      refine (AllReadyH.cons (o := { dst := some 3, op := Go.Op.alloc 54, type := 0, pos := "law.go:22", after := #[], guard := none }) rfl (fun K hK => ?_) AllReadyH.nil)
      · go_simp
        refine hK.out _ _ ?_ (fun hHeld => ?_)
        · first | exact Fut.drew (by assumption) | exact Fut.alloc (by assumption) _ | assumption
        clear hK K
        try simp only [Act.put, List.setIfInBounds_toArray, List.set_cons_zero, List.set_cons_succ]
        refine wpAnyH_ready (rs := [9]) (by kernel_rfl) (by simp) ?_
        refine (AllReadyH.cons (o := { dst := none, op := Go.Op.store 54 (Go.Operand.tmp 3) (Go.Operand.tmp 12), type := 0, pos := "law.go:22", after := #[{ on := 8, ground := Go.Ground.data }, { on := 7, ground := Go.Ground.data }, { on := 4, ground := Go.Ground.chain }, { on := 0, ground := Go.Ground.phase }, { on := 1, ground := Go.Ground.phase }, { on := 2, ground := Go.Ground.phase }, { on := 3, ground := Go.Ground.phase }, { on := 4, ground := Go.Ground.phase }, { on := 5, ground := Go.Ground.phase }, { on := 6, ground := Go.Ground.phase }, { on := 7, ground := Go.Ground.phase }, { on := 8, ground := Go.Ground.phase }], guard := none }) rfl (fun K hK => ?_) AllReadyH.nil)
        · refine wp_store54 rfl _ _ rfl (r := ⟨k, s, n, none, 0, 0⟩) (r0 := ⟨0, set0, 0, none, 0, 0⟩) rfl rfl (by first | exact heap_alloc_new w1 _ | exact (HO.out.old _ (by simp)).trans (heap_drew_new _ _ _ _)) ?_
          refine hK.out _ _ ?_ (fun hHeld => ?_)
          · first | exact Fut.setRow (by assumption) (HO.out.fut.none_of_size (Nat.le_refl _)) _ | exact Fut.setRow (by assumption) (HG2.out.fut.none_of_size (by simp)) _
          clear hK K
          try simp only [Act.put]
          refine wpAnyH_done (by kernel_rfl) ?_ _
          go_wp2_with fail
          go_meet
          case rel =>
            first
            | exact ⟨_, rfl, CInv.start HG2.out HB2.out n2 (by omega) (((Grow.refl HG2.out.fut).drew.trans HO.out).alloc _) (heap_alloc_new _ _) HO.out.size⟩
            | exact ⟨_, rfl, CInv.start HG2.out HB2.out n2 (by omega) (((Grow.refl HG2.out.fut).alloc _).drew.trans HO.out) ((HO.out.old _ (by simp)).trans (heap_drew_new _ _ _ _)) (by simp)⟩
    · go_simp
      refine hK.out _ _ ?_ (fun hHeld => ?_)
      · first | exact Fut.drew (by assumption) | exact Fut.alloc (by assumption) _ | assumption
      clear hK K
      try simp only [Act.put, List.setIfInBounds_toArray, List.set_cons_zero, List.set_cons_succ]
      refine wpAnyH_ready (rs := [4]) (by kernel_rfl) (by simp) ?_
      refine (AllReadyH.cons (o := { dst := some 9, op := Go.Op.call { callee := Go.Callee.value (Go.Operand.func 38), args := #[Go.Operand.tmp 8], argTypes := #[24] }, type := 51, pos := "law.go:22", after := #[{ on := 3, ground := Go.Ground.data }], guard := none }) rfl (fun K hK => ?_) AllReadyH.nil)
      · go_simp
        refine (own_any s hs _ (by assumption)).mono ?_
        rintro e w1 ⟨rfl, hg1⟩
        have HO := hid hg1
        have hf3 := hg1.fut
        clear hg1
        try go_wp2_with fail
        refine hK.out _ _ ?_ (fun hHeld => ?_)
        · first | exact Fut.drew (by assumption) | exact Fut.alloc (by assumption) _ | assumption
        clear hK K
        try simp only [Act.put, List.setIfInBounds_toArray, List.set_cons_zero, List.set_cons_succ]
        refine wpAnyH_take (i := 7) (oi := { dst := some 12, op := Go.Op.build 54 #[(0, Go.Operand.tmp 6), (1, Go.Operand.tmp 9), (2, Go.Operand.tmp 11)], type := 54, pos := "law.go:22", after := #[{ on := 1, ground := Go.Ground.data }, { on := 4, ground := Go.Ground.data }, { on := 6, ground := Go.Ground.data }], guard := none }) (v := ?_) rfl (by kernel_rfl) (by kernel_rfl) (by kernel_rfl) (fun _ _ _ h => h) (Or.inl ⟨by rfl, ?_⟩) (by assumption) ?_
        rotate_left
        · intro w hSw; refine exec_build54 (x := .tmp 6) (y := .tmp 9) (z := .tmp 11) (k := k) (s := s) (n := n) ?_ ?_ ?_ ?_ <;> rfl
        try simp only [Act.put, List.setIfInBounds_toArray, List.set_cons_zero, List.set_cons_succ]
        refine wpAnyH_ready (rs := [9]) (by kernel_rfl) (by simp) ?_
        refine (AllReadyH.cons (o := { dst := none, op := Go.Op.store 54 (Go.Operand.tmp 3) (Go.Operand.tmp 12), type := 0, pos := "law.go:22", after := #[{ on := 8, ground := Go.Ground.data }, { on := 7, ground := Go.Ground.data }, { on := 4, ground := Go.Ground.chain }, { on := 0, ground := Go.Ground.phase }, { on := 1, ground := Go.Ground.phase }, { on := 2, ground := Go.Ground.phase }, { on := 3, ground := Go.Ground.phase }, { on := 4, ground := Go.Ground.phase }, { on := 5, ground := Go.Ground.phase }, { on := 6, ground := Go.Ground.phase }, { on := 7, ground := Go.Ground.phase }, { on := 8, ground := Go.Ground.phase }], guard := none }) rfl (fun K hK => ?_) AllReadyH.nil)
        · refine wp_store54 rfl _ _ rfl (r := ⟨k, s, n, none, 0, 0⟩) (r0 := ⟨0, set0, 0, none, 0, 0⟩) rfl rfl (by first | exact heap_alloc_new w1 _ | exact (HO.out.old _ (by simp)).trans (heap_drew_new _ _ _ _)) ?_
          refine hK.out _ _ ?_ (fun hHeld => ?_)
          · first | exact Fut.setRow (by assumption) (HO.out.fut.none_of_size (Nat.le_refl _)) _ | exact Fut.setRow (by assumption) (HG2.out.fut.none_of_size (by simp)) _
          clear hK K
          try simp only [Act.put]
          refine wpAnyH_done (by kernel_rfl) ?_ _
          go_wp2_with fail
          go_meet
          case rel =>
            first
            | exact ⟨_, rfl, CInv.start HG2.out HB2.out n2 (by omega) (((Grow.refl HG2.out.fut).drew.trans HO.out).alloc _) (heap_alloc_new _ _) HO.out.size⟩
            | exact ⟨_, rfl, CInv.start HG2.out HB2.out n2 (by omega) (((Grow.refl HG2.out.fut).alloc _).drew.trans HO.out) ((HO.out.old _ (by simp)).trans (heap_drew_new _ _ _ _)) (by simp)⟩
  case rest =>
    obtain ⟨B3, rfl, hI⟩ := hcut
    have HI := hid hI
    clear hI HG2 HB2 n2
    go_wp2_with fail
    go_loopg [4] l.length (fun rem i wr => ∃ (q : Nat) (gq : G) (la : Option Addr) (lc : Nat) (rs : List CRow), q + rem = l.length ∧ i = .int .i64 q ∧ g1.Le gq ∧ CInv g' w (w.heap.size + 1) B3 k s n l q gq wr la lc rs)
    case atStart => exact ⟨0, g1, none, 0, [], by omega, rfl, G.Le.refl _, HI.out⟩
    case round =>
      obtain ⟨q, gq, la, lc, rs, hq, rfl, hle2, hI⟩ := hrel
      have hfr := hI.grow.fut
      have hfq1 : ∀ w', Fut gq w' → Fut g1 w' := fun w' h => h.le hle2
      have d0 := fun w' (h : Fut gq w') => c0 w' (h.le hle2)
      have d6 := fun w' (h : Fut gq w') => c6 w' (h.le hle2)
      have hqi : (q : Int) ≤ 100000 := by omega
      clear c0 c1 c2 c3 c4 c5 c6
      by_cases hlt : q < l.length
      · obtain ⟨b, off, rq, rfl, hcap, hmax, hcells, -, ih⟩ := HK.out q hlt
        obtain ⟨e0, e1, e2, e3, e4, e5, e6⟩ := hcells.le (hle1.trans hle2)
        have IH := hid (ih (by have := nodes_kid hlt; omega))
        clear ih HK
        unfold CRow.val at IH
        have b3c := heap_cell hI.b3 258 _ (cellsR_l _)
        have HNB := hid hI.n3
        have HI2 := hid hI
        clear hI HI
        go_upto_region 5 with fail
        refine wp_region_held_drew (S := (fun w' => Fut gq w')) (by kernel_rfl) HI2.out.grow.fut.drew ?_
        intro hS0
        refine wpAnyH_take (i := 0) (oi := { dst := some 20, op := Go.Op.fieldAddr 54 (Go.Operand.tmp 3) 3, type := 0, pos := "law.go:24", after := #[], guard := none }) (v := ?_) rfl (by kernel_rfl) (by kernel_rfl) (by kernel_rfl) (fun _ _ _ h => h) (Or.inl ⟨by rfl, ?_⟩) (by assumption) ?_
        rotate_left
        · intro w hSw; have hS1 := hSw.le hle2; go_simp; all_goals with_reducible rfl
        try simp only [Act.put, List.setIfInBounds_toArray, List.set_cons_zero, List.set_cons_succ]
        refine wpAnyH_take (i := 2) (oi := { dst := some 22, op := Go.Op.fieldAddr 27 (Go.Operand.tmp 1) 3, type := 0, pos := "law.go:24", after := #[], guard := none }) (v := ?_) rfl (by kernel_rfl) (by kernel_rfl) (by kernel_rfl) (fun _ _ _ h => h) (Or.inl ⟨by rfl, ?_⟩) (by assumption) ?_
        rotate_left
        · intro w hSw; have hS1 := hSw.le hle2; go_simp; all_goals with_reducible rfl
        try simp only [Act.put, List.setIfInBounds_toArray, List.set_cons_zero, List.set_cons_succ]
        refine wpAnyH_take (i := 3) (oi := { dst := some 23, op := Go.Op.load 25 (Go.Operand.tmp 22), type := 25, pos := "law.go:24", after := #[{ on := 2, ground := Go.Ground.data }], guard := none }) (v := ?_) rfl (by kernel_rfl) (by kernel_rfl) (by kernel_rfl) (fun _ _ _ h => h) (Or.inl ⟨by rfl, ?_⟩) (by assumption) ?_
        rotate_left
        · intro w hSw; have hS1 := hSw.le hle2; go_simp; all_goals with_reducible rfl
        try simp only [Act.put, List.setIfInBounds_toArray, List.set_cons_zero, List.set_cons_succ]
        refine wpAnyH_take (i := 4) (oi := { dst := some 24, op := Go.Op.move (Go.Operand.tmp 4), type := 3, pos := "law.go:24", after := #[], guard := none }) (v := ?_) rfl (by kernel_rfl) (by kernel_rfl) (by kernel_rfl) (fun _ _ _ h => h) (Or.inl ⟨by rfl, ?_⟩) (by assumption) ?_
        rotate_left
        · intro w hSw; have hS1 := hSw.le hle2; go_simp; all_goals with_reducible rfl
        try simp only [Act.put, List.setIfInBounds_toArray, List.set_cons_zero, List.set_cons_succ]
        refine wpAnyH_take (i := 5) (oi := { dst := some 25, op := Go.Op.indexAddr 25 (Go.Operand.tmp 23) (Go.Operand.tmp 24), type := 0, pos := "law.go:24", after := #[{ on := 3, ground := Go.Ground.data }, { on := 4, ground := Go.Ground.data }], guard := none }) (v := ?_) rfl (by kernel_rfl) (by kernel_rfl) (by kernel_rfl) (fun _ _ _ h => h) (Or.inl ⟨by rfl, ?_⟩) (by assumption) ?_
        rotate_left
        · intro w hSw; have hS1 := hSw.le hle2; go_simp; all_goals with_reducible rfl
        try simp only [Act.put, List.setIfInBounds_toArray, List.set_cons_zero, List.set_cons_succ]
        refine wpAnyH_take (i := 6) (oi := { dst := some 26, op := Go.Op.load 27 (Go.Operand.tmp 25), type := 27, pos := "law.go:24", after := #[{ on := 5, ground := Go.Ground.data }], guard := none }) (v := ?_) rfl (by kernel_rfl) (by kernel_rfl) (by kernel_rfl) (fun _ _ _ h => h) (Or.inl ⟨by rfl, ?_⟩) (by assumption) ?_
        rotate_left
        · intro w hSw; have hS1 := hSw.le hle2; go_simp; all_goals with_reducible rfl
        try simp only [Act.put, List.setIfInBounds_toArray, List.set_cons_zero, List.set_cons_succ]
        refine wpAnyH_ready (rs := [1,7]) (by kernel_rfl) (by simp) ?_
        refine (AllReadyH.cons (o := { dst := some 21, op := Go.Op.load 52 (Go.Operand.tmp 20), type := 52, pos := "law.go:24", after := #[{ on := 0, ground := Go.Ground.data }], guard := none }) rfl (fun K hK => ?_) (AllReadyH.cons (o := { dst := some 27, op := Go.Op.call { callee := Go.Callee.value (Go.Operand.func 20), args := #[Go.Operand.tmp 26], argTypes := #[27] }, type := 54, pos := "law.go:24", after := #[{ on := 6, ground := Go.Ground.data }], guard := none }) rfl (fun K hK => ?_) AllReadyH.nil))
        · go_simp
          refine hK.out _ _ ?_ (fun hHeld => ?_)
          · first | exact Fut.drew (by assumption) | exact Fut.alloc (by assumption) _ | assumption
          clear hK K
          try simp only [Act.put, List.setIfInBounds_toArray, List.set_cons_zero, List.set_cons_succ]
          refine wpAnyH_ready (rs := [7]) (by kernel_rfl) (by simp) ?_
          refine (AllReadyH.cons (o := { dst := some 27, op := Go.Op.call { callee := Go.Callee.value (Go.Operand.func 20), args := #[Go.Operand.tmp 26], argTypes := #[27] }, type := 54, pos := "law.go:24", after := #[{ on := 6, ground := Go.Ground.data }], guard := none }) rfl (fun K hK => ?_) AllReadyH.nil)
          · go_simp
            refine (IH.out _ (hle1.trans hle2) _ (by assumption)).mono ?_
            rintro e w1 ⟨g2, r2, rfl, hg2, hv2⟩
            have HG2 := hid hg2
            have HV2 := hid hv2
            have hf2 := hg2.fut.le hg2.le
            have c258 := (HI2.out.cell HG2.out (.cells (cellsR r2) 54)).1
            have c258b := (HI2.out.cell HG2.out (.cells (cellsR r2) 54)).2
            clear hg2 hv2
            try go_wp2_with fail
            refine hK.out _ _ ?_ (fun hHeld => ?_)
            · first | exact Fut.drew (by assumption) | exact Fut.alloc (by assumption) _ | assumption
            clear hK K
            try simp only [Act.put, List.setIfInBounds_toArray, List.set_cons_zero, List.set_cons_succ]
            refine wpAnyH_ready (rs := [8]) (by kernel_rfl) (by simp) ?_
            refine (AllReadyH.cons (o := { dst := some 28, op := Go.Op.buildSlice 52 1 #[(0, Go.Operand.tmp 27)], type := 52, pos := "law.go:24", after := #[{ on := 7, ground := Go.Ground.data }], guard := none }) rfl (fun K hK => ?_) AllReadyH.nil)
            · refine wp_buildSlice54 rfl _ rfl (r := r2) rfl ?_
              refine hK.out _ _ ?_ (fun hHeld => ?_)
              · first | exact Fut.drew (by assumption) | exact Fut.alloc (by assumption) _ | assumption
              clear hK K
              try simp only [Act.put, List.setIfInBounds_toArray, List.set_cons_zero, List.set_cons_succ]
              refine wpAnyH_ready (rs := [9]) (by kernel_rfl) (by simp) ?_
              refine (AllReadyH.cons (o := { dst := some 29, op := Go.Op.call { callee := Go.Callee.builtin Go.Builtin.append, args := #[Go.Operand.tmp 21, Go.Operand.tmp 28], argTypes := #[52, 52] }, type := 52, pos := "law.go:24", after := #[{ on := 1, ground := Go.Ground.data }, { on := 8, ground := Go.Ground.data }, { on := 7, ground := Go.Ground.chain }], guard := none }) rfl (fun K hK => ?_) AllReadyH.nil)
              · refine step_append_lies _ rfl (.tmp 21) (.tmp 28) 52 rfl _ 54 i0 (.agg (cellsR ⟨0, set0, 0, none, 0, 0⟩)) 259 296 Try.underlying52 hi hz0 hz1 hz2 (by simp [Value.cells, cellsR_size]) (by decide) _ q (rowsR rs) rfl (HI2.out.own2 HG2.out _) ⟨w1.heap.size, 0, none⟩ 1 1 (rowR r2) rfl (rowR_length r2) (World.news_of_block (heap_alloc_new w1 _)) (rowR_one r2) (by decide) (by unfold maxLen; omega) (by omega) (HI2.out.base HG2.out _) _ rfl ?_
                intro kb kcap w3 hown3 hgrow3 hat3 hlt3
                have HF := hid (HI2.out.step hlt HG2.out HV2.out hown3 hgrow3 hat3)
                have hf3 := HF.out.1
                have c3 := HF.out.2.1
                have z3 := HF.out.2.2.1
                clear hown3 hgrow3 hat3 hlt3
                refine hK.out _ _ ?_ (fun hHeld => ?_)
                · first | exact Fut.drew (by assumption) | exact Fut.alloc (by assumption) _ | assumption
                clear hK K
                try simp only [Act.put, List.setIfInBounds_toArray, List.set_cons_zero, List.set_cons_succ]
                refine wpAnyH_take (i := 10) (oi := { dst := some 30, op := Go.Op.fieldAddr 54 (Go.Operand.tmp 3) 3, type := 0, pos := "law.go:24", after := #[{ on := 0, ground := Go.Ground.phase }, { on := 1, ground := Go.Ground.phase }, { on := 2, ground := Go.Ground.phase }, { on := 3, ground := Go.Ground.phase }, { on := 4, ground := Go.Ground.phase }, { on := 5, ground := Go.Ground.phase }, { on := 6, ground := Go.Ground.phase }, { on := 7, ground := Go.Ground.phase }, { on := 8, ground := Go.Ground.phase }, { on := 9, ground := Go.Ground.phase }], guard := none }) (v := ?_) rfl (by kernel_rfl) (by kernel_rfl) (by kernel_rfl) (fun _ _ _ h => h) (Or.inl ⟨by rfl, ?_⟩) (by assumption) ?_
                rotate_left
                · intro w hSw; have hS1 := hSw.le hle2; go_simp; all_goals with_reducible rfl
                try simp only [Act.put, List.setIfInBounds_toArray, List.set_cons_zero, List.set_cons_succ]
                refine wpAnyH_ready (rs := [11]) (by kernel_rfl) (by simp) ?_
                refine (AllReadyH.cons (o := { dst := none, op := Go.Op.store 52 (Go.Operand.tmp 30) (Go.Operand.tmp 29), type := 0, pos := "law.go:24", after := #[{ on := 10, ground := Go.Ground.data }, { on := 9, ground := Go.Ground.data }, { on := 9, ground := Go.Ground.chain }, { on := 0, ground := Go.Ground.phase }, { on := 1, ground := Go.Ground.phase }, { on := 2, ground := Go.Ground.phase }, { on := 3, ground := Go.Ground.phase }, { on := 4, ground := Go.Ground.phase }, { on := 5, ground := Go.Ground.phase }, { on := 6, ground := Go.Ground.phase }, { on := 7, ground := Go.Ground.phase }, { on := 8, ground := Go.Ground.phase }, { on := 9, ground := Go.Ground.phase }], guard := none }) rfl (fun K hK => ?_) AllReadyH.nil)
                · go_simp
                  refine hK.out _ _ ?_ (fun hHeld => ?_)
                  · exact Fut.setCell (by assumption) HNB.out _
                  clear hK K
                  try simp only [Act.put, List.setIfInBounds_toArray, List.set_cons_zero, List.set_cons_succ]
                  refine wpAnyH_done (by kernel_rfl) ?_ _
                  go_wp2_with fail
                  go_roundg (l.length - (q + 1))
                  case measure => omega
                  case rel => exact ⟨q + 1, _, _, _, _, by omega, by go_num, hle2.trans HG2.out.le, HF.out.2.2.2⟩
        · go_simp
          refine (IH.out _ (hle1.trans hle2) _ (by assumption)).mono ?_
          rintro e w1 ⟨g2, r2, rfl, hg2, hv2⟩
          have HG2 := hid hg2
          have HV2 := hid hv2
          have hf2 := hg2.fut.le hg2.le
          have c258 := (HI2.out.cell HG2.out (.cells (cellsR r2) 54)).1
          have c258b := (HI2.out.cell HG2.out (.cells (cellsR r2) 54)).2
          clear hg2 hv2
          try go_wp2_with fail
          refine hK.out _ _ ?_ (fun hHeld => ?_)
          · first | exact Fut.drew (by assumption) | exact Fut.alloc (by assumption) _ | assumption
          clear hK K
          try simp only [Act.put, List.setIfInBounds_toArray, List.set_cons_zero, List.set_cons_succ]
          refine wpAnyH_ready (rs := [1,8]) (by kernel_rfl) (by simp) ?_
          refine (AllReadyH.cons (o := { dst := some 21, op := Go.Op.load 52 (Go.Operand.tmp 20), type := 52, pos := "law.go:24", after := #[{ on := 0, ground := Go.Ground.data }], guard := none }) rfl (fun K hK => ?_) (AllReadyH.cons (o := { dst := some 28, op := Go.Op.buildSlice 52 1 #[(0, Go.Operand.tmp 27)], type := 52, pos := "law.go:24", after := #[{ on := 7, ground := Go.Ground.data }], guard := none }) rfl (fun K hK => ?_) AllReadyH.nil))
          · go_simp
            refine hK.out _ _ ?_ (fun hHeld => ?_)
            · first | exact Fut.drew (by assumption) | exact Fut.alloc (by assumption) _ | assumption
            clear hK K
            try simp only [Act.put, List.setIfInBounds_toArray, List.set_cons_zero, List.set_cons_succ]
            refine wpAnyH_ready (rs := [8]) (by kernel_rfl) (by simp) ?_
            refine (AllReadyH.cons (o := { dst := some 28, op := Go.Op.buildSlice 52 1 #[(0, Go.Operand.tmp 27)], type := 52, pos := "law.go:24", after := #[{ on := 7, ground := Go.Ground.data }], guard := none }) rfl (fun K hK => ?_) AllReadyH.nil)
            · refine wp_buildSlice54 rfl _ rfl (r := r2) rfl ?_
              refine hK.out _ _ ?_ (fun hHeld => ?_)
              · first | exact Fut.drew (by assumption) | exact Fut.alloc (by assumption) _ | assumption
              clear hK K
              try simp only [Act.put, List.setIfInBounds_toArray, List.set_cons_zero, List.set_cons_succ]
              refine wpAnyH_ready (rs := [9]) (by kernel_rfl) (by simp) ?_
              refine (AllReadyH.cons (o := { dst := some 29, op := Go.Op.call { callee := Go.Callee.builtin Go.Builtin.append, args := #[Go.Operand.tmp 21, Go.Operand.tmp 28], argTypes := #[52, 52] }, type := 52, pos := "law.go:24", after := #[{ on := 1, ground := Go.Ground.data }, { on := 8, ground := Go.Ground.data }, { on := 7, ground := Go.Ground.chain }], guard := none }) rfl (fun K hK => ?_) AllReadyH.nil)
              · refine step_append_lies _ rfl (.tmp 21) (.tmp 28) 52 rfl _ 54 i0 (.agg (cellsR ⟨0, set0, 0, none, 0, 0⟩)) 259 296 Try.underlying52 hi hz0 hz1 hz2 (by simp [Value.cells, cellsR_size]) (by decide) _ q (rowsR rs) rfl (HI2.out.own2 HG2.out _) ⟨w1.heap.size, 0, none⟩ 1 1 (rowR r2) rfl (rowR_length r2) (World.news_of_block (heap_alloc_new w1 _)) (rowR_one r2) (by decide) (by unfold maxLen; omega) (by omega) (HI2.out.base HG2.out _) _ rfl ?_
                intro kb kcap w3 hown3 hgrow3 hat3 hlt3
                have HF := hid (HI2.out.step hlt HG2.out HV2.out hown3 hgrow3 hat3)
                have hf3 := HF.out.1
                have c3 := HF.out.2.1
                have z3 := HF.out.2.2.1
                clear hown3 hgrow3 hat3 hlt3
                refine hK.out _ _ ?_ (fun hHeld => ?_)
                · first | exact Fut.drew (by assumption) | exact Fut.alloc (by assumption) _ | assumption
                clear hK K
                try simp only [Act.put, List.setIfInBounds_toArray, List.set_cons_zero, List.set_cons_succ]
                refine wpAnyH_take (i := 10) (oi := { dst := some 30, op := Go.Op.fieldAddr 54 (Go.Operand.tmp 3) 3, type := 0, pos := "law.go:24", after := #[{ on := 0, ground := Go.Ground.phase }, { on := 1, ground := Go.Ground.phase }, { on := 2, ground := Go.Ground.phase }, { on := 3, ground := Go.Ground.phase }, { on := 4, ground := Go.Ground.phase }, { on := 5, ground := Go.Ground.phase }, { on := 6, ground := Go.Ground.phase }, { on := 7, ground := Go.Ground.phase }, { on := 8, ground := Go.Ground.phase }, { on := 9, ground := Go.Ground.phase }], guard := none }) (v := ?_) rfl (by kernel_rfl) (by kernel_rfl) (by kernel_rfl) (fun _ _ _ h => h) (Or.inl ⟨by rfl, ?_⟩) (by assumption) ?_
                rotate_left
                · intro w hSw; have hS1 := hSw.le hle2; go_simp; all_goals with_reducible rfl
                try simp only [Act.put, List.setIfInBounds_toArray, List.set_cons_zero, List.set_cons_succ]
                refine wpAnyH_ready (rs := [11]) (by kernel_rfl) (by simp) ?_
                refine (AllReadyH.cons (o := { dst := none, op := Go.Op.store 52 (Go.Operand.tmp 30) (Go.Operand.tmp 29), type := 0, pos := "law.go:24", after := #[{ on := 10, ground := Go.Ground.data }, { on := 9, ground := Go.Ground.data }, { on := 9, ground := Go.Ground.chain }, { on := 0, ground := Go.Ground.phase }, { on := 1, ground := Go.Ground.phase }, { on := 2, ground := Go.Ground.phase }, { on := 3, ground := Go.Ground.phase }, { on := 4, ground := Go.Ground.phase }, { on := 5, ground := Go.Ground.phase }, { on := 6, ground := Go.Ground.phase }, { on := 7, ground := Go.Ground.phase }, { on := 8, ground := Go.Ground.phase }, { on := 9, ground := Go.Ground.phase }], guard := none }) rfl (fun K hK => ?_) AllReadyH.nil)
                · go_simp
                  refine hK.out _ _ ?_ (fun hHeld => ?_)
                  · exact Fut.setCell (by assumption) HNB.out _
                  clear hK K
                  try simp only [Act.put, List.setIfInBounds_toArray, List.set_cons_zero, List.set_cons_succ]
                  refine wpAnyH_done (by kernel_rfl) ?_ _
                  go_wp2_with fail
                  go_roundg (l.length - (q + 1))
                  case measure => omega
                  case rel => exact ⟨q + 1, _, _, _, _, by omega, by go_num, hle2.trans HG2.out.le, HF.out.2.2.2⟩
          · refine wp_buildSlice54 rfl _ rfl (r := r2) rfl ?_
            refine hK.out _ _ ?_ (fun hHeld => ?_)
            · first | exact Fut.drew (by assumption) | exact Fut.alloc (by assumption) _ | assumption
            clear hK K
            try simp only [Act.put, List.setIfInBounds_toArray, List.set_cons_zero, List.set_cons_succ]
            refine wpAnyH_ready (rs := [1]) (by kernel_rfl) (by simp) ?_
            refine (AllReadyH.cons (o := { dst := some 21, op := Go.Op.load 52 (Go.Operand.tmp 20), type := 52, pos := "law.go:24", after := #[{ on := 0, ground := Go.Ground.data }], guard := none }) rfl (fun K hK => ?_) AllReadyH.nil)
            · go_simp
              refine hK.out _ _ ?_ (fun hHeld => ?_)
              · first | exact Fut.drew (by assumption) | exact Fut.alloc (by assumption) _ | assumption
              clear hK K
              try simp only [Act.put, List.setIfInBounds_toArray, List.set_cons_zero, List.set_cons_succ]
              refine wpAnyH_ready (rs := [9]) (by kernel_rfl) (by simp) ?_
              refine (AllReadyH.cons (o := { dst := some 29, op := Go.Op.call { callee := Go.Callee.builtin Go.Builtin.append, args := #[Go.Operand.tmp 21, Go.Operand.tmp 28], argTypes := #[52, 52] }, type := 52, pos := "law.go:24", after := #[{ on := 1, ground := Go.Ground.data }, { on := 8, ground := Go.Ground.data }, { on := 7, ground := Go.Ground.chain }], guard := none }) rfl (fun K hK => ?_) AllReadyH.nil)
              · refine step_append_lies _ rfl (.tmp 21) (.tmp 28) 52 rfl _ 54 i0 (.agg (cellsR ⟨0, set0, 0, none, 0, 0⟩)) 259 296 Try.underlying52 hi hz0 hz1 hz2 (by simp [Value.cells, cellsR_size]) (by decide) _ q (rowsR rs) rfl (HI2.out.own2 HG2.out _) ⟨w1.heap.size, 0, none⟩ 1 1 (rowR r2) rfl (rowR_length r2) (World.news_of_block (heap_alloc_new w1 _)) (rowR_one r2) (by decide) (by unfold maxLen; omega) (by omega) (HI2.out.base HG2.out _) _ rfl ?_
                intro kb kcap w3 hown3 hgrow3 hat3 hlt3
                have HF := hid (HI2.out.step hlt HG2.out HV2.out hown3 hgrow3 hat3)
                have hf3 := HF.out.1
                have c3 := HF.out.2.1
                have z3 := HF.out.2.2.1
                clear hown3 hgrow3 hat3 hlt3
                refine hK.out _ _ ?_ (fun hHeld => ?_)
                · first | exact Fut.drew (by assumption) | exact Fut.alloc (by assumption) _ | assumption
                clear hK K
                try simp only [Act.put, List.setIfInBounds_toArray, List.set_cons_zero, List.set_cons_succ]
                refine wpAnyH_take (i := 10) (oi := { dst := some 30, op := Go.Op.fieldAddr 54 (Go.Operand.tmp 3) 3, type := 0, pos := "law.go:24", after := #[{ on := 0, ground := Go.Ground.phase }, { on := 1, ground := Go.Ground.phase }, { on := 2, ground := Go.Ground.phase }, { on := 3, ground := Go.Ground.phase }, { on := 4, ground := Go.Ground.phase }, { on := 5, ground := Go.Ground.phase }, { on := 6, ground := Go.Ground.phase }, { on := 7, ground := Go.Ground.phase }, { on := 8, ground := Go.Ground.phase }, { on := 9, ground := Go.Ground.phase }], guard := none }) (v := ?_) rfl (by kernel_rfl) (by kernel_rfl) (by kernel_rfl) (fun _ _ _ h => h) (Or.inl ⟨by rfl, ?_⟩) (by assumption) ?_
                rotate_left
                · intro w hSw; have hS1 := hSw.le hle2; go_simp; all_goals with_reducible rfl
                try simp only [Act.put, List.setIfInBounds_toArray, List.set_cons_zero, List.set_cons_succ]
                refine wpAnyH_ready (rs := [11]) (by kernel_rfl) (by simp) ?_
                refine (AllReadyH.cons (o := { dst := none, op := Go.Op.store 52 (Go.Operand.tmp 30) (Go.Operand.tmp 29), type := 0, pos := "law.go:24", after := #[{ on := 10, ground := Go.Ground.data }, { on := 9, ground := Go.Ground.data }, { on := 9, ground := Go.Ground.chain }, { on := 0, ground := Go.Ground.phase }, { on := 1, ground := Go.Ground.phase }, { on := 2, ground := Go.Ground.phase }, { on := 3, ground := Go.Ground.phase }, { on := 4, ground := Go.Ground.phase }, { on := 5, ground := Go.Ground.phase }, { on := 6, ground := Go.Ground.phase }, { on := 7, ground := Go.Ground.phase }, { on := 8, ground := Go.Ground.phase }, { on := 9, ground := Go.Ground.phase }], guard := none }) rfl (fun K hK => ?_) AllReadyH.nil)
                · go_simp
                  refine hK.out _ _ ?_ (fun hHeld => ?_)
                  · exact Fut.setCell (by assumption) HNB.out _
                  clear hK K
                  try simp only [Act.put, List.setIfInBounds_toArray, List.set_cons_zero, List.set_cons_succ]
                  refine wpAnyH_done (by kernel_rfl) ?_ _
                  go_wp2_with fail
                  go_roundg (l.length - (q + 1))
                  case measure => omega
                  case rel => exact ⟨q + 1, _, _, _, _, by omega, by go_num, hle2.trans HG2.out.le, HF.out.2.2.2⟩
      · obtain rfl : q = l.length := by have := hI.le; omega
        have hb3 := rangeAt_heap hI.b3
        have HI2 := hid hI
        clear hI HI HK
        go_wp2_with (first | (refine wpList_load54 rfl _ rfl rfl hb3 ?_) | (refine wpList_store_row rfl 54 _ _ rfl _ _ rfl rfl 54 _ HI2.out.b2 (by rw [size54]; simp [cellsR_size]) (by simp [cellsR_size]) (cellsR_one _) ?_) | fail)
        obtain ⟨g2, a2, cap2, he, hg2, hle3, hv2, hnn⟩ := HI2.out.own.keep HI2.out.grow (by have := HI2.out.lt2; have := HI2.out.lt3; omega) k s n hk hs hn
        simp only [Value.slice.injEq] at he
        obtain ⟨rfl, hlen, rfl⟩ := he
        refine bodyPost_ret (results_set54 (r := ⟨k, s, n, la, l.length, lc⟩) (B := w.heap.size + 1) rfl rfl (setRow_heap _ _ _ _ _ _ HI2.out.b2)) rfl ⟨g2, _, rfl, hg2.setRow (hnn _ HI2.out.n2 ?_) (by omega) _, ?_⟩
        · intro e
          have h1 := (HI2.out.own.lt e).1
          have h2 := HI2.out.lt3
          omega
        · have e : l.take l.length = l := List.take_length
          rw [e] at hv2
          exact hv2
end Go.Proofs.Ytjodmimnbpgfcaa
