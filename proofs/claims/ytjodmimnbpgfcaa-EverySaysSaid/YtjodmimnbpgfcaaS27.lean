/- Rows of the reference's values that a call builds for itself; valueOf, walked. A library text: no claim is stated here. -/
import Derived.Test.YtjodmimnbpgfcaaS26
import Derived.Test.YtjodmimnbpgfcaaS12

/- RefS -/
namespace Go.Proofs.Ytjodmimnbpgfcaa
open Go.RowKit Go.IntWalk

theorem vcells_length (r : VRow) : r.cells.length = 3 := rfl

/-- A row of values under construction. -/
structure OwnV (base : Nat) (g : G) (w : World) (v : Value) (l : List Val) (rs : List VRow) : Prop where
  own : w.ownsRow base 61 3 v l.length (rowsCells rs)
  len : rs.length = l.length
  rel : ∀ (i : Nat) (r : VRow) (c : Val), rs[i]? = some r → l[i]? = some c → ValV g r c
  nown : ∀ k, v.ownBlock = some k → g.blk k = none
  nil : l = [] → v = .slice none 0 0

theorem OwnV.start (base : Nat) (g : G) (w : World) : OwnV base g w (.slice none 0 0) [] [] :=
  ⟨World.ownsRow_nil _ _ _ _, rfl, fun i r c h => by simp at h, fun k h => by simp [Value.ownBlock] at h, fun _ => rfl⟩

theorem OwnV.lt {base : Nat} {g : G} {w : World} {v : Value} {l : List Val} {rs : List VRow} (h : OwnV base g w v l rs) {k : Nat} (hk : v.ownBlock = some k) : base ≤ k ∧ k < w.heap.size := h.own.lt k hk

theorem OwnV.grow {base : Nat} {g g' : G} {w w' : World} {v : Value} {l : List Val} {rs : List VRow} (h : OwnV base g w v l rs) (hg : Grow g w g' w') : OwnV base g' w' v l rs :=
  ⟨ownsRow_same h.own (fun k hk => hg.old k (h.lt hk).2), h.len, fun i r c h1 h2 => (h.rel i r c h1 h2).le hg.le, fun k hk => hg.new k (h.nown k hk) (h.lt hk).2, h.nil⟩

/-- Behind an append of one. -/
theorem OwnV.snoc {base : Nat} {g : G} {w w' : World} {v : Value} {l : List Val} {rs : List VRow} (h : OwnV base g w v l rs) {kb kcap n : Nat} {r : VRow} {c : Val} {H : Nat} (hn : l.length = n) (hr : ValV g r c) (ho : w'.ownsRow base 61 3 (.slice (some ⟨kb, 0, none⟩) (n + 1) kcap) (n + 1) (rowsCells rs ++ r.cells))
    (hat : v.ownBlock = some kb ∨ kb = H) (hH : g.blk H = none) : OwnV base g w' (.slice (some ⟨kb, 0, none⟩) (n + 1) kcap) (l ++ [c]) (rs ++ [r]) := by
  subst hn
  refine ⟨?_, by simp [h.len], fun i r' c' h1 h2 => ?_, fun k hk => ?_, fun e => by simp at e⟩
  · have e : rowsCells (rs ++ [r]) = rowsCells rs ++ r.cells := by simp [rowsCells]
    rw [e]; simpa using ho
  · rcases Nat.lt_trichotomy i l.length with hi | hi | hi
    · rw [List.getElem?_append_left (by rw [h.len]; exact hi)] at h1
      rw [List.getElem?_append_left hi] at h2
      exact h.rel i r' c' h1 h2
    · rw [List.getElem?_append_right (by rw [h.len]; omega)] at h1
      rw [List.getElem?_append_right (by omega)] at h2
      rw [h.len, hi] at h1
      rw [hi] at h2
      simp at h1 h2
      subst h1 h2
      exact hr
    · rw [List.getElem?_eq_none (by simp [h.len]; omega)] at h1
      cases h1
  · simp only [Value.ownBlock, Option.some.injEq] at hk
    subst hk
    rcases hat with h1 | h1
    · exact h.nown _ h1
    · rw [h1]; exact hH

/-- A row of the call's own becomes persistent. -/
theorem OwnV.keep {g0 g : G} {w0 w : World} {base : Nat} {v : Value} {l : List Val} {rs : List VRow} (ho : OwnV base g w v l rs) (hg : Grow g0 w0 g w) (hb : w0.heap.size ≤ base) (k b' : Int) :
    ∃ g' a cap, v = .slice a l.length cap ∧ Grow g0 w0 g' w ∧ g.Le g' ∧ ValV g' ⟨k, b', a, l.length, cap⟩ (.mk k b' l) ∧ ∀ b, g.blk b = none → v.ownBlock ≠ some b → g'.blk b = none := by
  rcases ho.own.2 with ⟨rfl, h0⟩ | ⟨kb, cap, cur, rfl, h1, h2, h3, h4, h5, h6⟩
  · have : l = [] := List.eq_nil_of_length_eq_zero h0
    subst this
    exact ⟨g, none, 0, rfl, hg, G.Le.refl _, .nil k b', fun b hb _ => hb⟩
  · have k2 := ho.nown kb rfl
    have hm0 : 0 < l.length := by
      rcases Nat.eq_zero_or_pos l.length with h0 | h0
      · have := ho.nil (List.eq_nil_of_length_eq_zero h0); simp at this
      · exact h0
    refine ⟨g.add kb (.cells cur 61 (0, 0)), some ⟨kb, 0, none⟩, cap, rfl, (Step.keep (hg.step (fun _ => False)) h2 (by omega) k2).grow, G.le_add k2, ?_, ?_⟩
    · have hbk : (g.add kb (.cells cur 61 (0, 0))).blk kb = some (.cells cur 61 (0, 0)) := G.add_same _ _ _
      have hlr := ho.own.1
      have hget : ∀ j u, (rowsCells rs)[j]? = some u → cur[j]? = some u := fun j u hj => by
        have hi : j < (rowsCells rs).length := (List.getElem?_eq_some_iff.1 hj).1
        rw [hlr] at hi
        rw [← h6, List.getElem?_take, if_pos hi] at hj
        simpa using hj
      refine .row k b' kb 0 cap l (fun i => rs.getD i ⟨0, 0, none, 0, 0⟩) hm0 h3 (by unfold maxLen at h4; omega) (fun i hi => ?_) (fun i hi => ?_)
      · have hi2 : i < rs.length := by rw [ho.len]; exact hi
        have hgg : ∀ r, r < 3 → (rowsCells rs)[i * 3 + r]? = (rs[i]).cells[r]? := fun r hr3 => by
          rw [rowsCells_get rs i r hr3, List.getElem?_eq_getElem hi2]; rfl
        have hd : rs.getD i ⟨0, 0, none, 0, 0⟩ = rs[i] := by simp [List.getD, List.getElem?_eq_getElem hi2]
        rw [hd, Nat.zero_add]
        exact ⟨fut_cell hbk _ _ (hget _ _ (hgg 0 (by omega))), fut_cell hbk _ _ (hget _ _ (hgg 1 (by omega))), fut_cell hbk _ _ (hget _ _ (hgg 2 (by omega)))⟩
      · have hi2 : i < rs.length := by rw [ho.len]; exact hi
        have hd : rs.getD i ⟨0, 0, none, 0, 0⟩ = rs[i] := by simp [List.getD, List.getElem?_eq_getElem hi2]
        simp only [hd]
        exact (ho.rel i _ _ (List.getElem?_eq_getElem hi2) (List.getElem?_eq_getElem hi)).le (G.le_add k2)
    · intro b hb hne
      have : b ≠ kb := fun e => hne (by rw [e]; rfl)
      simp [G.add, this, hb]

theorem Try.info61 : (Try.prog.info? 61).map (fun i => (i.zero, i.size, i.bytes)) = some (some (.agg #[.int .i64 0, .int .u8 0, .slice none 0 0]), 3, 40) := by kernel_rfl

theorem results_val {fn : Func} {p : Tmp} {tmps : Array Value} {w : World} {B : Nat} {r : VRow} (hr : fn.results = #[.cell p 61]) (hp : tmps.getD p undef = .pointer (some ⟨B, 0, none⟩)) (h : w.heap[B]? = some (.cells #[.int .i64 r.k, .int .u8 r.b, .slice r.a r.len r.cap] 61)) :
    (results fn tmps).run Try.prog w = .ok r.val w := by
  have e0 : w.cell? ⟨B, 0, none⟩ = some (.int .i64 r.k) := heap_cell h 0 _ rfl
  have e1 : w.cell? ⟨B, 1, none⟩ = some (.int .u8 r.b) := heap_cell h 1 _ rfl
  have e2 : w.cell? ⟨B, 2, none⟩ = some (.slice r.a r.len r.cap) := heap_cell h 2 _ rfl
  have hp' : tmps[p]?.getD undef = .pointer (some ⟨B, 0, none⟩) := by simpa using hp
  simp [results, hr, hp', go_sem, e0, e1, e2, VRow.val]

def putVal (w : World) (B : Nat) (r : VRow) : World :=
  ((w.setCell ⟨B, 0, none⟩ (.int .i64 r.k)).setCell ⟨B, 1, none⟩ (.int .u8 r.b)).setCell ⟨B, 2, none⟩ (.slice r.a r.len r.cap)
theorem val_stores {w : World} {B : Nat} (h : w.heap[B]? = some (.cells #[.int .i64 0, .int .u8 0, .slice none 0 0] 61)) (r : VRow) : (putVal w B r).heap[B]? = some (.cells #[.int .i64 r.k, .int .u8 r.b, .slice r.a r.len r.cap] 61) :=
  heap_setCell_same (heap_setCell_same (heap_setCell_same h _) _) _
theorem val_grow {g g' : G} {w w' : World} (h : Grow g w g' w') {B : Nat} (hb : g'.blk B = none) (hn : w.heap.size ≤ B) (r : VRow) : Grow g w g' (putVal w' B r) :=
  ((h.setCell (a := ⟨B, 0, none⟩) hb hn _).setCell (a := ⟨B, 1, none⟩) hb hn _).setCell (a := ⟨B, 2, none⟩) hb hn _
theorem val_other {w : World} {B B' : Nat} (hn : B' ≠ B) (r : VRow) : (putVal w B r).heap[B']? = w.heap[B']? := by
  unfold putVal
  rw [Below.heap_setCell _ _ _ _ hn, Below.heap_setCell _ _ _ _ hn, Below.heap_setCell _ _ _ _ hn]

/-- valueOf's value under construction. -/
structure VInv (g : G) (w : World) (B2 B3 : Nat) (k b : Int) (l : List Val) (q : Nat) (gq : G) (wr : World) (la : Option Addr) (lc : Nat) (rs : List VRow) : Prop where
  grow : Grow g w gq wr
  b2 : wr.heap[B2]? = some (.cells #[.int .i64 0, .int .u8 0, .slice none 0 0] 61)
  b3 : wr.heap[B3]? = some (.cells #[.int .i64 k, .int .u8 b, .slice la q lc] 61)
  own : OwnV (B3 + 1) gq wr (.slice la q lc) (l.take q) rs
  le : q ≤ l.length
  n2 : gq.blk B2 = none
  n3 : gq.blk B3 = none
  lt2 : w.heap.size ≤ B2
  lt3 : B2 < B3

section
variable {g : G} {w : World} {B2 B3 : Nat} {k b : Int} {l : List Val} {q : Nat} {gq g2 : G} {wr w1 w3 : World} {la : Option Addr} {lc : Nat} {rs : List VRow} {r2 : VRow} {kb kcap : Nat}

theorem VInv.step (h : VInv g w B2 B3 k b l q gq wr la lc rs) (hq : q < l.length) (hg : Grow gq wr.drew g2 w1) (hv : ValV g2 r2 l[q])
    (ho : w3.ownsRow (B3 + 1) 61 3 (.slice (some ⟨kb, 0, none⟩) (q + 1) kcap) (q + 1) (rowsCells rs ++ r2.cells)) {o : Obj} (hgr : (w1.alloc o).grownBy w3 (Value.ownBlock (.slice la q lc)))
    (hat : Value.ownBlock (.slice la q lc) = some kb ∨ kb = (w1.alloc o).heap.size) :
    Fut gq w3 ∧ w3.cell? ⟨B3, 2, none⟩ = some (.slice la q lc) ∧ w3.frozen? ⟨B3, 2, none⟩ = false ∧
    VInv g w B2 B3 k b l (q + 1) g2 (w3.setCell ⟨B3, 2, none⟩ (.slice (some ⟨kb, 0, none⟩) (q + 1) kcap)) (some ⟨kb, 0, none⟩) kcap (rs ++ [r2]) := by
  have hlt3 : B3 < wr.heap.size := (Array.getElem?_eq_some_iff.1 h.b3).1
  have hlt2 : B2 < wr.heap.size := (Array.getElem?_eq_some_iff.1 h.b2).1
  have hgd : Grow gq wr g2 w1 := (Grow.refl h.grow.fut).drew.trans hg
  have hown2 := h.own.grow hgd
  have hsz := hgd.size
  have hG1 : Grow g w g2 w1 := h.grow.trans hgd
  have hG3 : Grow g w g2 w3 := (hG1.alloc _).grown hgr (fun k hk => ⟨by have := (h.own.lt hk).1; have := h.lt2; have := h.lt3; omega, hown2.nown k hk⟩)
  have ne3 : some B3 ≠ Value.ownBlock (.slice la q lc) := fun e => by have := (h.own.lt e.symm).1; omega
  have ne2 : some B2 ≠ Value.ownBlock (.slice la q lc) := fun e => by have := (h.own.lt e.symm).1; have := h.lt3; omega
  have b3 : w3.heap[B3]? = some (.cells #[.int .i64 k, .int .u8 b, .slice la q lc] 61) := by
    rw [hgr.block B3 (by rw [World.size_alloc]; omega) ne3, Below.heap_alloc _ _ _ (by omega), hgd.old _ hlt3, h.b3]
  have b2 : w3.heap[B2]? = some (.cells #[.int .i64 0, .int .u8 0, .slice none 0 0] 61) := by
    rw [hgr.block B2 (by rw [World.size_alloc]; omega) ne2, Below.heap_alloc _ _ _ (by omega), hgd.old _ hlt2, h.b2]
  have n3 := hgd.new _ h.n3 hlt3
  have n2 := hgd.new _ h.n2 hlt2
  refine ⟨hG3.fut.le hgd.le, heap_cell b3 2 _ rfl, heap_free b3 2, ⟨hG3.setCell n3 (by have := h.lt2; have := h.lt3; show w.heap.size ≤ B3; omega) _, ?_, ?_, ?_, hq, n2, n3, h.lt2, h.lt3⟩⟩
  · rw [Below.heap_setCell _ _ _ _ (by have := h.lt3; show B2 ≠ B3; omega)]; exact b2
  · rw [heap_setCell_same b3]; simp
  · have hH : g2.blk (w1.alloc o).heap.size = none := hg.fut.none_of_size (by rw [World.size_alloc]; omega)
    have hs := hown2.snoc (w' := w3) (by have := h.le; simp; omega : (l.take q).length = q) hv ho hat hH
    have e : l.take (q + 1) = l.take q ++ [l[q]] := by rw [List.take_add_one, List.getElem?_eq_getElem hq]; rfl
    rw [e]
    have hkb : kb ≠ B3 := by have := (ho.lt kb rfl).1; omega
    exact ⟨ownsRow_setCell_ne hs.own (by simp [Value.ownBlock]; exact hkb) _, hs.len, hs.rel, hs.nown, hs.nil⟩

theorem VInv.own2 (h : VInv g w B2 B3 k b l q gq wr la lc rs) (hg : Grow gq wr.drew g2 w1) (o : Obj) : (w1.alloc o).ownsRow (B3 + 1) 61 3 (.slice la q lc) q (rowsCells rs) := by
  have hgd : Grow gq wr g2 w1 := (Grow.refl h.grow.fut).drew.trans hg
  have := (h.own.grow (hgd.alloc o)).own
  rwa [show (l.take q).length = q by have := h.le; simp; omega] at this
theorem VInv.base (h : VInv g w B2 B3 k b l q gq wr la lc rs) (hg : Grow gq wr.drew g2 w1) (o : Obj) : B3 + 1 ≤ (w1.alloc o).heap.size := by
  have hlt3 : B3 < wr.heap.size := (Array.getElem?_eq_some_iff.1 h.b3).1
  have hgd : Grow gq wr g2 w1 := (Grow.refl h.grow.fut).drew.trans hg
  have := hgd.size
  rw [World.size_alloc]; omega
theorem VInv.cell (h : VInv g w B2 B3 k b l q gq wr la lc rs) (hg : Grow gq wr.drew g2 w1) (o : Obj) : w1.cell? ⟨B3, 2, none⟩ = some (.slice la q lc) ∧ (w1.alloc o).cell? ⟨B3, 2, none⟩ = some (.slice la q lc) := by
  have hlt3 : B3 < wr.heap.size := (Array.getElem?_eq_some_iff.1 h.b3).1
  have hgd : Grow gq wr g2 w1 := (Grow.refl h.grow.fut).drew.trans hg
  have h1 : w1.heap[B3]? = _ := (hgd.old _ hlt3).trans h.b3
  have h2 : (w1.alloc o).heap[B3]? = _ := ((hgd.alloc o).old _ hlt3).trans h.b3
  exact ⟨heap_cell h1 2 _ rfl, heap_cell h2 2 _ rfl⟩
end

mutual
def fewV : Val → Bool
  | .mk _ _ l => decide (l.length ≤ 100000) && fewL l
def fewL : List Val → Bool
  | [] => true
  | x :: r => fewV x && fewL r
end
theorem fewL_get {l : List Val} (h : fewL l = true) {q : Nat} (hq : q < l.length) : fewV l[q] = true := by
  induction l generalizing q with
  | nil => simp at hq
  | cons x r ih =>
    simp only [fewL, Bool.and_eq_true] at h
    cases q with
    | zero => simpa using h.1
    | succ q => simpa using ih h.2 (by simpa using hq)

def ValPost (g : G) (v : Val) (w : World) (e : Ending) (w' : World) : Prop := ∃ g2 r2, e = .returned (VRow.val r2) ∧ Grow g w g2 w' ∧ ValV g2 r2 v

set_option maxRecDepth 100000 in
set_option maxHeartbeats 4000000 in
theorem valueOf_any {g : G} {r : VRow} {v : Val} (h : ValV g r v) : fewV v = true → ∀ g', g.Le g' → ∀ w, Fut g' w → Calls Try.prog 23 #[r.val] w (ValPost g' v w) := by
  refine ValV.step (g := g) (motive := fun r v => fewV v = true → ∀ g', g.Le g' → ∀ w, Fut g' w → Calls Try.prog 23 #[r.val] w (ValPost g' v w)) ?_ h
  clear h r v
  intro k b a cap l hcap0 hmax0 hkids hfew g' hle w hw
  simp only [fewV, Bool.and_eq_true, decide_eq_true_eq] at hfew
  obtain ⟨hll, hfl⟩ := hfew
  obtain ⟨i0, hi, hz0, hz1, hz2⟩ := info_parts Try.info61
  obtain ⟨g1, hg1, ebx, c0, c1, c2⟩ := box_val hw ⟨k, b, a, l.length, cap⟩
  have n2 := hg1.fut.none_of_size (b := w.heap.size + 1) (by simp)
  have n3 := hg1.fut.none_of_size (b := w.heap.size + 1 + 1) (by simp)
  have hle1 := hle.trans hg1.le
  have HG1 := hid hg1
  have HK := hid hkids
  clear hg1 hkids ebx
  unfold VRow.val
  go_enter Try.func23, Try.ntmps23
  go_wp2_with fail
  have hI0 : VInv g' w (w.heap.size + 1) (w.heap.size + 1 + 1) k b l 0 g1 (((w.alloc (.cells #[.int .i64 k, .int .u8 b, .slice a l.length cap] 48)).alloc (.cells #[.int .i64 0, .int .u8 0, .slice none 0 0] 61)).alloc (.cells #[.int .i64 k, .int .u8 b, .slice none 0 0] 61)) none 0 [] := by
    refine ⟨(HG1.out.alloc _).alloc _, ?_, heap_drew_new _ _ _ _, OwnV.start _ _ _, Nat.zero_le _, n2, n3, by omega, by omega⟩
    rw [Below.heap_alloc _ _ _ (by simp)]
    have := heap_alloc_new (w.alloc (.cells #[.int .i64 k, .int .u8 b, .slice a l.length cap] 48)) (.cells #[.int .i64 0, .int .u8 0, .slice none 0 0] 61)
    rw [World.size_alloc] at this
    exact this
  have HI0 := hid hI0
  clear hI0
  go_loopg [4] l.length (fun rem i wr => ∃ (q : Nat) (gq : G) (la : Option Addr) (lc : Nat) (rs : List VRow), q + rem = l.length ∧ i = .int .i64 q ∧ g1.Le gq ∧ VInv g' w (w.heap.size + 1) (w.heap.size + 1 + 1) k b l q gq wr la lc rs)
  case atStart =>
    exact ⟨0, g1, none, 0, [], by omega, rfl, G.Le.refl _, HI0.out⟩
  case round =>
    obtain ⟨q, gq, la, lc, rs, hq, rfl, hle2, hI⟩ := hrel
    have hfr := hI.grow.fut
    have d0 := fun w' (h : Fut gq w') => c0 w' (h.le hle2)
    have d1 := fun w' (h : Fut gq w') => c1 w' (h.le hle2)
    have d2 := fun w' (h : Fut gq w') => c2 w' (h.le hle2)
    have hqi : (q : Int) ≤ 100000 := by omega
    clear c0 c1 c2
    by_cases hlt : q < l.length
    · obtain ⟨bb, off, rq, rfl, hcells, -, ih⟩ := HK.out q hlt
      obtain ⟨e0, e1, e2⟩ := hcells.le (hle1.trans hle2)
      have IH := hid (ih (fewL_get hfl hlt))
      clear ih HK
      unfold VRow.val at IH
      have b3c := heap_cell hI.b3 2 _ rfl
      have HNB := hid hI.n3
      have HI2 := hid hI
      clear hI
      go_upto_region 5 with fail
      refine wp_region_held_drew (S := (fun w' => Fut gq w')) (by kernel_rfl) HI2.out.grow.fut.drew ?_
      intro hS0
      refine wpAnyH_take (i := 0) (oi := { dst := some 17, op := Go.Op.fieldAddr 61 (Go.Operand.tmp 3) 2, type := 0, pos := "law.go:46", after := #[], guard := none }) (v := ?_) rfl (by kernel_rfl) (by kernel_rfl) (by kernel_rfl) (fun _ _ _ h => h) (Or.inl ⟨by rfl, ?_⟩) (by assumption) ?_
      rotate_left
      · intro w hSw; have hS1 := hSw.le hle2; go_simp; all_goals with_reducible rfl
      try simp only [Act.put, List.setIfInBounds_toArray, List.set_cons_zero, List.set_cons_succ]
      refine wpAnyH_take (i := 2) (oi := { dst := some 19, op := Go.Op.fieldAddr 48 (Go.Operand.tmp 1) 2, type := 0, pos := "law.go:46", after := #[], guard := none }) (v := ?_) rfl (by kernel_rfl) (by kernel_rfl) (by kernel_rfl) (fun _ _ _ h => h) (Or.inl ⟨by rfl, ?_⟩) (by assumption) ?_
      rotate_left
      · intro w hSw; have hS1 := hSw.le hle2; go_simp; all_goals with_reducible rfl
      try simp only [Act.put, List.setIfInBounds_toArray, List.set_cons_zero, List.set_cons_succ]
      refine wpAnyH_take (i := 3) (oi := { dst := some 20, op := Go.Op.load 41 (Go.Operand.tmp 19), type := 41, pos := "law.go:46", after := #[{ on := 2, ground := Go.Ground.data }], guard := none }) (v := ?_) rfl (by kernel_rfl) (by kernel_rfl) (by kernel_rfl) (fun _ _ _ h => h) (Or.inl ⟨by rfl, ?_⟩) (by assumption) ?_
      rotate_left
      · intro w hSw; have hS1 := hSw.le hle2; go_simp; all_goals with_reducible rfl
      try simp only [Act.put, List.setIfInBounds_toArray, List.set_cons_zero, List.set_cons_succ]
      refine wpAnyH_take (i := 4) (oi := { dst := some 21, op := Go.Op.move (Go.Operand.tmp 4), type := 3, pos := "law.go:46", after := #[], guard := none }) (v := ?_) rfl (by kernel_rfl) (by kernel_rfl) (by kernel_rfl) (fun _ _ _ h => h) (Or.inl ⟨by rfl, ?_⟩) (by assumption) ?_
      rotate_left
      · intro w hSw; have hS1 := hSw.le hle2; go_simp; all_goals with_reducible rfl
      try simp only [Act.put, List.setIfInBounds_toArray, List.set_cons_zero, List.set_cons_succ]
      refine wpAnyH_take (i := 5) (oi := { dst := some 22, op := Go.Op.indexAddr 41 (Go.Operand.tmp 20) (Go.Operand.tmp 21), type := 0, pos := "law.go:46", after := #[{ on := 3, ground := Go.Ground.data }, { on := 4, ground := Go.Ground.data }], guard := none }) (v := ?_) rfl (by kernel_rfl) (by kernel_rfl) (by kernel_rfl) (fun _ _ _ h => h) (Or.inl ⟨by rfl, ?_⟩) (by assumption) ?_
      rotate_left
      · intro w hSw; have hS1 := hSw.le hle2; go_simp; all_goals with_reducible rfl
      try simp only [Act.put, List.setIfInBounds_toArray, List.set_cons_zero, List.set_cons_succ]
      refine wpAnyH_take (i := 6) (oi := { dst := some 23, op := Go.Op.load 48 (Go.Operand.tmp 22), type := 48, pos := "law.go:46", after := #[{ on := 5, ground := Go.Ground.data }], guard := none }) (v := ?_) rfl (by kernel_rfl) (by kernel_rfl) (by kernel_rfl) (fun _ _ _ h => h) (Or.inl ⟨by rfl, ?_⟩) (by assumption) ?_
      rotate_left
      · intro w hSw; have hS1 := hSw.le hle2; go_simp; all_goals with_reducible rfl
      try simp only [Act.put, List.setIfInBounds_toArray, List.set_cons_zero, List.set_cons_succ]
      refine wpAnyH_ready (rs := [1,7]) (by kernel_rfl) (by simp) ?_
      refine (AllReadyH.cons (o := { dst := some 18, op := Go.Op.load 56 (Go.Operand.tmp 17), type := 56, pos := "law.go:46", after := #[{ on := 0, ground := Go.Ground.data }], guard := none }) rfl (fun K hK => ?_) (AllReadyH.cons (o := { dst := some 24, op := Go.Op.call { callee := Go.Callee.value (Go.Operand.func 23), args := #[Go.Operand.tmp 23], argTypes := #[48] }, type := 61, pos := "law.go:46", after := #[{ on := 6, ground := Go.Ground.data }], guard := none }) rfl (fun K hK => ?_) AllReadyH.nil))
      · go_simp
        refine hK.out _ _ ?_ (fun hHeld => ?_)
        · first | exact Fut.drew (by assumption) | exact Fut.alloc (by assumption) _ | assumption
        clear hK K
        try simp only [Act.put, List.setIfInBounds_toArray, List.set_cons_zero, List.set_cons_succ]
        refine wpAnyH_ready (rs := [7]) (by kernel_rfl) (by simp) ?_
        refine (AllReadyH.cons (o := { dst := some 24, op := Go.Op.call { callee := Go.Callee.value (Go.Operand.func 23), args := #[Go.Operand.tmp 23], argTypes := #[48] }, type := 61, pos := "law.go:46", after := #[{ on := 6, ground := Go.Ground.data }], guard := none }) rfl (fun K hK => ?_) AllReadyH.nil)
        · go_simp
          refine (IH.out _ (hle1.trans hle2) _ (by assumption)).mono ?_
          rintro e w1 ⟨g2, r2, rfl, hg2, hv2⟩
          unfold VRow.val
          have HG2 := hid hg2
          have HV2 := hid hv2
          have hf2 := hg2.fut.le hg2.le
          have c258 := (HI2.out.cell HG2.out (.cells r2.cells.toArray 61)).1
          have c258b := (HI2.out.cell HG2.out (.cells r2.cells.toArray 61)).2
          unfold VRow.cells at c258b
          clear hg2 hv2
          try go_wp2_with fail
          refine hK.out _ _ ?_ (fun hHeld => ?_)
          · first | exact Fut.drew (by assumption) | exact Fut.alloc (by assumption) _ | assumption
          clear hK K
          try simp only [Act.put, List.setIfInBounds_toArray, List.set_cons_zero, List.set_cons_succ]
          refine wpAnyH_ready (rs := [8]) (by kernel_rfl) (by simp) ?_
          refine (AllReadyH.cons (o := { dst := some 25, op := Go.Op.buildSlice 56 1 #[(0, Go.Operand.tmp 24)], type := 56, pos := "law.go:46", after := #[{ on := 7, ground := Go.Ground.data }], guard := none }) rfl (fun K hK => ?_) AllReadyH.nil)
          · go_simp
            refine hK.out _ _ ?_ (fun hHeld => ?_)
            · first | exact Fut.drew (by assumption) | exact Fut.alloc (by assumption) _ | assumption
            clear hK K
            try simp only [Act.put, List.setIfInBounds_toArray, List.set_cons_zero, List.set_cons_succ]
            refine wpAnyH_ready (rs := [9]) (by kernel_rfl) (by simp) ?_
            refine (AllReadyH.cons (o := { dst := some 26, op := Go.Op.call { callee := Go.Callee.builtin Go.Builtin.append, args := #[Go.Operand.tmp 18, Go.Operand.tmp 25], argTypes := #[56, 56] }, type := 56, pos := "law.go:46", after := #[{ on := 1, ground := Go.Ground.data }, { on := 8, ground := Go.Ground.data }, { on := 7, ground := Go.Ground.chain }], guard := none }) rfl (fun K hK => ?_) AllReadyH.nil)
            · refine step_append_lies _ rfl (.tmp 18) (.tmp 25) 56 rfl _ 61 i0 (.agg #[.int .i64 0, .int .u8 0, .slice none 0 0]) 3 40 Try.underlying56 hi hz0 hz1 hz2 rfl (by decide) _ q (rowsCells rs) rfl (HI2.out.own2 HG2.out _) ⟨w1.heap.size, 0, none⟩ 1 1 r2.cells rfl rfl (World.news_of_block (heap_alloc_new w1 _)) (by simp [VRow.cells, Value.oneCell']) (by decide) (by unfold maxLen; omega) (by omega) (HI2.out.base HG2.out _) _ rfl ?_
              intro kb kcap w3 hown3 hgrow3 hat3 hlt3
              have HF := hid (HI2.out.step hlt HG2.out HV2.out hown3 hgrow3 hat3)
              have hf3 := HF.out.1
              have c3 := HF.out.2.1
              have z3 := HF.out.2.2.1
              clear hown3 hgrow3 hat3 hlt3
              refine hK.out _ _ ?_ (fun hHeld => ?_)
              · first | exact Fut.drew (by assumption) | exact Fut.alloc (by assumption) _ | assumption
              clear hK K
              try simp only [Act.put, List.setIfInBounds_toArray, List.set_cons_zero, List.set_cons_succ]
              refine wpAnyH_take (i := 10) (oi := { dst := some 27, op := Go.Op.fieldAddr 61 (Go.Operand.tmp 3) 2, type := 0, pos := "law.go:46", after := #[{ on := 0, ground := Go.Ground.phase }, { on := 1, ground := Go.Ground.phase }, { on := 2, ground := Go.Ground.phase }, { on := 3, ground := Go.Ground.phase }, { on := 4, ground := Go.Ground.phase }, { on := 5, ground := Go.Ground.phase }, { on := 6, ground := Go.Ground.phase }, { on := 7, ground := Go.Ground.phase }, { on := 8, ground := Go.Ground.phase }, { on := 9, ground := Go.Ground.phase }], guard := none }) (v := ?_) rfl (by kernel_rfl) (by kernel_rfl) (by kernel_rfl) (fun _ _ _ h => h) (Or.inl ⟨by rfl, ?_⟩) (by assumption) ?_
              rotate_left
              · intro w hSw; have hS1 := hSw.le hle2; go_simp; all_goals with_reducible rfl
              try simp only [Act.put, List.setIfInBounds_toArray, List.set_cons_zero, List.set_cons_succ]
              refine wpAnyH_ready (rs := [11]) (by kernel_rfl) (by simp) ?_
              refine (AllReadyH.cons (o := { dst := none, op := Go.Op.store 56 (Go.Operand.tmp 27) (Go.Operand.tmp 26), type := 0, pos := "law.go:46", after := #[{ on := 10, ground := Go.Ground.data }, { on := 9, ground := Go.Ground.data }, { on := 9, ground := Go.Ground.chain }, { on := 0, ground := Go.Ground.phase }, { on := 1, ground := Go.Ground.phase }, { on := 2, ground := Go.Ground.phase }, { on := 3, ground := Go.Ground.phase }, { on := 4, ground := Go.Ground.phase }, { on := 5, ground := Go.Ground.phase }, { on := 6, ground := Go.Ground.phase }, { on := 7, ground := Go.Ground.phase }, { on := 8, ground := Go.Ground.phase }, { on := 9, ground := Go.Ground.phase }], guard := none }) rfl (fun K hK => ?_) AllReadyH.nil)
              · go_simp
                refine hK.out _ _ ?_ (fun hHeld => ?_)
                · exact Fut.setCell (by assumption) HNB.out _
                clear hK K
                try simp only [Act.put, List.setIfInBounds_toArray, List.set_cons_zero, List.set_cons_succ]
                refine wpAnyH_done (by kernel_rfl) ?_ _
                go_wp2_with fail
                go_roundg (l.length - (q + 1))
                case measure => omega
                case rel => exact ⟨q + 1, _, _, _, _, by omega, by go_num, hle2.trans HG2.out.le, HF.out.2.2.2⟩
      · go_simp
        refine (IH.out _ (hle1.trans hle2) _ (by assumption)).mono ?_
        rintro e w1 ⟨g2, r2, rfl, hg2, hv2⟩
        unfold VRow.val
        have HG2 := hid hg2
        have HV2 := hid hv2
        have hf2 := hg2.fut.le hg2.le
        have c258 := (HI2.out.cell HG2.out (.cells r2.cells.toArray 61)).1
        have c258b := (HI2.out.cell HG2.out (.cells r2.cells.toArray 61)).2
        unfold VRow.cells at c258b
        clear hg2 hv2
        try go_wp2_with fail
        refine hK.out _ _ ?_ (fun hHeld => ?_)
        · first | exact Fut.drew (by assumption) | exact Fut.alloc (by assumption) _ | assumption
        clear hK K
        try simp only [Act.put, List.setIfInBounds_toArray, List.set_cons_zero, List.set_cons_succ]
        refine wpAnyH_ready (rs := [1,8]) (by kernel_rfl) (by simp) ?_
        refine (AllReadyH.cons (o := { dst := some 18, op := Go.Op.load 56 (Go.Operand.tmp 17), type := 56, pos := "law.go:46", after := #[{ on := 0, ground := Go.Ground.data }], guard := none }) rfl (fun K hK => ?_) (AllReadyH.cons (o := { dst := some 25, op := Go.Op.buildSlice 56 1 #[(0, Go.Operand.tmp 24)], type := 56, pos := "law.go:46", after := #[{ on := 7, ground := Go.Ground.data }], guard := none }) rfl (fun K hK => ?_) AllReadyH.nil))
        · go_simp
          refine hK.out _ _ ?_ (fun hHeld => ?_)
          · first | exact Fut.drew (by assumption) | exact Fut.alloc (by assumption) _ | assumption
          clear hK K
          try simp only [Act.put, List.setIfInBounds_toArray, List.set_cons_zero, List.set_cons_succ]
          refine wpAnyH_ready (rs := [8]) (by kernel_rfl) (by simp) ?_
          refine (AllReadyH.cons (o := { dst := some 25, op := Go.Op.buildSlice 56 1 #[(0, Go.Operand.tmp 24)], type := 56, pos := "law.go:46", after := #[{ on := 7, ground := Go.Ground.data }], guard := none }) rfl (fun K hK => ?_) AllReadyH.nil)
          · go_simp
            refine hK.out _ _ ?_ (fun hHeld => ?_)
            · first | exact Fut.drew (by assumption) | exact Fut.alloc (by assumption) _ | assumption
            clear hK K
            try simp only [Act.put, List.setIfInBounds_toArray, List.set_cons_zero, List.set_cons_succ]
            refine wpAnyH_ready (rs := [9]) (by kernel_rfl) (by simp) ?_
            refine (AllReadyH.cons (o := { dst := some 26, op := Go.Op.call { callee := Go.Callee.builtin Go.Builtin.append, args := #[Go.Operand.tmp 18, Go.Operand.tmp 25], argTypes := #[56, 56] }, type := 56, pos := "law.go:46", after := #[{ on := 1, ground := Go.Ground.data }, { on := 8, ground := Go.Ground.data }, { on := 7, ground := Go.Ground.chain }], guard := none }) rfl (fun K hK => ?_) AllReadyH.nil)
            · refine step_append_lies _ rfl (.tmp 18) (.tmp 25) 56 rfl _ 61 i0 (.agg #[.int .i64 0, .int .u8 0, .slice none 0 0]) 3 40 Try.underlying56 hi hz0 hz1 hz2 rfl (by decide) _ q (rowsCells rs) rfl (HI2.out.own2 HG2.out _) ⟨w1.heap.size, 0, none⟩ 1 1 r2.cells rfl rfl (World.news_of_block (heap_alloc_new w1 _)) (by simp [VRow.cells, Value.oneCell']) (by decide) (by unfold maxLen; omega) (by omega) (HI2.out.base HG2.out _) _ rfl ?_
              intro kb kcap w3 hown3 hgrow3 hat3 hlt3
              have HF := hid (HI2.out.step hlt HG2.out HV2.out hown3 hgrow3 hat3)
              have hf3 := HF.out.1
              have c3 := HF.out.2.1
              have z3 := HF.out.2.2.1
              clear hown3 hgrow3 hat3 hlt3
              refine hK.out _ _ ?_ (fun hHeld => ?_)
              · first | exact Fut.drew (by assumption) | exact Fut.alloc (by assumption) _ | assumption
              clear hK K
              try simp only [Act.put, List.setIfInBounds_toArray, List.set_cons_zero, List.set_cons_succ]
              refine wpAnyH_take (i := 10) (oi := { dst := some 27, op := Go.Op.fieldAddr 61 (Go.Operand.tmp 3) 2, type := 0, pos := "law.go:46", after := #[{ on := 0, ground := Go.Ground.phase }, { on := 1, ground := Go.Ground.phase }, { on := 2, ground := Go.Ground.phase }, { on := 3, ground := Go.Ground.phase }, { on := 4, ground := Go.Ground.phase }, { on := 5, ground := Go.Ground.phase }, { on := 6, ground := Go.Ground.phase }, { on := 7, ground := Go.Ground.phase }, { on := 8, ground := Go.Ground.phase }, { on := 9, ground := Go.Ground.phase }], guard := none }) (v := ?_) rfl (by kernel_rfl) (by kernel_rfl) (by kernel_rfl) (fun _ _ _ h => h) (Or.inl ⟨by rfl, ?_⟩) (by assumption) ?_
              rotate_left
              · intro w hSw; have hS1 := hSw.le hle2; go_simp; all_goals with_reducible rfl
              try simp only [Act.put, List.setIfInBounds_toArray, List.set_cons_zero, List.set_cons_succ]
              refine wpAnyH_ready (rs := [11]) (by kernel_rfl) (by simp) ?_
              refine (AllReadyH.cons (o := { dst := none, op := Go.Op.store 56 (Go.Operand.tmp 27) (Go.Operand.tmp 26), type := 0, pos := "law.go:46", after := #[{ on := 10, ground := Go.Ground.data }, { on := 9, ground := Go.Ground.data }, { on := 9, ground := Go.Ground.chain }, { on := 0, ground := Go.Ground.phase }, { on := 1, ground := Go.Ground.phase }, { on := 2, ground := Go.Ground.phase }, { on := 3, ground := Go.Ground.phase }, { on := 4, ground := Go.Ground.phase }, { on := 5, ground := Go.Ground.phase }, { on := 6, ground := Go.Ground.phase }, { on := 7, ground := Go.Ground.phase }, { on := 8, ground := Go.Ground.phase }, { on := 9, ground := Go.Ground.phase }], guard := none }) rfl (fun K hK => ?_) AllReadyH.nil)
              · go_simp
                refine hK.out _ _ ?_ (fun hHeld => ?_)
                · exact Fut.setCell (by assumption) HNB.out _
                clear hK K
                try simp only [Act.put, List.setIfInBounds_toArray, List.set_cons_zero, List.set_cons_succ]
                refine wpAnyH_done (by kernel_rfl) ?_ _
                go_wp2_with fail
                go_roundg (l.length - (q + 1))
                case measure => omega
                case rel => exact ⟨q + 1, _, _, _, _, by omega, by go_num, hle2.trans HG2.out.le, HF.out.2.2.2⟩
        · go_simp
          refine hK.out _ _ ?_ (fun hHeld => ?_)
          · first | exact Fut.drew (by assumption) | exact Fut.alloc (by assumption) _ | assumption
          clear hK K
          try simp only [Act.put, List.setIfInBounds_toArray, List.set_cons_zero, List.set_cons_succ]
          refine wpAnyH_ready (rs := [1]) (by kernel_rfl) (by simp) ?_
          refine (AllReadyH.cons (o := { dst := some 18, op := Go.Op.load 56 (Go.Operand.tmp 17), type := 56, pos := "law.go:46", after := #[{ on := 0, ground := Go.Ground.data }], guard := none }) rfl (fun K hK => ?_) AllReadyH.nil)
          · go_simp
            refine hK.out _ _ ?_ (fun hHeld => ?_)
            · first | exact Fut.drew (by assumption) | exact Fut.alloc (by assumption) _ | assumption
            clear hK K
            try simp only [Act.put, List.setIfInBounds_toArray, List.set_cons_zero, List.set_cons_succ]
            refine wpAnyH_ready (rs := [9]) (by kernel_rfl) (by simp) ?_
            refine (AllReadyH.cons (o := { dst := some 26, op := Go.Op.call { callee := Go.Callee.builtin Go.Builtin.append, args := #[Go.Operand.tmp 18, Go.Operand.tmp 25], argTypes := #[56, 56] }, type := 56, pos := "law.go:46", after := #[{ on := 1, ground := Go.Ground.data }, { on := 8, ground := Go.Ground.data }, { on := 7, ground := Go.Ground.chain }], guard := none }) rfl (fun K hK => ?_) AllReadyH.nil)
            · refine step_append_lies _ rfl (.tmp 18) (.tmp 25) 56 rfl _ 61 i0 (.agg #[.int .i64 0, .int .u8 0, .slice none 0 0]) 3 40 Try.underlying56 hi hz0 hz1 hz2 rfl (by decide) _ q (rowsCells rs) rfl (HI2.out.own2 HG2.out _) ⟨w1.heap.size, 0, none⟩ 1 1 r2.cells rfl rfl (World.news_of_block (heap_alloc_new w1 _)) (by simp [VRow.cells, Value.oneCell']) (by decide) (by unfold maxLen; omega) (by omega) (HI2.out.base HG2.out _) _ rfl ?_
              intro kb kcap w3 hown3 hgrow3 hat3 hlt3
              have HF := hid (HI2.out.step hlt HG2.out HV2.out hown3 hgrow3 hat3)
              have hf3 := HF.out.1
              have c3 := HF.out.2.1
              have z3 := HF.out.2.2.1
              clear hown3 hgrow3 hat3 hlt3
              refine hK.out _ _ ?_ (fun hHeld => ?_)
              · first | exact Fut.drew (by assumption) | exact Fut.alloc (by assumption) _ | assumption
              clear hK K
              try simp only [Act.put, List.setIfInBounds_toArray, List.set_cons_zero, List.set_cons_succ]
              refine wpAnyH_take (i := 10) (oi := { dst := some 27, op := Go.Op.fieldAddr 61 (Go.Operand.tmp 3) 2, type := 0, pos := "law.go:46", after := #[{ on := 0, ground := Go.Ground.phase }, { on := 1, ground := Go.Ground.phase }, { on := 2, ground := Go.Ground.phase }, { on := 3, ground := Go.Ground.phase }, { on := 4, ground := Go.Ground.phase }, { on := 5, ground := Go.Ground.phase }, { on := 6, ground := Go.Ground.phase }, { on := 7, ground := Go.Ground.phase }, { on := 8, ground := Go.Ground.phase }, { on := 9, ground := Go.Ground.phase }], guard := none }) (v := ?_) rfl (by kernel_rfl) (by kernel_rfl) (by kernel_rfl) (fun _ _ _ h => h) (Or.inl ⟨by rfl, ?_⟩) (by assumption) ?_
              rotate_left
              · intro w hSw; have hS1 := hSw.le hle2; go_simp; all_goals with_reducible rfl
              try simp only [Act.put, List.setIfInBounds_toArray, List.set_cons_zero, List.set_cons_succ]
              refine wpAnyH_ready (rs := [11]) (by kernel_rfl) (by simp) ?_
              refine (AllReadyH.cons (o := { dst := none, op := Go.Op.store 56 (Go.Operand.tmp 27) (Go.Operand.tmp 26), type := 0, pos := "law.go:46", after := #[{ on := 10, ground := Go.Ground.data }, { on := 9, ground := Go.Ground.data }, { on := 9, ground := Go.Ground.chain }, { on := 0, ground := Go.Ground.phase }, { on := 1, ground := Go.Ground.phase }, { on := 2, ground := Go.Ground.phase }, { on := 3, ground := Go.Ground.phase }, { on := 4, ground := Go.Ground.phase }, { on := 5, ground := Go.Ground.phase }, { on := 6, ground := Go.Ground.phase }, { on := 7, ground := Go.Ground.phase }, { on := 8, ground := Go.Ground.phase }, { on := 9, ground := Go.Ground.phase }], guard := none }) rfl (fun K hK => ?_) AllReadyH.nil)
              · go_simp
                refine hK.out _ _ ?_ (fun hHeld => ?_)
                · exact Fut.setCell (by assumption) HNB.out _
                clear hK K
                try simp only [Act.put, List.setIfInBounds_toArray, List.set_cons_zero, List.set_cons_succ]
                refine wpAnyH_done (by kernel_rfl) ?_ _
                go_wp2_with fail
                go_roundg (l.length - (q + 1))
                case measure => omega
                case rel => exact ⟨q + 1, _, _, _, _, by omega, by go_num, hle2.trans HG2.out.le, HF.out.2.2.2⟩
    · obtain rfl : q = l.length := by have := hI.le; omega
      have x0 := heap_cell hI.b3 0 _ rfl
      have x1 := heap_cell hI.b3 1 _ rfl
      have x2 := heap_cell hI.b3 2 _ rfl
      have y0 := heap_cell hI.b2 0 _ rfl
      have y1 := heap_cell hI.b2 1 _ rfl
      have y2 := heap_cell hI.b2 2 _ rfl
      have z0 := heap_free hI.b2 0
      have z1 := heap_free hI.b2 1
      have z2 := heap_free hI.b2 2
      have HI2 := hid hI
      clear hI HK
      go_wp2_with fail
      obtain ⟨g2, a2, cap2, he, hg2, hle3, hv2, hnn⟩ := HI2.out.own.keep HI2.out.grow (by have := HI2.out.lt2; have := HI2.out.lt3; omega) k b
      simp only [Value.slice.injEq] at he
      obtain ⟨rfl, hlen, rfl⟩ := he
      have hst := val_stores HI2.out.b2 ⟨k, b, la, l.length, lc⟩
      have hgr := val_grow hg2 (B := w.heap.size + 1) (hnn _ HI2.out.n2 (fun e => by
        have h1 := (HI2.out.own.lt e).1
        have h2 := HI2.out.lt3
        omega)) (by omega) ⟨k, b, la, l.length, lc⟩
      have e : l.take l.length = l := List.take_length
      rw [e] at hv2
      simp only [putVal] at hst hgr
      exact bodyPost_ret (results_val (r := ⟨k, b, la, l.length, lc⟩) (B := w.heap.size + 1) rfl rfl hst) rfl ⟨g2, _, rfl, hgr, hv2⟩
end Go.Proofs.Ytjodmimnbpgfcaa
