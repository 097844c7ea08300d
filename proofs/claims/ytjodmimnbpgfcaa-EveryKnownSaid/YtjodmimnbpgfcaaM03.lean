/- Slices of one-cell elements in persistent memory; small laws on blocks. A library text: no claim is stated here. What a call leaves that may turn some of the old blocks: 'Step M'. A library text: no claim is stated here. A core's parts in a row: what lang.Table numbers. Plain Lean, no program. A library text: no claim is stated here. -/
import Derived.Test.YtjodmimnbpgfcaaM01

/- Mem -/
namespace Go.Proofs.Ytjodmimnbpgfcaa
open Go.RowKit

/-- A slice of one-cell elements that lies in persistent memory. -/
inductive SliceV (g : G) : Option Addr → Nat → Nat → List Value → Prop
  | nil : SliceV g none 0 0 []
  | row (b off cap : Nat) (vs : List Value) (hcap : vs.length ≤ cap) (hm : cap ≤ 9223372036854775807)
      (hc : ∀ w, Fut g w → ∀ i v, vs[i]? = some v → w.cell? ⟨b, off + i, none⟩ = some v) : SliceV g (some ⟨b, off, none⟩) vs.length cap vs

theorem SliceV.le {g g' : G} {a : Option Addr} {n c : Nat} {vs : List Value} (h : SliceV g a n c vs) (k : g.Le g') : SliceV g' a n c vs := by
  cases h with
  | nil => exact .nil
  | row b off _ _ hcap hm hc => exact .row b off _ _ hcap hm (fun w hw => hc w (hw.le k))
theorem SliceV.length {g : G} {a : Option Addr} {n c : Nat} {vs : List Value} (h : SliceV g a n c vs) : n = vs.length ∧ n ≤ c ∧ c ≤ 9223372036854775807 := by
  cases h with
  | nil => exact ⟨rfl, Nat.le_refl _, by omega⟩
  | row b off _ _ hcap hm hc => exact ⟨rfl, hcap, hm⟩

def byteV (x : UInt8) : Value := .int .u8 (x.toNat : Int)
def natV (k : Nat) : Value := .int .i64 (k : Int)

theorem heap_setCell_same {w : World} {b i : Nat} {arr : Array Value} {t : TypeId} {fz : Nat × Nat} (h : w.heap[b]? = some (.cells arr t fz)) (v : Value) :
    (w.setCell ⟨b, i, none⟩ v).heap[b]? = some (.cells (arr.setIfInBounds i v) t fz) := by
  simp [World.setCell, Array.getElem?_modify, h]
theorem heap_cell {w : World} {b : Nat} {arr : Array Value} {t : TypeId} {fz : Nat × Nat} (h : w.heap[b]? = some (.cells arr t fz)) (i : Nat) (v : Value) (hv : arr[i]? = some v) : w.cell? ⟨b, i, none⟩ = some v := by
  simp [World.cell?, h, hv]
theorem heap_free {w : World} {b : Nat} {arr : Array Value} {t : TypeId} (h : w.heap[b]? = some (.cells arr t (0, 0))) (i : Nat) : w.frozen? ⟨b, i, none⟩ = false := by
  simp [World.frozen?, h]

def Set4.val (s : Set4) : Value := .agg #[.int .u64 s.a, .int .u64 s.b, .int .u64 s.c, .int .u64 s.d]
def Set4.vals (s : Set4) : Array Value := #[.int .u64 s.a, .int .u64 s.b, .int .u64 s.c, .int .u64 s.d]

end Go.Proofs.Ytjodmimnbpgfcaa

/- Step -/
namespace Go.Proofs.Ytjodmimnbpgfcaa
open Go.RowKit

/-- Old blocks but those of M are as they were; what is persistent from now on was so, or is new. -/
structure Step (M : Nat → Prop) (g : G) (w : World) (g' : G) (w' : World) : Prop where
  le : g.Le g'
  fut : Fut g' w'
  size : w.heap.size ≤ w'.heap.size
  old : ∀ b, b < w.heap.size → ¬ M b → w'.heap[b]? = w.heap[b]?
  new : ∀ b, g.blk b = none → b < w.heap.size → g'.blk b = none

theorem Grow.step {g g' : G} {w w' : World} (h : Grow g w g' w') (M : Nat → Prop) : Step M g w g' w' := ⟨h.le, h.fut, h.size, fun b hb _ => h.old b hb, h.new⟩
theorem Step.refl (M : Nat → Prop) {g : G} {w : World} (h : Fut g w) : Step M g w g w := (Grow.refl h).step M
theorem Step.grow {g g' : G} {w w' : World} (h : Step (fun _ => False) g w g' w') : Grow g w g' w' := ⟨h.le, h.fut, h.size, fun b hb => h.old b hb id, h.new⟩
/-- The second part may turn what the first has made. -/
theorem Step.trans {M M' : Nat → Prop} {g1 g2 g3 : G} {w1 w2 w3 : World} (h : Step M g1 w1 g2 w2) (k : Step M' g2 w2 g3 w3) (hM : ∀ b, M' b → M b ∨ w1.heap.size ≤ b) : Step M g1 w1 g3 w3 :=
  ⟨h.le.trans k.le, k.fut, Nat.le_trans h.size k.size,
    fun b hb hn => (k.old b (Nat.lt_of_lt_of_le hb h.size) (fun hm => by rcases hM b hm with h1 | h1; exact hn h1; omega)).trans (h.old b hb hn),
    fun b hb hlt => k.new b (h.new b hb hlt) (Nat.lt_of_lt_of_le hlt h.size)⟩
theorem Step.mono {M M' : Nat → Prop} {g g' : G} {w w' : World} (h : Step M g w g' w') (hM : ∀ b, M b → M' b) : Step M' g w g' w' :=
  ⟨h.le, h.fut, h.size, fun b hb hn => h.old b hb (fun hm => hn (hM b hm)), h.new⟩
theorem Step.alloc {M : Nat → Prop} {g g' : G} {w w' : World} (h : Step M g w g' w') (o : Obj) : Step M g w g' (w'.alloc o) :=
  ⟨h.le, h.fut.alloc o, Nat.le_trans h.size (by simp), fun b hb hn => by rw [Below.heap_alloc _ _ _ (Nat.lt_of_lt_of_le hb h.size)]; exact h.old b hb hn, h.new⟩
theorem Step.drew {M : Nat → Prop} {g g' : G} {w w' : World} (h : Step M g w g' w') : Step M g w g' w'.drew := ⟨h.le, h.fut.drew, h.size, h.old, h.new⟩
theorem Step.drewN {M : Nat → Prop} {g g' : G} {w w' : World} (h : Step M g w g' w') (n : Nat) : Step M g w g' (w'.drewN n) := ⟨h.le, ⟨h.fut.os, h.fut.out, h.fut.blk⟩, h.size, h.old, h.new⟩
theorem Step.setCell {M : Nat → Prop} {g g' : G} {w w' : World} (h : Step M g w g' w') {a : Addr} (ha : g'.blk a.block = none) (hn : M a.block ∨ w.heap.size ≤ a.block) (v : Value) : Step M g w g' (w'.setCell a v) :=
  ⟨h.le, h.fut.setCell ha v, by simpa using h.size, fun b hb hm => by
    rw [Below.heap_setCell _ _ _ _ (fun e => by subst e; rcases hn with h1 | h1; exact hm h1; omega)]; exact h.old b hb hm, h.new⟩
theorem Step.keep {M : Nat → Prop} {g g' : G} {w w' : World} (h : Step M g w g' w') {b : Nat} {o : Obj} (hb : w'.heap[b]? = some o) (hn : w.heap.size ≤ b) (hg : g'.blk b = none) : Step M g w (g'.add b o) w' :=
  ⟨h.le.trans (G.le_add hg), h.fut.add hb, h.size, h.old, fun x hx hlt => by
    have : x ≠ b := by omega
    simp [G.add, this]; exact h.new x hx hlt⟩
theorem Step.grown {M : Nat → Prop} {g g' : G} {w w' w'' : World} {row : Option Nat} (h : Step M g w g' w') (hg : w'.grownBy w'' row) (hr : ∀ k, row = some k → (M k ∨ w.heap.size ≤ k) ∧ g'.blk k = none) : Step M g w g' w'' :=
  ⟨h.le, ⟨hg.os.trans h.fut.os, hg.output.trans h.fut.out, fun b o hb => by
      rw [hg.block b (h.fut.lt hb) (fun e => by have := (hr b e.symm).2; rw [this] at hb; cases hb)]; exact h.fut.blk b o hb⟩,
    Nat.le_trans h.size hg.size, fun b hb hm => by
      rw [hg.block b (Nat.lt_of_lt_of_le hb h.size) (fun e => by rcases (hr b e.symm).1 with h1 | h1; exact hm h1; omega)]; exact h.old b hb hm, h.new⟩
theorem Step.forget {M : Nat → Prop} {g g' : G} {w w' : World} (h : Step M g w g' w') : Step M g w g w' := ⟨G.Le.refl g, h.fut.le h.le, h.size, h.old, fun _ hb _ => hb⟩

/-- What the call owns stays owned behind a store into another block. -/
theorem ownsRow_setCell_ne {w : World} {base : Nat} {e : TypeId} {size : Nat} {v : Value} {n : Nat} {xs : List Value} (h : w.ownsRow base e size v n xs) {a : Addr} (ha : v.ownBlock ≠ some a.block) (u : Value) : (w.setCell a u).ownsRow base e size v n xs :=
  ownsRow_setCell_other h ha u
/-- .. behind a step that leaves its block alone. -/
theorem ownsRow_same {w w' : World} {base : Nat} {e : TypeId} {size : Nat} {v : Value} {n : Nat} {xs : List Value} (h : w.ownsRow base e size v n xs) (hb : ∀ k, v.ownBlock = some k → w'.heap[k]? = w.heap[k]?) : w'.ownsRow base e size v n xs := by
  refine ⟨h.1, ?_⟩
  rcases h.2 with hn | ⟨k, cap, cur, rfl, h1, h2, r⟩
  · exact .inl hn
  · exact .inr ⟨k, cap, cur, rfl, h1, (hb k rfl).trans h2, r⟩

end Go.Proofs.Ytjodmimnbpgfcaa

/- Flat -/
namespace Go.Proofs.Ytjodmimnbpgfcaa

mutual
def nodes : Core → Nat
  | .mk _ _ _ l => 1 + nodesL l
def nodesL : List Core → Nat
  | [] => 0
  | x :: r => nodes x + nodesL r
end
mutual
def flatC : Core → List Core
  | .mk k s n l => .mk k s n l :: flatL l
def flatL : List Core → List Core
  | [] => []
  | x :: r => flatC x ++ flatL r
end
/-- The numbers of the parts of a list, the first being m. -/
def kidIdx : Nat → List Core → List Nat
  | _, [] => []
  | m, x :: r => m :: kidIdx (m + nodes x) r

theorem nodes_pos (c : Core) : 0 < nodes c := by cases c; simp only [nodes]; omega

mutual
theorem flatC_len : ∀ c, (flatC c).length = nodes c
  | .mk _ _ _ l => by simp only [flatC, nodes, List.length_cons, flatL_len l]; omega
theorem flatL_len : ∀ l, (flatL l).length = nodesL l
  | [] => rfl
  | x :: r => by simp only [flatL, nodesL, List.length_append, flatC_len x, flatL_len r]
end

theorem nodesL_append : ∀ (a b : List Core), nodesL (a ++ b) = nodesL a + nodesL b
  | [], b => by simp [nodesL]
  | x :: r, b => by simp only [List.cons_append, nodesL, nodesL_append r b]; omega
theorem flatL_append : ∀ (a b : List Core), flatL (a ++ b) = flatL a ++ flatL b
  | [], b => by simp [flatL]
  | x :: r, b => by simp only [List.cons_append, flatL, flatL_append r b, List.append_assoc]
theorem kidIdx_append : ∀ (m : Nat) (a b : List Core), kidIdx m (a ++ b) = kidIdx m a ++ kidIdx (m + nodesL a) b
  | m, [], b => by simp [kidIdx, nodesL]
  | m, x :: r, b => by simp only [List.cons_append, kidIdx, nodesL, kidIdx_append _ r b, Nat.add_assoc]
theorem kidIdx_len : ∀ (m : Nat) (l : List Core), (kidIdx m l).length = l.length
  | _, [] => rfl
  | m, x :: r => by simp [kidIdx, kidIdx_len]

theorem take_succ_core {l : List Core} {q : Nat} (h : q < l.length) : l.take (q + 1) = l.take q ++ [l[q]] := by
  rw [List.take_succ_eq_append_getElem h]
theorem nodesL_succ {l : List Core} {q : Nat} (h : q < l.length) : nodesL (l.take (q + 1)) = nodesL (l.take q) + nodes l[q] := by
  rw [take_succ_core h, nodesL_append]; simp [nodesL]
theorem flatL_succ {l : List Core} {q : Nat} (h : q < l.length) : flatL (l.take (q + 1)) = flatL (l.take q) ++ flatC l[q] := by
  rw [take_succ_core h, flatL_append]; simp [flatL]
theorem kidIdx_succ {l : List Core} {q m : Nat} (h : q < l.length) : kidIdx m (l.take (q + 1)) = kidIdx m (l.take q) ++ [m + nodesL (l.take q)] := by
  rw [take_succ_core h, kidIdx_append]; simp [kidIdx]
theorem nodesL_take_le (l : List Core) (q : Nat) : nodesL (l.take q) ≤ nodesL l := by
  conv => rhs; rw [← List.take_append_drop q l, nodesL_append]
  omega

/-- A part's own parts stand behind it. -/
theorem flatL_kid : ∀ (l : List Core) (m : Nat) (j : Nat) (h : j < l.length), ∃ d, (kidIdx m l)[j]? = some (m + d) ∧ d < nodesL l ∧ ∃ rest, (flatL l).drop d = flatC l[j] ++ rest
  | [], _, j, h => by simp at h
  | x :: r, m, 0, _ => ⟨0, by simp [kidIdx], by simp only [nodesL]; have := nodes_pos x; omega, flatL r, by simp [flatL]⟩
  | x :: r, m, j + 1, h => by
    obtain ⟨d, h1, h2, rest, h3⟩ := flatL_kid r (m + nodes x) j (by simpa using h)
    refine ⟨nodes x + d, by simp [kidIdx, h1, Nat.add_assoc], by simp only [nodesL]; omega, rest, ?_⟩
    simp only [flatL, List.getElem_cons_succ]
    rw [List.drop_append, List.drop_of_length_le (by rw [flatC_len]; omega), flatC_len, Nat.add_sub_cancel_left]
    simpa using h3

mutual
theorem flatC_seg : ∀ (c : Core) (i : Nat) (x : Core), (flatC c)[i]? = some x → ∃ rest, (flatC c).drop i = flatC x ++ rest
  | .mk k s n l, 0, x, h => by
    simp only [flatC, List.getElem?_cons_zero, Option.some.injEq] at h
    subst h
    exact ⟨[], by simp [flatC]⟩
  | .mk k s n l, i + 1, x, h => by
    simp only [flatC, List.getElem?_cons_succ] at h
    obtain ⟨rest, hr⟩ := flatL_seg l i x h
    exact ⟨rest, by simpa [flatC] using hr⟩
theorem flatL_seg : ∀ (l : List Core) (i : Nat) (x : Core), (flatL l)[i]? = some x → ∃ rest, (flatL l).drop i = flatC x ++ rest
  | [], i, x, h => by simp [flatL] at h
  | y :: r, i, x, h => by
    simp only [flatL] at h ⊢
    by_cases hi : i < nodes y
    · rw [List.getElem?_append_left (by rw [flatC_len]; exact hi)] at h
      obtain ⟨rest, hr⟩ := flatC_seg y i x h
      refine ⟨rest ++ flatL r, ?_⟩
      rw [List.drop_append_of_le_length (by rw [flatC_len]; omega), hr, List.append_assoc]
    · rw [List.getElem?_append_right (by rw [flatC_len]; omega), flatC_len] at h
      obtain ⟨rest, hr⟩ := flatL_seg r _ x h
      refine ⟨rest, ?_⟩
      rw [List.drop_append, List.drop_of_length_le (by rw [flatC_len]; omega), flatC_len, List.nil_append]
      exact hr
end

theorem flatC_l (c : Core) : flatC c = c :: flatL c.l := by cases c; rfl

/-- The part to which a part's j-th number leads. -/
theorem flat_kid {c : Core} {i j : Nat} {x y : Core} (hx : (flatC c)[i]? = some x) (hy : x.l[j]? = some y) : ∃ k, (kidIdx (i + 1) x.l)[j]? = some k ∧ (flatC c)[k]? = some y ∧ i < k := by
  obtain ⟨rest, hr⟩ := flatC_seg c i x hx
  obtain ⟨hj, rfl⟩ := List.getElem?_eq_some_iff.1 hy
  obtain ⟨d, h1, h2, rest2, h3⟩ := flatL_kid x.l (i + 1) j hj
  refine ⟨i + 1 + d, h1, ?_, by omega⟩
  have e : (flatC c)[i + (1 + d)]? = ((flatC c).drop i)[1 + d]? := by rw [List.getElem?_drop]
  rw [show i + 1 + d = i + (1 + d) by omega, e, hr, flatC_l x, List.cons_append, Nat.add_comm 1 d, List.getElem?_cons_succ]
  have hd : d < (flatL x.l).length := by rw [flatL_len]; exact h2
  rw [List.getElem?_append_left hd]
  have : (flatL x.l)[d]? = ((flatL x.l).drop d)[0]? := by rw [List.getElem?_drop]; rfl
  rw [this, h3, flatC_l x.l[j]]
  rfl
end Go.Proofs.Ytjodmimnbpgfcaa
