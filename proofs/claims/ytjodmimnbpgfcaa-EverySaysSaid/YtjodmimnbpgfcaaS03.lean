/- What a call leaves that may turn some of the old blocks: 'Step M'. A library text: no claim is stated here. A core's parts in a row: what lang.Table numbers. Plain Lean, no program. A library text: no claim is stated here. What lang's add leaves: the parts of a core in a row. The laws beside the walk. A library text: no claim is stated here. -/
import Derived.Test.YtjodmimnbpgfcaaS02
import Derived.Test.YtjodmimnbpgfcaaS01
import Derived.Deep.AppendLies

/- Step -/
namespace Go.Proofs.Ytjodmimnbpgfcaa
open Go.RowKit

/-- Old blocks but those of M are as they were; what is persistent from now on was so, or is new. -/
structure Step (M : Nat → Prop) (g : G) (w : World) (g' : G) (w' : World) : Prop where
  le : g.Le g'
  fut : Fut g' w'
  size : w.heap.size ≤ w'.heap.size
  old : ∀ b, b < w.heap.size → ¬ M b → w'.heap[b]? = w.heap[b]?
  new : ∀ b, g.blk b = none → b < w.heap.size → g'.blk b = none

theorem Grow.step {g g' : G} {w w' : World} (h : Grow g w g' w') (M : Nat → Prop) : Step M g w g' w' := ⟨h.le, h.fut, h.size, fun b hb _ => h.old b hb, h.new⟩
theorem Step.refl (M : Nat → Prop) {g : G} {w : World} (h : Fut g w) : Step M g w g w := (Grow.refl h).step M
theorem Step.grow {g g' : G} {w w' : World} (h : Step (fun _ => False) g w g' w') : Grow g w g' w' := ⟨h.le, h.fut, h.size, fun b hb => h.old b hb id, h.new⟩
/-- The second part may turn what the first has made. -/
theorem Step.trans {M M' : Nat → Prop} {g1 g2 g3 : G} {w1 w2 w3 : World} (h : Step M g1 w1 g2 w2) (k : Step M' g2 w2 g3 w3) (hM : ∀ b, M' b → M b ∨ w1.heap.size ≤ b) : Step M g1 w1 g3 w3 :=
  ⟨h.le.trans k.le, k.fut, Nat.le_trans h.size k.size,
    fun b hb hn => (k.old b (Nat.lt_of_lt_of_le hb h.size) (fun hm => by rcases hM b hm with h1 | h1; exact hn h1; omega)).trans (h.old b hb hn),
    fun b hb hlt => k.new b (h.new b hb hlt) (Nat.lt_of_lt_of_le hlt h.size)⟩
theorem Step.mono {M M' : Nat → Prop} {g g' : G} {w w' : World} (h : Step M g w g' w') (hM : ∀ b, M b → M' b) : Step M' g w g' w' :=
  ⟨h.le, h.fut, h.size, fun b hb hn => h.old b hb (fun hm => hn (hM b hm)), h.new⟩
theorem Step.alloc {M : Nat → Prop} {g g' : G} {w w' : World} (h : Step M g w g' w') (o : Obj) : Step M g w g' (w'.alloc o) :=
  ⟨h.le, h.fut.alloc o, Nat.le_trans h.size (by simp), fun b hb hn => by rw [Below.heap_alloc _ _ _ (Nat.lt_of_lt_of_le hb h.size)]; exact h.old b hb hn, h.new⟩
theorem Step.drew {M : Nat → Prop} {g g' : G} {w w' : World} (h : Step M g w g' w') : Step M g w g' w'.drew := ⟨h.le, h.fut.drew, h.size, h.old, h.new⟩
theorem Step.drewN {M : Nat → Prop} {g g' : G} {w w' : World} (h : Step M g w g' w') (n : Nat) : Step M g w g' (w'.drewN n) := ⟨h.le, ⟨h.fut.os, h.fut.out, h.fut.blk⟩, h.size, h.old, h.new⟩
theorem Step.setCell {M : Nat → Prop} {g g' : G} {w w' : World} (h : Step M g w g' w') {a : Addr} (ha : g'.blk a.block = none) (hn : M a.block ∨ w.heap.size ≤ a.block) (v : Value) : Step M g w g' (w'.setCell a v) :=
  ⟨h.le, h.fut.setCell ha v, by simpa using h.size, fun b hb hm => by
    rw [Below.heap_setCell _ _ _ _ (fun e => by subst e; rcases hn with h1 | h1; exact hm h1; omega)]; exact h.old b hb hm, h.new⟩
theorem Step.keep {M : Nat → Prop} {g g' : G} {w w' : World} (h : Step M g w g' w') {b : Nat} {o : Obj} (hb : w'.heap[b]? = some o) (hn : w.heap.size ≤ b) (hg : g'.blk b = none) : Step M g w (g'.add b o) w' :=
  ⟨h.le.trans (G.le_add hg), h.fut.add hb, h.size, h.old, fun x hx hlt => by
    have : x ≠ b := by omega
    simp [G.add, this]; exact h.new x hx hlt⟩
theorem Step.grown {M : Nat → Prop} {g g' : G} {w w' w'' : World} {row : Option Nat} (h : Step M g w g' w') (hg : w'.grownBy w'' row) (hr : ∀ k, row = some k → (M k ∨ w.heap.size ≤ k) ∧ g'.blk k = none) : Step M g w g' w'' :=
  ⟨h.le, ⟨hg.os.trans h.fut.os, hg.output.trans h.fut.out, fun b o hb => by
      rw [hg.block b (h.fut.lt hb) (fun e => by have := (hr b e.symm).2; rw [this] at hb; cases hb)]; exact h.fut.blk b o hb⟩,
    Nat.le_trans h.size hg.size, fun b hb hm => by
      rw [hg.block b (Nat.lt_of_lt_of_le hb h.size) (fun e => by rcases (hr b e.symm).1 with h1 | h1; exact hm h1; omega)]; exact h.old b hb hm, h.new⟩
theorem Step.forget {M : Nat → Prop} {g g' : G} {w w' : World} (h : Step M g w g' w') : Step M g w g w' := ⟨G.Le.refl g, h.fut.le h.le, h.size, h.old, fun _ hb _ => hb⟩

/-- What the call owns stays owned behind a store into another block. -/
theorem ownsRow_setCell_ne {w : World} {base : Nat} {e : TypeId} {size : Nat} {v : Value} {n : Nat} {xs : List Value} (h : w.ownsRow base e size v n xs) {a : Addr} (ha : v.ownBlock ≠ some a.block) (u : Value) : (w.setCell a u).ownsRow base e size v n xs :=
  ownsRow_setCell_other h ha u
/-- .. behind a step that leaves its block alone. -/
theorem ownsRow_same {w w' : World} {base : Nat} {e : TypeId} {size : Nat} {v : Value} {n : Nat} {xs : List Value} (h : w.ownsRow base e size v n xs) (hb : ∀ k, v.ownBlock = some k → w'.heap[k]? = w.heap[k]?) : w'.ownsRow base e size v n xs := by
  refine ⟨h.1, ?_⟩
  rcases h.2 with hn | ⟨k, cap, cur, rfl, h1, h2, r⟩
  · exact .inl hn
  · exact .inr ⟨k, cap, cur, rfl, h1, (hb k rfl).trans h2, r⟩

end Go.Proofs.Ytjodmimnbpgfcaa

/- Flat -/
namespace Go.Proofs.Ytjodmimnbpgfcaa

mutual
def nodes : Core → Nat
  | .mk _ _ _ l => 1 + nodesL l
def nodesL : List Core → Nat
  | [] => 0
  | x :: r => nodes x + nodesL r
end
mutual
def flatC : Core → List Core
  | .mk k s n l => .mk k s n l :: flatL l
def flatL : List Core → List Core
  | [] => []
  | x :: r => flatC x ++ flatL r
end
/-- The numbers of the parts of a list, the first being m. -/
def kidIdx : Nat → List Core → List Nat
  | _, [] => []
  | m, x :: r => m :: kidIdx (m + nodes x) r

theorem nodes_pos (c : Core) : 0 < nodes c := by cases c; simp only [nodes]; omega

mutual
theorem flatC_len : ∀ c, (flatC c).length = nodes c
  | .mk _ _ _ l => by simp only [flatC, nodes, List.length_cons, flatL_len l]; omega
theorem flatL_len : ∀ l, (flatL l).length = nodesL l
  | [] => rfl
  | x :: r => by simp only [flatL, nodesL, List.length_append, flatC_len x, flatL_len r]
end

theorem nodesL_append : ∀ (a b : List Core), nodesL (a ++ b) = nodesL a + nodesL b
  | [], b => by simp [nodesL]
  | x :: r, b => by simp only [List.cons_append, nodesL, nodesL_append r b]; omega
theorem flatL_append : ∀ (a b : List Core), flatL (a ++ b) = flatL a ++ flatL b
  | [], b => by simp [flatL]
  | x :: r, b => by simp only [List.cons_append, flatL, flatL_append r b, List.append_assoc]
theorem kidIdx_append : ∀ (m : Nat) (a b : List Core), kidIdx m (a ++ b) = kidIdx m a ++ kidIdx (m + nodesL a) b
  | m, [], b => by simp [kidIdx, nodesL]
  | m, x :: r, b => by simp only [List.cons_append, kidIdx, nodesL, kidIdx_append _ r b, Nat.add_assoc]
theorem kidIdx_len : ∀ (m : Nat) (l : List Core), (kidIdx m l).length = l.length
  | _, [] => rfl
  | m, x :: r => by simp [kidIdx, kidIdx_len]

theorem take_succ_core {l : List Core} {q : Nat} (h : q < l.length) : l.take (q + 1) = l.take q ++ [l[q]] := by
  rw [List.take_succ_eq_append_getElem h]
theorem nodesL_succ {l : List Core} {q : Nat} (h : q < l.length) : nodesL (l.take (q + 1)) = nodesL (l.take q) + nodes l[q] := by
  rw [take_succ_core h, nodesL_append]; simp [nodesL]
theorem flatL_succ {l : List Core} {q : Nat} (h : q < l.length) : flatL (l.take (q + 1)) = flatL (l.take q) ++ flatC l[q] := by
  rw [take_succ_core h, flatL_append]; simp [flatL]
theorem kidIdx_succ {l : List Core} {q m : Nat} (h : q < l.length) : kidIdx m (l.take (q + 1)) = kidIdx m (l.take q) ++ [m + nodesL (l.take q)] := by
  rw [take_succ_core h, kidIdx_append]; simp [kidIdx]
theorem nodesL_take_le (l : List Core) (q : Nat) : nodesL (l.take q) ≤ nodesL l := by
  conv => rhs; rw [← List.take_append_drop q l, nodesL_append]
  omega

/-- A part's own parts stand behind it. -/
theorem flatL_kid : ∀ (l : List Core) (m : Nat) (j : Nat) (h : j < l.length), ∃ d, (kidIdx m l)[j]? = some (m + d) ∧ d < nodesL l ∧ ∃ rest, (flatL l).drop d = flatC l[j] ++ rest
  | [], _, j, h => by simp at h
  | x :: r, m, 0, _ => ⟨0, by simp [kidIdx], by simp only [nodesL]; have := nodes_pos x; omega, flatL r, by simp [flatL]⟩
  | x :: r, m, j + 1, h => by
    obtain ⟨d, h1, h2, rest, h3⟩ := flatL_kid r (m + nodes x) j (by simpa using h)
    refine ⟨nodes x + d, by simp [kidIdx, h1, Nat.add_assoc], by simp only [nodesL]; omega, rest, ?_⟩
    simp only [flatL, List.getElem_cons_succ]
    rw [List.drop_append, List.drop_of_length_le (by rw [flatC_len]; omega), flatC_len, Nat.add_sub_cancel_left]
    simpa using h3

mutual
theorem flatC_seg : ∀ (c : Core) (i : Nat) (x : Core), (flatC c)[i]? = some x → ∃ rest, (flatC c).drop i = flatC x ++ rest
  | .mk k s n l, 0, x, h => by
    simp only [flatC, List.getElem?_cons_zero, Option.some.injEq] at h
    subst h
    exact ⟨[], by simp [flatC]⟩
  | .mk k s n l, i + 1, x, h => by
    simp only [flatC, List.getElem?_cons_succ] at h
    obtain ⟨rest, hr⟩ := flatL_seg l i x h
    exact ⟨rest, by simpa [flatC] using hr⟩
theorem flatL_seg : ∀ (l : List Core) (i : Nat) (x : Core), (flatL l)[i]? = some x → ∃ rest, (flatL l).drop i = flatC x ++ rest
  | [], i, x, h => by simp [flatL] at h
  | y :: r, i, x, h => by
    simp only [flatL] at h ⊢
    by_cases hi : i < nodes y
    · rw [List.getElem?_append_left (by rw [flatC_len]; exact hi)] at h
      obtain ⟨rest, hr⟩ := flatC_seg y i x h
      refine ⟨rest ++ flatL r, ?_⟩
      rw [List.drop_append_of_le_length (by rw [flatC_len]; omega), hr, List.append_assoc]
    · rw [List.getElem?_append_right (by rw [flatC_len]; omega), flatC_len] at h
      obtain ⟨rest, hr⟩ := flatL_seg r _ x h
      refine ⟨rest, ?_⟩
      rw [List.drop_append, List.drop_of_length_le (by rw [flatC_len]; omega), flatC_len, List.nil_append]
      exact hr
end

theorem flatC_l (c : Core) : flatC c = c :: flatL c.l := by cases c; rfl

/-- The part to which a part's j-th number leads. -/
theorem flat_kid {c : Core} {i j : Nat} {x y : Core} (hx : (flatC c)[i]? = some x) (hy : x.l[j]? = some y) : ∃ k, (kidIdx (i + 1) x.l)[j]? = some k ∧ (flatC c)[k]? = some y ∧ i < k := by
  obtain ⟨rest, hr⟩ := flatC_seg c i x hx
  obtain ⟨hj, rfl⟩ := List.getElem?_eq_some_iff.1 hy
  obtain ⟨d, h1, h2, rest2, h3⟩ := flatL_kid x.l (i + 1) j hj
  refine ⟨i + 1 + d, h1, ?_, by omega⟩
  have e : (flatC c)[i + (1 + d)]? = ((flatC c).drop i)[1 + d]? := by rw [List.getElem?_drop]
  rw [show i + 1 + d = i + (1 + d) by omega, e, hr, flatC_l x, List.cons_append, Nat.add_comm 1 d, List.getElem?_cons_succ]
  have hd : d < (flatL x.l).length := by rw [flatL_len]; exact h2
  rw [List.getElem?_append_left hd]
  have : (flatL x.l)[d]? = ((flatL x.l).drop d)[0]? := by rw [List.getElem?_drop]; rfl
  rw [this, h3, flatC_l x.l[j]]
  rfl
end Go.Proofs.Ytjodmimnbpgfcaa

/- AddLaws -/
namespace Go.Proofs.Ytjodmimnbpgfcaa
open Go.RowKit Go.IntWalk

theorem Try.info133 : (Try.prog.info? 133).map (fun i => (i.zero, i.size, i.bytes)) = some (some (.agg #[.int .i64 0, .int .u64 0, .int .u64 0, .int .u64 0, .int .u64 0, .int .i64 0, .slice none 0 0, .slice none 0 0]), 8, 96) := by kernel_rfl
theorem Try.info3 : (Try.prog.info? 3).map (fun i => (i.zero, i.size, i.bytes)) = some (some (.int .i64 0), 1, 8) := by kernel_rfl

/-- A part's cells. -/
def partRow (r : CRow) (kv : Value) : List Value := [.int .i64 r.k, .int .u64 r.s.a, .int .u64 r.s.b, .int .u64 r.s.c, .int .u64 r.s.d, .int .i64 r.n, .slice r.a r.len r.cap, kv]

/-- Part i of the row ys is the core c, the part's number being m. -/
def PartAt (g : G) (ys : List Value) (i m : Nat) (c : Core) : Prop :=
  ∃ r a n cap, r.k = c.kind ∧ r.s = c.set ∧ (ys.drop (8 * i)).take 8 = partRow r (.slice a n cap) ∧ SliceV g a n cap ((kidIdx (m + 1) c.l).map natV)

def AddPost (g : G) (w : World) (tb : Nat) (sv pv : Value) (n : Nat) (xs : List Value) (c : Core) (e : Ending) (w' : World) : Prop :=
  e = .returned (.int .i64 n) ∧ ∃ g' pv' ys, Step (fun b => b = tb ∨ pv.ownBlock = some b) g w g' w' ∧ w'.heap[tb]? = some (.cells #[pv', sv, .slice none 0 0] 108) ∧
    w'.ownsRow 0 133 8 pv' (n + nodes c) (xs ++ ys) ∧ (∀ k, pv'.ownBlock = some k → g'.blk k = none ∧ k ≠ tb ∧ (pv.ownBlock = some k ∨ w.heap.size ≤ k)) ∧ ys.length = 8 * nodes c ∧
    ∀ i x, (flatC c)[i]? = some x → PartAt g' ys i (n + i) x

/-- Behind the first append of add. -/
theorem add_meet {g g1 : G} {w W w1 : World} {tb : Nat} {sv : Value} {po : Option Addr} {n pc : Nat} {xs news : List Value} {o : Obj} {pb pcap : Nat}
    (hG : Grow g w g1 W) (hlt : tb < w.heap.size) (hgt : g.blk tb = none) (hPB : ∀ k, Value.ownBlock (.slice po n pc) = some k → g.blk k = none ∧ k ≠ tb) (hO : w.ownsRow 0 133 8 (.slice po n pc) n xs)
    (hTW : W.heap[tb]? = some (.cells #[.slice po n pc, sv, .slice none 0 0] 108))
    (hG1 : (W.alloc o).drew.grownBy w1 (Value.ownBlock (.slice po n pc))) (hO1 : w1.ownsRow 0 133 8 (.slice (some ⟨pb, 0, none⟩) (n + 1) pcap) (n + 1) (xs ++ news))
    (hAT : Value.ownBlock (.slice po n pc) = some pb ∨ pb = (W.alloc o).drew.heap.size) :
    Step (fun b => b = tb ∨ Value.ownBlock (.slice po n pc) = some b) g w g1 (w1.setCell ⟨tb, 0, none⟩ (.slice (some ⟨pb, 0, none⟩) (n + 1) pcap)) ∧
    (w1.setCell ⟨tb, 0, none⟩ (.slice (some ⟨pb, 0, none⟩) (n + 1) pcap)).heap[tb]? = some (.cells #[.slice (some ⟨pb, 0, none⟩) (n + 1) pcap, sv, .slice none 0 0] 108) ∧
    (w1.setCell ⟨tb, 0, none⟩ (.slice (some ⟨pb, 0, none⟩) (n + 1) pcap)).ownsRow 0 133 8 (.slice (some ⟨pb, 0, none⟩) (n + 1) pcap) (n + 1) (xs ++ news) ∧
    (g1.blk pb = none ∧ pb ≠ tb ∧ (Value.ownBlock (.slice po n pc) = some pb ∨ w.heap.size ≤ pb)) := by
  have hltW : tb < W.heap.size := Nat.lt_of_lt_of_le hlt hG.size
  have hk : ∀ k, Value.ownBlock (.slice po n pc) = some k → g1.blk k = none := fun k hk => hG.new k (hPB k hk).1 (hO.lt k hk).2
  have hpb : g1.blk pb = none ∧ pb ≠ tb ∧ (Value.ownBlock (.slice po n pc) = some pb ∨ w.heap.size ≤ pb) := by
    have := hG.size
    rcases hAT with h | h
    · exact ⟨hk pb h, (hPB pb h).2, .inl h⟩
    · simp at h
      exact ⟨hG.fut.none_of_size (by omega), by omega, .inr (by omega)⟩
  have htn : g1.blk tb = none := hG.new tb hgt hlt
  have hne : some tb ≠ Value.ownBlock (.slice po n pc) := fun e => (hPB tb e.symm).2 rfl
  have hS : Step (fun b => b = tb ∨ Value.ownBlock (.slice po n pc) = some b) g w g1 w1 :=
    ((hG.step _).alloc o).drew.grown hG1 (fun k h => ⟨.inl (.inr h), hk k h⟩)
  have h1 : w1.heap[tb]? = some (.cells #[.slice po n pc, sv, .slice none 0 0] 108) :=
    (hG1.block tb (by simp; omega) hne).trans ((Below.heap_alloc _ _ _ hltW).trans hTW)
  exact ⟨hS.setCell htn (.inl (.inl rfl)) _, heap_setCell_same h1 _, ownsRow_setCell_ne hO1 (by simp [Value.ownBlock]; exact hpb.2.1) _, hpb⟩

/-- What holds ahead of each round of add. -/
structure AddInv (g : G) (w : World) (M : Nat → Prop) (tb : Nat) (sv : Value) (n : Nat) (xs : List Value) (r : CRow) (l : List Core) (q : Nat) (g2 : G) (pb pcap : Nat) (kv : Value) (ys : List Value) (wr : World) : Prop where
  step : Step M g w g2 wr
  tab : wr.heap[tb]? = some (.cells #[.slice (some ⟨pb, 0, none⟩) (n + 1 + nodesL (l.take q)) pcap, sv, .slice none 0 0] 108)
  own : wr.ownsRow 0 133 8 (.slice (some ⟨pb, 0, none⟩) (n + 1 + nodesL (l.take q)) pcap) (n + 1 + nodesL (l.take q)) (xs ++ partRow r kv ++ ys)
  pbn : g2.blk pb = none
  pbt : pb ≠ tb
  pbm : M pb ∨ w.heap.size ≤ pb
  kids : wr.ownsRow 0 3 1 kv q ((kidIdx (n + 1) (l.take q)).map natV)
  kidn : ∀ k, kv.ownBlock = some k → g2.blk k = none ∧ k ≠ tb ∧ k ≠ pb ∧ w.heap.size ≤ k
  len : ys.length = 8 * nodesL (l.take q)
  parts : ∀ i x, (flatL (l.take q))[i]? = some x → PartAt g2 ys i (n + 1 + i) x


theorem length_le_nodesL : ∀ l : List Core, l.length ≤ nodesL l
  | [] => Nat.le_refl _
  | x :: r => by have := length_le_nodesL r; have := nodes_pos x; simp only [List.length_cons, nodesL]; omega

theorem PartAt.le {g g' : G} {ys : List Value} {i m : Nat} {c : Core} (h : PartAt g ys i m c) (k : g.Le g') : PartAt g' ys i m c := by
  obtain ⟨r, a, n, cap, h1, h2, h3, h4⟩ := h
  exact ⟨r, a, n, cap, h1, h2, h3, h4.le k⟩
theorem PartAt.left {g : G} {ys zs : List Value} {i m : Nat} {c : Core} (h : PartAt g ys i m c) (hi : 8 * i + 8 ≤ ys.length) : PartAt g (ys ++ zs) i m c := by
  obtain ⟨r, a, n, cap, h1, h2, h3, h4⟩ := h
  refine ⟨r, a, n, cap, h1, h2, ?_, h4⟩
  rw [List.drop_append_of_le_length (by omega), List.take_append_of_le_length (by rw [List.length_drop]; omega)]
  exact h3
theorem PartAt.right {g : G} {ys zs : List Value} {i j m : Nat} {c : Core} (h : PartAt g ys i m c) (hz : zs.length = 8 * j) : PartAt g (zs ++ ys) (j + i) m c := by
  obtain ⟨r, a, n, cap, h1, h2, h3, h4⟩ := h
  refine ⟨r, a, n, cap, h1, h2, ?_, h4⟩
  rw [List.drop_append, List.drop_of_length_le (by omega), List.nil_append, hz, show 8 * (j + i) - 8 * j = 8 * i by omega]
  exact h3

theorem set_row {xs ys : List Value} {n : Nat} (r : CRow) (kv kv' : Value) (h : xs.length = n * 8) : (xs ++ partRow r kv ++ ys).set (n * 8 + 7) kv' = xs ++ partRow r kv' ++ ys := by
  rw [List.append_assoc, List.set_append_right _ _ (by omega), h, show n * 8 + 7 - n * 8 = 7 by omega, List.append_assoc]
  rfl
theorem get_row {xs ys : List Value} {n : Nat} (r : CRow) (kv : Value) (h : xs.length = n * 8) : (xs ++ partRow r kv ++ ys)[n * 8 + 7]? = some kv := by
  rw [List.append_assoc, List.getElem?_append_right (by omega), h, show n * 8 + 7 - n * 8 = 7 by omega]
  rfl

section
variable {g g2 g3 : G} {w wr w2 w4 : World} {M : Nat → Prop} {tb : Nat} {sv : Value} {n : Nat} {xs : List Value} {r : CRow} {l : List Core} {q pb pcap : Nat} {ka : Option Addr} {kcap : Nat} {ys : List Value}

/-- What the round's call of add has left, in one word. -/
structure AddCall (g2 : G) (wr : World) (tb : Nat) (sv : Value) (n : Nat) (xs : List Value) (r : CRow) (l : List Core) (q pb pcap : Nat) (kv : Value) (ys : List Value) (g3 : G) (w2 : World) (pb3 pcap3 N3 : Nat) (ys3 : List Value) : Prop where
  step : Step (fun b => b = tb ∨ b = pb) g2 wr g3 w2
  tab : w2.heap[tb]? = some (.cells #[.slice (some ⟨pb3, 0, none⟩) N3 pcap3, sv, .slice none 0 0] 108)
  own : w2.ownsRow 0 133 8 (.slice (some ⟨pb3, 0, none⟩) N3 pcap3) N3 (xs ++ partRow r kv ++ ys ++ ys3)
  pbn : g3.blk pb3 = none
  pbt : pb3 ≠ tb
  pbm : pb3 = pb ∨ wr.heap.size ≤ pb3
  len : ∀ hq : q < l.length, ys3.length = 8 * nodes l[q]
  N : ∀ hq : q < l.length, N3 = n + 1 + nodesL (l.take q) + nodes l[q]
  parts : ∀ hq : q < l.length, ∀ i x, (flatC l[q])[i]? = some x → PartAt g3 ys3 i (n + 1 + nodesL (l.take q) + i) x

theorem AddInv.call {kv pv3 : Value} (h : AddInv g w M tb sv n xs r l q g2 pb pcap kv ys wr) (hq : q < l.length) {o : Obj} {ys3 : List Value}
    (hs3 : Step (fun b => b = tb ∨ Value.ownBlock (.slice (some ⟨pb, 0, none⟩) (n + 1 + nodesL (l.take q)) pcap) = some b) g2 (wr.alloc o) g3 w2)
    (ht3 : w2.heap[tb]? = some (.cells #[pv3, sv, .slice none 0 0] 108))
    (ho3 : w2.ownsRow 0 133 8 pv3 (n + 1 + nodesL (l.take q) + nodes l[q]) (xs ++ partRow r kv ++ ys ++ ys3))
    (hp3 : ∀ k, pv3.ownBlock = some k → g3.blk k = none ∧ k ≠ tb ∧ (Value.ownBlock (.slice (some ⟨pb, 0, none⟩) (n + 1 + nodesL (l.take q)) pcap) = some k ∨ (wr.alloc o).heap.size ≤ k))
    (hl3 : ys3.length = 8 * nodes l[q]) (hr3 : ∀ i x, (flatC l[q])[i]? = some x → PartAt g3 ys3 i (n + 1 + nodesL (l.take q) + i) x) :
    ∃ pb3 pcap3 N3, N3 = n + 1 + nodesL (l.take q) + nodes l[q] ∧ pv3 = .slice (some ⟨pb3, 0, none⟩) N3 pcap3 ∧ AddCall g2 wr tb sv n xs r l q pb pcap kv ys g3 w2 pb3 pcap3 N3 ys3 := by
  obtain ⟨pb3, pcap3, rfl, -, hlt3⟩ := ho3.form (by omega)
  obtain ⟨h1, h2, h3⟩ := hp3 pb3 rfl
  refine ⟨pb3, pcap3, _, rfl, rfl, ⟨?_, ht3, ho3, h1, h2, ?_, fun _ => hl3, fun _ => rfl, fun _ => hr3⟩⟩
  · refine ((Step.refl _ h.step.fut).alloc o).trans hs3 (fun b hb => .inl ?_)
    rcases hb with hb | hb
    · exact .inl hb
    · simp [Value.ownBlock] at hb; exact .inr hb.symm
  · rcases h3 with h3 | h3
    · simp [Value.ownBlock] at h3; exact .inl h3.symm
    · simp at h3; exact .inr (by omega)

theorem AddInv.kidBlock {kv : Value} (h : AddInv g w M tb sv n xs r l q g2 pb pcap kv ys wr) {pb3 pcap3 N3 : Nat} {ys3 : List Value} (c : AddCall g2 wr tb sv n xs r l q pb pcap kv ys g3 w2 pb3 pcap3 N3 ys3) :
    ∀ k, kv.ownBlock = some k → g3.blk k = none ∧ k ≠ tb ∧ k ≠ pb3 ∧ w.heap.size ≤ k ∧ w2.heap[k]? = wr.heap[k]? := by
  intro k hk
  obtain ⟨h1, h2, h3, h4⟩ := h.kidn k hk
  have hlt := (h.kids.lt k hk).2
  refine ⟨c.step.new k h1 hlt, h2, ?_, h4, c.step.old k hlt (fun e => by rcases e with e | e; exact h2 e; exact h3 e)⟩
  rcases c.pbm with e | e
  · rw [e]; exact h3
  · omega

theorem AddInv.kids2 {kv : Value} (h : AddInv g w M tb sv n xs r l q g2 pb pcap kv ys wr) {pb3 pcap3 N3 : Nat} {ys3 : List Value} (c : AddCall g2 wr tb sv n xs r l q pb pcap kv ys g3 w2 pb3 pcap3 N3 ys3) :
    w2.ownsRow 0 3 1 kv q ((kidIdx (n + 1) (l.take q)).map natV) :=
  ownsRow_same h.kids (fun k hk => (h.kidBlock c k hk).2.2.2.2)

theorem AddInv.round (h : AddInv g w M tb sv n xs r l q g2 pb pcap (.slice ka q kcap) ys wr) (hq : q < l.length) (hM : M tb) (hgt : g.blk tb = none) (hlt : tb < w.heap.size) (hx : xs.length = n * 8) {pb3 pcap3 N3 : Nat} {ys3 : List Value} (c : AddCall g2 wr tb sv n xs r l q pb pcap (.slice ka q kcap) ys g3 w2 pb3 pcap3 N3 ys3)
    {o2 : Obj} {kb kcap4 : Nat} {v : Value} (hv : v = natV (n + 1 + nodesL (l.take q)))
    (hG4 : (w2.alloc o2).drew.grownBy w4 (Value.ownBlock (.slice ka q kcap))) (hO4 : w4.ownsRow 0 3 1 (.slice (some ⟨kb, 0, none⟩) (q + 1) kcap4) (q + 1) ((kidIdx (n + 1) (l.take q)).map natV ++ [v]))
    (hAT : Value.ownBlock (.slice ka q kcap) = some kb ∨ kb = (w2.alloc o2).drew.heap.size) :
    AddInv g w M tb sv n xs r l (q + 1) g3 pb3 pcap3 (.slice (some ⟨kb, 0, none⟩) (q + 1) kcap4) (ys ++ ys3) (w4.setCell ⟨pb3, n * 8 + 7, none⟩ (.slice (some ⟨kb, 0, none⟩) (q + 1) kcap4)) := by
  have hkb := h.kidBlock c
  have e1 := nodesL_succ hq
  have hN := c.N hq
  have hlt2 := lt_of_block c.tab
  have hlt3 := (c.own.lt pb3 rfl).2
  have hsz := Nat.le_trans h.step.size c.step.size
  have hkbf : g3.blk kb = none ∧ kb ≠ tb ∧ kb ≠ pb3 ∧ w.heap.size ≤ kb := by
    rcases hAT with e | e
    · obtain ⟨a1, a2, a3, a4, -⟩ := hkb kb e; exact ⟨a1, a2, a3, a4⟩
    · simp at e
      exact ⟨c.step.fut.none_of_size (by omega), by omega, by omega, by omega⟩
  have hnt : some tb ≠ Value.ownBlock (.slice ka q kcap) := fun e => (hkb tb e.symm).2.1 rfl
  have hnp : some pb3 ≠ Value.ownBlock (.slice ka q kcap) := fun e => (hkb pb3 e.symm).2.2.1 rfl
  have hS : Step M g w g3 w2 := h.step.trans c.step (fun b hb => by
    rcases hb with rfl | rfl
    · exact .inl hM
    · exact h.pbm)
  have hpm : M pb3 ∨ w.heap.size ≤ pb3 := by
    rcases c.pbm with e | e
    · rw [e]; exact h.pbm
    · have := h.step.size; exact .inr (by omega)
  have hb4 : ∀ k, k < w2.heap.size → some k ≠ Value.ownBlock (.slice ka q kcap) → w4.heap[k]? = w2.heap[k]? := fun k hk hne =>
    (hG4.block k (by simp; omega) hne).trans (Below.heap_alloc _ _ _ hk)
  have ho4 : w4.ownsRow 0 133 8 (.slice (some ⟨pb3, 0, none⟩) N3 pcap3) N3 (xs ++ partRow r (.slice ka q kcap) ++ ys ++ ys3) :=
    ownsRow_same c.own (fun k hk => by simp [Value.ownBlock] at hk; subst hk; exact hb4 _ hlt3 hnp)
  refine ⟨?_, ?_, ?_, c.pbn, c.pbt, hpm, ?_, ?_, ?_, ?_⟩
  · exact ((hS.alloc o2).drew.grown hG4 (fun k hk => ⟨.inr (hkb k hk).2.2.2.1, (hkb k hk).1⟩)).setCell c.pbn hpm _
  · rw [show n + 1 + nodesL (l.take (q + 1)) = N3 by omega]
    exact (Below.heap_setCell _ _ _ _ (Ne.symm c.pbt)).trans ((hb4 tb hlt2 hnt).trans c.tab)
  · rw [show n + 1 + nodesL (l.take (q + 1)) = N3 by omega]
    have := (ho4.stored (n * 8 + 7) (.slice (some ⟨kb, 0, none⟩) (q + 1) kcap4)).1
    rw [show xs ++ partRow r (.slice ka q kcap) ++ ys ++ ys3 = xs ++ partRow r (.slice ka q kcap) ++ (ys ++ ys3) by rw [List.append_assoc], set_row _ _ _ hx] at this
    exact this
  · have := ownsRow_setCell_ne hO4 (a := ⟨pb3, n * 8 + 7, none⟩) (by simp [Value.ownBlock]; exact hkbf.2.2.1) (.slice (some ⟨kb, 0, none⟩) (q + 1) kcap4)
    rw [kidIdx_succ hq, List.map_append]
    rw [hv] at this
    exact this
  · intro k hk
    simp [Value.ownBlock] at hk
    subst hk
    exact hkbf
  · rw [List.length_append, h.len, c.len hq, e1]; omega
  · intro i x hx'
    rw [flatL_succ hq] at hx'
    have hfl : (flatL (l.take q)).length = nodesL (l.take q) := flatL_len _
    by_cases hi : i < nodesL (l.take q)
    · rw [List.getElem?_append_left (by omega)] at hx'
      exact ((h.parts i x hx').le c.step.le).left (by rw [h.len]; omega)
    · rw [List.getElem?_append_right (by omega), hfl] at hx'
      have := (c.parts hq _ x hx').right (zs := ys) (j := nodesL (l.take q)) h.len
      rw [show nodesL (l.take q) + (i - nodesL (l.take q)) = i by omega, show n + 1 + nodesL (l.take q) + (i - nodesL (l.take q)) = n + 1 + i by omega] at this
      exact this

/-- A row of the call's own becomes a persistent slice. -/
theorem Step.keepRow {M : Nat → Prop} {g g' : G} {w w' : World} (h : Step M g w g' w') {v : Value} {m base : Nat} {e : TypeId} {zs : List Value} (ho : w'.ownsRow base e 1 v m zs) (hk : ∀ k, v.ownBlock = some k → w.heap.size ≤ k ∧ g'.blk k = none) :
    ∃ g'' a cap, v = .slice a m cap ∧ Step M g w g'' w' ∧ g'.Le g'' ∧ SliceV g'' a m cap zs ∧ ∀ b, g'.blk b = none → v.ownBlock ≠ some b → g''.blk b = none := by
  have hlen : zs.length = m := by simpa using ho.1
  rcases ho.2 with ⟨rfl, rfl⟩ | ⟨k, cap, cur, rfl, h1, h2, h3, h4, h5, h6⟩
  · have : zs = [] := List.eq_nil_of_length_eq_zero hlen
    subst this
    exact ⟨g', none, 0, rfl, h, G.Le.refl _, .nil, fun b hb _ => hb⟩
  · obtain ⟨k1, k2⟩ := hk k rfl
    refine ⟨g'.add k (.cells cur e (0, 0)), some ⟨k, 0, none⟩, cap, rfl, h.keep h2 k1 k2, G.le_add k2, ?_, ?_⟩
    · subst hlen
      refine .row k 0 cap zs h3 (by unfold maxLen at h4; omega) (fun W hW i v hv => ?_)
      have hb := hW.blk k _ (G.add_same _ _ _)
      have hi : i < zs.length := (List.getElem?_eq_some_iff.1 hv).1
      rw [Nat.zero_add]
      refine heap_cell hb i v ?_
      rw [← h6, List.getElem?_take] at hv
      rw [if_pos (by omega)] at hv
      simpa using hv
    · intro b hb hne
      have : b ≠ k := fun e => hne (by rw [e]; rfl)
      simp [G.add, this, hb]

/-- The end of add. -/
theorem AddInv.post {k0 : Int} {s0 : Set4} {n0 : Int} {ao : Option Addr} {ln cp : Nat} {pv kv : Value} (h : AddInv g w (fun b => b = tb ∨ pv.ownBlock = some b) tb sv n xs ⟨k0, s0, n0, ao, ln, cp⟩ l l.length g2 pb pcap kv ys wr) :
    AddPost g w tb sv pv n xs (.mk k0 s0 n0 l) (.returned (.int .i64 n)) wr := by
  obtain ⟨g', a, cap, rfl, hs, hle, hsl, hno⟩ := h.step.keepRow h.kids (fun k hk => ⟨(h.kidn k hk).2.2.2, (h.kidn k hk).1⟩)
  have ht : l.take l.length = l := List.take_of_length_le (Nat.le_refl _)
  have hown := h.own
  have htab := h.tab
  have hlen := h.len
  have hparts := h.parts
  rw [ht] at hown htab hlen hparts hsl
  refine ⟨rfl, g', _, partRow ⟨k0, s0, n0, ao, ln, cp⟩ (.slice a l.length cap) ++ ys, hs, htab, ?_, ?_, ?_, ?_⟩
  · simp only [nodes]
    rw [← List.append_assoc, show n + (1 + nodesL l) = n + 1 + nodesL l by omega]
    exact hown
  · intro k hk
    simp [Value.ownBlock] at hk
    subst hk
    refine ⟨hno _ h.pbn (fun e => (h.kidn _ e).2.2.1 rfl), h.pbt, ?_⟩
    rcases h.pbm with (e | e) | e
    · exact absurd e h.pbt
    · exact .inl e
    · exact .inr e
  · rw [List.length_append, hlen]
    simp only [nodes, partRow, List.length_cons, List.length_nil]
    omega
  · intro i x hx
    cases i with
    | zero =>
      simp only [flatC, List.getElem?_cons_zero, Option.some.injEq] at hx
      subst hx
      exact ⟨⟨k0, s0, n0, ao, ln, cp⟩, a, l.length, cap, rfl, rfl, rfl, hsl⟩
    | succ i =>
      simp only [flatC, List.getElem?_cons_succ] at hx
      have := ((hparts i x hx).le hle).right (zs := partRow ⟨k0, s0, n0, ao, ln, cp⟩ (.slice a l.length cap)) (j := 1) rfl
      rw [show n + (i + 1) = n + 1 + i by omega, Nat.add_comm i 1]
      exact this
end
end Go.Proofs.Ytjodmimnbpgfcaa
