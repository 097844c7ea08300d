/- every's newWeb: its state. A library text: no claim is stated here. ch, eps, seq, alt, star, walked. A library text: no claim is stated here. -/
import Derived.Test.YtjodmimnbpgfcaaS21
import Derived.Test.YtjodmimnbpgfcaaS17
import Derived.Test.YtjodmimnbpgfcaaS02
import Derived.Test.YtjodmimnbpgfcaaS16

/- NewW -/
namespace Go.Proofs.Ytjodmimnbpgfcaa
open Go.RowKit Go.IntWalk

/-- All that a world holds. -/
def gAll (w : World) : G := ⟨w.os, w.output, fun b => w.heap[b]?⟩
theorem fut_all (w : World) : Fut (gAll w) w := ⟨rfl, rfl, fun _ _ h => h⟩
theorem Fut.le_all {g : G} {w : World} (h : Fut g w) : g.Le (gAll w) := ⟨h.os, h.out, h.blk⟩
theorem G.Le.os' {g g' : G} (h : g.Le g') : g'.os = g.os := h.os
/-- A call to which all was persistent. -/
theorem Grow.of_all {g g2 : G} {w w' : World} (h : Fut g w) (k : Grow (gAll w) w g2 w') : Grow g w g w' :=
  ⟨G.Le.refl g, k.fut.le (h.le_all.trans k.le), k.size, k.old, fun _ hb _ => hb⟩

/-- newWeb's state: the web, and the rows of can so far. -/
structure NW (g0 : G) (w0 : World) (g : G) (wb : Nat) (st sv : Value) (L : List Nd) (w : World) (pv : Value) (rs : List NRow) (cv : Value) (cans : List (List Bool)) (vs : List Value) : Prop where
  web : WebS g0 w0 g wb st sv cv L w pv rs
  co : w.ownsRow w0.heap.size 97 1 cv cans.length vs
  cw : cv.ownBlock ≠ some wb
  cp : ∀ k, cv.ownBlock = some k → pv.ownBlock ≠ some k
  cg : ∀ k, cv.ownBlock = some k → g.blk k = none
  rl : vs.length = cans.length
  rows : ∀ (i : Nat) (row : List Bool) (v : Value), cans[i]? = some row → vs[i]? = some v → ∃ ra rc, v = .slice ra row.length rc ∧ SliceV g ra row.length rc (row.map boolV)

section
variable {g0 g g' : G} {w0 w w' : World} {wb : Nat} {st sv cv pv : Value} {L : List Nd} {rs : List NRow} {cans : List (List Bool)} {vs : List Value}

theorem NW.kids (h : NW g0 w0 g wb st sv L w pv rs cv cans vs) (hg : Grow g w g' w') : NW g0 w0 g' wb st sv L w' pv rs cv cans vs :=
  ⟨h.web.kids hg, ownsRow_same h.co (fun k hk => hg.old k (h.co.lt k hk).2), h.cw, h.cp, fun k hk => hg.new k (h.cg k hk) (h.co.lt k hk).2, h.rl,
    fun i row v h1 h2 => by obtain ⟨ra, rc, e, h3⟩ := h.rows i row v h1 h2; exact ⟨ra, rc, e, h3.le hg.le⟩⟩

/-- A store into another block. -/
theorem NW.store (h : NW g0 w0 g wb st sv L w pv rs cv cans vs) {b : Nat} (hb : w0.heap.size ≤ b) (hg : g.blk b = none) (h1 : b ≠ wb) (h2 : pv.ownBlock ≠ some b) (h3 : cv.ownBlock ≠ some b) (i : Nat) (v : Value) : NW g0 w0 g wb st sv L (w.setCell ⟨b, i, none⟩ v) pv rs cv cans vs :=
  ⟨⟨h.web.grow.setCell (a := ⟨b, i, none⟩) hg hb v, h.web.new, (heap_setCell_other _ _ _ _ (Ne.symm h1)).trans h.web.box, ownsRow_setCell_ne h.web.own h2 v, h.web.rows, h.web.ne, h.web.out⟩, ownsRow_setCell_ne h.co h3 v, h.cw, h.cp, h.cg, h.rl, h.rows⟩

/-- More becomes persistent, not what turns. -/
theorem NW.more (h : NW g0 w0 g wb st sv L w pv rs cv cans vs) (hG : Grow g0 w0 g' w) (hle : g.Le g') (h1 : g'.blk wb = none) (h2 : ∀ k, pv.ownBlock = some k → g'.blk k = none) (h3 : ∀ k, cv.ownBlock = some k → g'.blk k = none) : NW g0 w0 g' wb st sv L w pv rs cv cans vs :=
  ⟨⟨hG, h.web.new, h.web.box, h.web.own, h.web.rows.le hle, h.web.ne, h1, h2⟩, h.co, h.cw, h.cp, h3, h.rl,
    fun i row v a b => by obtain ⟨ra, rc, e, h3⟩ := h.rows i row v a b; exact ⟨ra, rc, e, h3.le hle⟩⟩

/-- Of what lies in a heap that is persistent whole: the web. -/
theorem NW.webC {st : Value} {sa : Option Addr} {sc : Nat} {S : List UInt8} {ga : G} (hle : g.Le ga) (hblk : ∀ b o, w.heap[b]? = some o → (b = wb ∨ pv.ownBlock = some b ∨ cv.ownBlock = some b) → ga.blk b = some o) (hs : SliceV g sa S.length sc (S.map byteV)) (h : NW g0 w0 g wb st (.slice sa S.length sc) L w pv rs cv cans vs) (hL : 0 < L.length) :
    ∃ b lc ca cc, pv = .slice (some ⟨b, 0, none⟩) L.length lc ∧ cv = .slice ca cans.length cc ∧ WebC ga wb b lc L S cans sa sc ca cc vs := by
  obtain ⟨b, lc, cur, rfl, h1, h2, h3, h4, h5, h6⟩ : ∃ b lc cur, pv = .slice (some ⟨b, 0, none⟩) L.length lc ∧ w0.heap.size ≤ b ∧ w.heap[b]? = some (.cells cur 95 (0, 0)) ∧ L.length ≤ lc ∧ lc ≤ maxLen ∧ cur.size = lc * 6 ∧ cur.toList.take (L.length * 6) = nodesCells rs := by
    rcases h.web.own.2 with ⟨_, hz⟩ | ⟨k, cap, cur, hv, r⟩
    · omega
    · exact ⟨k, cap, cur, hv, r⟩
  have hwb := hblk _ _ h.web.box (.inl rfl)
  have hpb := hblk _ _ h2 (.inr (.inl rfl))
  have hget : ∀ j u, (nodesCells rs)[j]? = some u → cur[j]? = some u := fun j u hj => by
    have hi := (List.getElem?_eq_some_iff.1 hj).1
    rw [h.web.own.1] at hi
    rw [← h6, List.getElem?_take, if_pos hi] at hj
    simpa using hj
  obtain ⟨ca, cc, rfl⟩ := own_shape h.co
  have hcs : SliceV ga ca cans.length cc vs := by
    have hl := h.rl
    rcases h.co.2 with ⟨e, hz⟩ | ⟨k, c, cu, e, k2, k3, k4, k5, k6, k7⟩
    · simp only [Value.slice.injEq] at e
      obtain ⟨rfl, -, rfl⟩ := e
      rw [hz] at hl ⊢
      obtain rfl := List.eq_nil_of_length_eq_zero hl
      exact .nil
    · simp only [Value.slice.injEq, true_and] at e
      obtain ⟨rfl, rfl⟩ := e
      have hcb := hblk _ _ k3 (.inr (.inr rfl))
      rw [← hl] at k4 k7 ⊢
      refine .row k 0 cc vs k4 (by unfold maxLen at k5; omega) (fun w2 hw2 i u hi => ?_)
      rw [Nat.zero_add]
      refine fut_cell hcb i u ?_ w2 hw2
      rw [← k7, List.getElem?_take] at hi
      split at hi
      · simpa using hi
      · cases hi
  refine ⟨b, lc, ca, cc, rfl, rfl, ⟨fut_cell hwb 0 _ rfl, fun i x hx => ?_⟩, fut_cell hwb 2 _ rfl, hs.le hle, fut_cell hwb 3 _ rfl, hcs, h.rl, fun i row v a c => by obtain ⟨ra, rc, e, h3⟩ := h.rows i row v a c; exact ⟨ra, rc, e, h3.le hle⟩⟩
  have hil := (List.getElem?_eq_some_iff.1 hx).1
  obtain ⟨r, hr⟩ : ∃ r, rs[i]? = some r := ⟨_, List.getElem?_eq_getElem (by rw [h.web.rows.1]; exact hil)⟩
  have hc : ∀ j v, j < 6 → r.cells[j]? = some v → ∀ w', Fut ga w' → w'.cell? ⟨b, i * 6 + j, none⟩ = some v := fun j v hj hv =>
    fut_cell hpb _ _ (hget _ _ (by rw [nodesCells_get rs i j hj, hr]; exact hv))
  exact ⟨r, (h.web.rows.2 i r x hr hx).le hle, hc 0 _ (by omega) rfl, hc 1 _ (by omega) rfl, hc 2 _ (by omega) rfl, hc 3 _ (by omega) rfl, hc 4 _ (by omega) rfl, hc 5 _ (by omega) rfl⟩

/-- One row more. -/
theorem NW.push {row : List Bool} {v : Value} {ra : Option Addr} {rc kb kcap : Nat} {w1 : World} {o : Obj} (h : NW g0 w0 g wb st sv L w pv rs cv cans vs) (hv : v = .slice ra row.length rc) (hr : SliceV g ra row.length rc (row.map boolV))
    (hG : (w.alloc o).grownBy w1 cv.ownBlock) (hO : w1.ownsRow w0.heap.size 97 1 (.slice (some ⟨kb, 0, none⟩) (cans.length + 1) kcap) (cans.length + 1) (vs ++ [v])) (hA : cv.ownBlock = some kb ∨ kb = (w.alloc o).heap.size) :
    NW g0 w0 g wb st sv L (w1.setCell ⟨wb, 3, none⟩ (.slice (some ⟨kb, 0, none⟩) (cans.length + 1) kcap)) pv rs (.slice (some ⟨kb, 0, none⟩) (cans.length + 1) kcap) (cans ++ [row]) (vs ++ [v]) := by
  have hlt := lt_of_block h.web.box
  have hsz : (w.alloc o).heap.size = w.heap.size + 1 := World.size_alloc _ _
  have hkb : kb ≠ wb ∧ g.blk kb = none ∧ pv.ownBlock ≠ some kb := by
    rcases hA with h1 | h1
    · exact ⟨fun e => h.cw (by rw [h1, e]), h.cg kb h1, h.cp kb h1⟩
    · exact ⟨by omega, h.web.grow.fut.none_of_size (by omega), fun e => by have := (h.web.own.lt _ e).2; omega⟩
  have h1 : w1.heap[wb]? = some (.cells #[pv, st, sv, cv] 75) :=
    (hG.block wb (by omega) (fun e => h.cw e.symm)).trans ((Below.heap_alloc _ _ _ hlt).trans h.web.box)
  have hp : w1.ownsRow w0.heap.size 95 6 pv L.length (nodesCells rs) := (h.web.own.alloc o).kept hG (own_ne fun k hk e => h.cp k e hk)
  refine ⟨⟨((h.web.grow.alloc o).grown hG (fun k hk => ⟨(h.co.lt k hk).1, h.cg k hk⟩)).setCell (a := ⟨wb, 3, none⟩) h.web.out.1 h.web.new _, h.web.new, heap_setCell_same h1 _, ownsRow_setCell_ne hp h.web.ne _, h.web.rows, h.web.ne, h.web.out⟩, ?_, ?_, ?_, ?_, by simp [h.rl], ?_⟩
  · rw [List.length_append]
    exact ownsRow_setCell_ne hO (by simp [Value.ownBlock]; exact hkb.1) _
  · simp [Value.ownBlock]; exact hkb.1
  · intro k hk
    simp only [Value.ownBlock, Option.some.injEq] at hk
    subst hk
    exact hkb.2.2
  · intro k hk
    simp only [Value.ownBlock, Option.some.injEq] at hk
    subst hk
    exact hkb.2.1
  · intro i r2 v2 a b
    rcases Nat.lt_trichotomy i cans.length with hi | hi | hi
    · rw [List.getElem?_append_left hi] at a
      rw [List.getElem?_append_left (by rw [h.rl]; exact hi)] at b
      exact h.rows i r2 v2 a b
    · subst hi
      rw [List.getElem?_append_right (Nat.le_refl _)] at a
      rw [List.getElem?_append_right (by rw [h.rl]; exact Nat.le_refl _)] at b
      simp only [h.rl, Nat.sub_self, List.getElem?_cons_zero, Option.some.injEq] at a b
      subst a b
      exact ⟨ra, rc, hv, hr⟩
    · rw [List.getElem?_eq_none (by simp; omega)] at a
      cases a

theorem NW.start (h : WebS g0 w0 g wb st sv (.slice none 0 0) L w pv rs) : NW g0 w0 g wb st sv L w pv rs (.slice none 0 0) [] [] :=
  ⟨h, World.ownsRow_nil _ _ _ _, by simp [Value.ownBlock], fun k hk => by simp [Value.ownBlock] at hk, fun k hk => by simp [Value.ownBlock] at hk, rfl, fun i row v a => by simp at a⟩

theorem WebS.setSt (h : WebS g0 w0 g wb st sv cv L w pv rs) (v : Value) : WebS g0 w0 g wb v sv cv L (w.setCell ⟨wb, 1, none⟩ v) pv rs :=
  ⟨h.grow.setCell (a := ⟨wb, 1, none⟩) h.out.1 h.new v, h.new, heap_setCell_same h.box v, ownsRow_setCell_ne h.own h.ne v, h.rows, h.ne, h.out⟩

theorem WebS.fresh {sv : Value} {w1 : World} (h : Grow g0 w0 g w1) : WebS g0 w0 g (w1.heap.size + 1) (.int .i64 0) sv (.slice none 0 0) [nd0]
    ((w1.alloc (.cells #[.slice none 0 0, .int .u64 0, .int .u64 0, .int .u64 0, .int .u64 0, .int .i64 0] 95)).alloc (.cells #[.slice (some ⟨w1.heap.size, 0, none⟩) 1 1, .int .i64 0, sv, .slice none 0 0] 75)) (.slice (some ⟨w1.heap.size, 0, none⟩) 1 1) [⟨none, 0, 0, set0, 0⟩] := by
  have hn : ∀ b, w1.heap.size ≤ b → g.blk b = none := fun b hb => h.fut.none_of_size hb
  have hs := h.size
  have hz := heap_alloc_new (w1.alloc (.cells #[.slice none 0 0, .int .u64 0, .int .u64 0, .int .u64 0, .int .u64 0, .int .i64 0] 95)) (.cells #[.slice (some ⟨w1.heap.size, 0, none⟩) 1 1, .int .i64 0, sv, .slice none 0 0] 75)
  rw [World.size_alloc] at hz
  refine ⟨(h.alloc _).alloc _, by omega, hz, ?_, ⟨rfl, fun i r x hr hx => ?_⟩, by simp [Value.ownBlock], hn _ (by omega), fun k hk => ?_⟩
  · refine ⟨rfl, .inr ⟨w1.heap.size, 1, #[.slice none 0 0, .int .u64 0, .int .u64 0, .int .u64 0, .int .u64 0, .int .i64 0], rfl, hs, ?_, by simp, by unfold maxLen; omega, rfl, rfl⟩⟩
    rw [Below.heap_alloc _ _ _ (by simp)]
    exact heap_alloc_new w1 _
  · match i, hr, hx with
    | 0, hr, hx =>
      simp only [List.getElem?_cons_zero, Option.some.injEq] at hr hx
      subst hr hx
      exact NodeOk.leaf _ _
  · simp only [Value.ownBlock, Option.some.injEq] at hk
    subst hk
    exact hn _ (Nat.le_refl _)

/-- The row that is made. -/
structure RowSt (g0 : G) (w0 : World) (g : G) (wb : Nat) (st sv : Value) (L : List Nd) (S : List UInt8) (k : Nat) (w : World) (pv : Value) (rs : List NRow) (cv : Value) (cans : List (List Bool)) (vs : List Value) (rb q : Nat) (xs : List Value) : Prop where
  nw : NW g0 w0 g wb st sv L w pv rs cv cans vs
  own : w.ownsRow w0.heap.size 4 1 (.slice (some ⟨rb, 0, none⟩) L.length L.length) L.length xs
  far : rb ≠ wb ∧ pv.ownBlock ≠ some rb ∧ cv.ownBlock ≠ some rb ∧ g.blk rb = none
  done : ∀ j, j < q → xs[j]? = some (.bool (CanB L S k j))

variable {S : List UInt8} {k rb q : Nat} {xs : List Value}
theorem RowSt.kids (h : RowSt g0 w0 g wb st sv L S k w pv rs cv cans vs rb q xs) (hg : Grow g w g w') : RowSt g0 w0 g wb st sv L S k w' pv rs cv cans vs rb q xs :=
  ⟨h.nw.kids hg, ownsRow_same h.own (fun k hk => hg.old k (h.own.lt k hk).2), h.far, h.done⟩
theorem RowSt.put (h : RowSt g0 w0 g wb st sv L S k w pv rs cv cans vs rb q xs) (hq : q < L.length) : RowSt g0 w0 g wb st sv L S k (w.setCell ⟨rb, q, none⟩ (.bool (CanB L S k q))) pv rs cv cans vs rb (q + 1) (xs.set q (.bool (CanB L S k q))) := by
  refine ⟨h.nw.store (h.own.lt rb rfl).1 h.far.2.2.2 h.far.1 h.far.2.1 h.far.2.2.1 q _, (h.own.stored q _).1, h.far, fun j hj => ?_⟩
  have hl : xs.length = L.length := by have := h.own.1; omega
  by_cases e : j = q
  · subst e
    rw [List.getElem?_set_self (by omega)]
  · rw [List.getElem?_set_ne (Ne.symm e)]
    exact h.done j (by omega)
theorem RowSt.full (h : RowSt g0 w0 g wb st sv L S k w pv rs cv cans vs rb L.length xs) : xs = (canRow L S k).map boolV := by
  have hl : xs.length = L.length := by have := h.own.1; omega
  apply List.ext_getElem?
  intro j
  by_cases hj : j < L.length
  · rw [h.done j hj]
    simp [canRow, hj, boolV]
  · rw [List.getElem?_eq_none (by omega), List.getElem?_eq_none (by simp [canRow]; omega)]

/-- A row of its own is laid. -/
theorem RowSt.made {w1 : World} (h : NW g0 w0 g wb st sv L w pv rs cv cans vs) (hg : w.grownBy w1 none) (ho : w1.ownsRow w0.heap.size 4 1 (.slice (some ⟨w.heap.size, 0, none⟩) L.length L.length) L.length xs) : RowSt g0 w0 g wb st sv L S k w1 pv rs cv cans vs w.heap.size 0 xs := by
  have hf := h.web.grow.fut
  have hG : Grow g w g w1 := (Grow.refl hf).grown hg (fun k hk => by cases hk)
  have hlt := lt_of_block h.web.box
  exact ⟨h.kids hG, ho, ⟨by omega, fun e => by have := (h.web.own.lt _ e).2; omega, fun e => by have := (h.co.lt _ e).2; omega, hf.none_of_size (Nat.le_refl _)⟩, fun j hj => by omega⟩

/-- The row becomes persistent. -/
theorem RowSt.keep (h : RowSt g0 w0 g wb st sv L S k w pv rs cv cans vs rb L.length xs) : ∃ g', g.Le g' ∧ NW g0 w0 g' wb st sv L w pv rs cv cans vs ∧ SliceV g' (some ⟨rb, 0, none⟩) (canRow L S k).length L.length ((canRow L S k).map boolV) := by
  have hx := h.full
  subst hx
  obtain ⟨g', h1, h2, h3, h4⟩ := sl_keep (h.nw.web.grow.step fun _ => False) h.own (fun b hb => by simp only [Value.ownBlock, Option.some.injEq] at hb; subst hb; exact ⟨(h.own.lt rb rfl).1, h.far.2.2.2⟩)
  have e : (canRow L S k).length = L.length := by simp [canRow]
  refine ⟨g', h2, h.nw.more h1.grow h2 (h4 _ h.nw.web.out.1 ?_) (fun b hb => h4 _ (h.nw.web.out.2 b hb) ?_) (fun b hb => h4 _ (h.nw.cg b hb) ?_), by rw [e]; exact h3⟩
  · simp only [Value.ownBlock, ne_eq, Option.some.injEq]; exact h.far.1
  · simp only [Value.ownBlock, ne_eq, Option.some.injEq]
    intro e; subst e; exact h.far.2.1 hb
  · simp only [Value.ownBlock, ne_eq, Option.some.injEq]
    intro e; subst e; exact h.far.2.2.1 hb

/-- What newWeb leaves. -/
def NewWP (g : G) (w : World) (c : Core) (S : List UInt8) (n : Nat) (e : Ending) (w' : World) : Prop :=
  ∃ g' wb b lc sa sc ca cc vs, e = .returned (.pointer (some ⟨wb, 0, none⟩)) ∧ Grow g w g' w' ∧ WebC g' wb b lc (addR c.re 0 [nd0]).2 S ((List.range (n + 1)).map (canRow (addR c.re 0 [nd0]).2 S)) sa sc ca cc vs ∧
    ∀ w, Fut g' w → w.cell? ⟨wb, 1, none⟩ = some (.int .i64 ((addR c.re 0 [nd0]).1 : Nat))

/-- All new blocks become persistent. -/
theorem keep_all {g gk : G} {w w' : World} (h : Grow g w gk w') : ∃ g', Grow g w g' w' ∧ gk.Le g' ∧ ∀ b o, w.heap.size ≤ b → w'.heap[b]? = some o → g'.blk b = some o := by
  have hle : gk.Le { gk with blk := fun b => if b < w.heap.size then gk.blk b else w'.heap[b]? } := ⟨rfl, rfl, fun b o hb => by
    by_cases e : b < w.heap.size
    · simp [e, hb]
    · simp only [e, if_false]
      exact h.fut.blk b o hb⟩
  refine ⟨{ gk with blk := fun b => if b < w.heap.size then gk.blk b else w'.heap[b]? }, ⟨h.le.trans hle, ⟨h.fut.os, h.fut.out, fun b o hb => ?_⟩, h.size, h.old, fun b hb hlt => ?_⟩, hle, fun b o hb ho => ?_⟩
  · by_cases e : b < w.heap.size
    · simp only [e, if_true] at hb
      exact h.fut.blk b o hb
    · simp only [e, if_false] at hb
      exact hb
  · simp only [hlt, if_true]
    exact h.new b hb hlt
  · have e : ¬ b < w.heap.size := by omega
    simp only [e, if_false]
    exact ho

theorem NW.fin {c : Core} {n : Nat} {sa : Option Addr} {sc : Nat} (hs : SliceV g sa S.length sc (S.map byteV)) (h : NW g0 w0 g wb (.int .i64 ((addR c.re 0 [nd0]).1 : Nat)) (.slice sa S.length sc) (addR c.re 0 [nd0]).2 w pv rs cv ((List.range (n + 1)).map (canRow (addR c.re 0 [nd0]).2 S)) vs) :
    NewWP g0 w0 c S n (.returned (.pointer (some ⟨wb, 0, none⟩))) w := by
  obtain ⟨g', h1, h2, h3⟩ := keep_all h.web.grow
  have hl := (addR_len c.re 0 [nd0]).1
  obtain ⟨b, lc, ca, cc, -, -, hW⟩ := h.webC h2 (fun b o hb hc => h3 b o (by
    rcases hc with rfl | hc | hc
    · exact h.web.new
    · exact (h.web.own.lt b hc).1
    · exact (h.co.lt b hc).1) hb) hs (by simp at hl; omega)
  exact ⟨g', wb, b, lc, sa, sc, ca, cc, vs, rfl, h1, hW, fut_cell (h3 _ _ h.web.new h.web.box) 1 _ rfl⟩
end
end Go.Proofs.Ytjodmimnbpgfcaa

/- Mk -/
namespace Go.Proofs.Ytjodmimnbpgfcaa
open Go.RowKit Go.IntWalk

def CRow.cells (r : CRow) : Array Value := #[.int .i64 r.k, .int .u64 r.s.a, .int .u64 r.s.b, .int .u64 r.s.c, .int .u64 r.s.d, .int .i64 r.n, .slice r.a r.len r.cap]

/-- A core that lies in its result variable. -/
theorem results_core {fn : Func} {p : Tmp} {tmps : Array Value} {w : World} {B : Nat} {r : CRow} (hr : fn.results = #[.cell p 27]) (hp : tmps.getD p undef = .pointer (some ⟨B, 0, none⟩)) (h : w.heap[B]? = some (.cells r.cells 27)) :
    (results fn tmps).run Try.prog w = .ok r.val w := by
  have e0 : w.cell? ⟨B, 0, none⟩ = some (.int .i64 r.k) := heap_cell h 0 _ rfl
  have e1 : w.cell? ⟨B, 1, none⟩ = some (.int .u64 r.s.a) := heap_cell h 1 _ rfl
  have e2 : w.cell? ⟨B, 2, none⟩ = some (.int .u64 r.s.b) := heap_cell h 2 _ rfl
  have e3 : w.cell? ⟨B, 3, none⟩ = some (.int .u64 r.s.c) := heap_cell h 3 _ rfl
  have e4 : w.cell? ⟨B, 4, none⟩ = some (.int .u64 r.s.d) := heap_cell h 4 _ rfl
  have e5 : w.cell? ⟨B, 5, none⟩ = some (.int .i64 r.n) := heap_cell h 5 _ rfl
  have e6 : w.cell? ⟨B, 6, none⟩ = some (.slice r.a r.len r.cap) := heap_cell h 6 _ rfl
  have hp' : tmps[p]?.getD undef = .pointer (some ⟨B, 0, none⟩) := by simpa using hp
  simp [results, hr, hp', go_sem, e0, e1, e2, e3, e4, e5, e6, CRow.val]

def zeroCore : Array Value := #[.int .i64 0, .int .u64 0, .int .u64 0, .int .u64 0, .int .u64 0, .int .i64 0, .slice none 0 0]

/-- A core stored into its result variable. -/
def putCore (w : World) (B : Nat) (r : CRow) : World :=
  ((((((w.setCell ⟨B, 0, none⟩ (.int .i64 r.k)).setCell ⟨B, 1, none⟩ (.int .u64 r.s.a)).setCell ⟨B, 2, none⟩ (.int .u64 r.s.b)).setCell ⟨B, 3, none⟩ (.int .u64 r.s.c)).setCell ⟨B, 4, none⟩ (.int .u64 r.s.d)).setCell ⟨B, 5, none⟩ (.int .i64 r.n)).setCell ⟨B, 6, none⟩ (.slice r.a r.len r.cap)
theorem core_stores {w : World} {B : Nat} (h : w.heap[B]? = some (.cells zeroCore 27)) (r : CRow) : (putCore w B r).heap[B]? = some (.cells r.cells 27) :=
  heap_setCell_same (heap_setCell_same (heap_setCell_same (heap_setCell_same (heap_setCell_same (heap_setCell_same (heap_setCell_same h _) _) _) _) _) _) _
theorem core_grow {g g' : G} {w w' : World} (h : Grow g w g' w') {B : Nat} (hb : g'.blk B = none) (hn : w.heap.size ≤ B) (r : CRow) : Grow g w g' (putCore w' B r) :=
  ((((((h.setCell (a := ⟨B, 0, none⟩) hb hn _).setCell (a := ⟨B, 1, none⟩) hb hn _).setCell (a := ⟨B, 2, none⟩) hb hn _).setCell (a := ⟨B, 3, none⟩) hb hn _).setCell (a := ⟨B, 4, none⟩) hb hn _).setCell (a := ⟨B, 5, none⟩) hb hn _).setCell (a := ⟨B, 6, none⟩) hb hn _

set_option maxRecDepth 100000 in
set_option maxHeartbeats 2000000 in
theorem ch_any {g : G} {a : Option Addr} {n c : Nat} {l : List UInt8} (hs : SliceV g a n c (l.map byteV)) (w : World) (hw : Fut g w) :
    Calls Try.prog 13 #[.slice a n c] w fun e w' => ∃ r : CRow, e = .returned r.val ∧ Grow g w g w' ∧ CoreV g r (.mk 2 (ofF l) 0 []) := by
  have hof := fun w' hf => of_any hs w' hf
  have fa := fun o => hw.alloc o
  unfold Set4.val at hof
  have HO := hid hof
  clear hof
  go_enter Try.func13, Try.ntmps13
  go_wp2_with (first | (go_at_call 34; refine (HO.out _ (fa _)).mono ?_) | fail)
  rintro e w5 ⟨rfl, hg5⟩
  have hb := (hg5.old w.heap.size (by rw [World.size_alloc]; exact Nat.lt_succ_self _)).trans (heap_alloc_new w _)
  have c0 := heap_cell hb 0 _ rfl
  have c1 := heap_cell hb 1 _ rfl
  have c2 := heap_cell hb 2 _ rfl
  have c3 := heap_cell hb 3 _ rfl
  have c4 := heap_cell hb 4 _ rfl
  have c5 := heap_cell hb 5 _ rfl
  have c6 := heap_cell hb 6 _ rfl
  have z0 := heap_free hb
  have HB := hid hb
  have HG := hid (((Grow.refl hw).alloc _).trans hg5)
  clear hb hg5 HO
  go_wp2
  have hst := core_stores HB.out ⟨2, ofF l, 0, none, 0, 0⟩
  have hgr := core_grow HG.out (hw.none_of_size (Nat.le_refl _)) (Nat.le_refl _) ⟨2, ofF l, 0, none, 0, 0⟩
  simp only [putCore] at hst hgr
  refine bodyPost_ret (results_core (r := ⟨2, ofF l, 0, none, 0, 0⟩) rfl rfl hst) rfl ⟨⟨2, ofF l, 0, none, 0, 0⟩, rfl, hgr, ?_⟩
  · exact .nil 2 (ofF l) 0 (by unfold i64; omega) (ofF_wf l) (by unfold i64; omega) none 0

set_option maxRecDepth 100000 in
set_option maxHeartbeats 2000000 in
theorem eps_any {g : G} (w : World) (hw : Fut g w) : Calls Try.prog 17 #[] w fun e w' => ∃ r : CRow, e = .returned r.val ∧ Grow g w g w' ∧ CoreV g r (.mk 1 set0 0 []) := by
  have hb := heap_alloc_new w (.cells #[.int .i64 1, .int .u64 0, .int .u64 0, .int .u64 0, .int .u64 0, .int .i64 0, .slice none 0 0] 27)
  have hgr := (Grow.refl hw).alloc (.cells #[.int .i64 1, .int .u64 0, .int .u64 0, .int .u64 0, .int .u64 0, .int .i64 0, .slice none 0 0] 27)
  have HB := hid hb
  have HG := hid hgr
  clear hb hgr
  go_enter Try.func17, Try.ntmps17
  go_wp2
  refine bodyPost_ret (results_core (r := ⟨1, set0, 0, none, 0, 0⟩) rfl rfl HB.out) rfl ⟨⟨1, set0, 0, none, 0, 0⟩, rfl, HG.out, ?_⟩
  exact .nil 1 set0 0 (by unfold i64; omega) ⟨by decide, by decide, by decide, by decide⟩ (by unfold i64; omega) none 0

/-- Two cores in a row of their own. -/
theorem core_two {g : G} {r q : CRow} {c d : Core} {b : Nat} (h : CoreV g r c) (h' : CoreV g q d) (hb : g.blk b = some (.cells (r.cells ++ q.cells) 27)) (k : Int) (hk : i64 k) : CoreV g ⟨k, set0, 0, some ⟨b, 0, none⟩, 2, 2⟩ (.mk k set0 0 [c, d]) := by
  refine .row k set0 0 hk ⟨by decide, by decide, by decide, by decide⟩ (by unfold i64; omega) b 0 2 [c, d] (fun i => if i = 0 then r else q) (by simp) (by omega) (fun i hi => ?_) (fun i hi => ?_)
  · have : i = 0 ∨ i = 1 := by simp at hi; omega
    rcases this with rfl | rfl
    · exact ⟨fut_cell hb 0 _ rfl, fut_cell hb 1 _ rfl, fut_cell hb 2 _ rfl, fut_cell hb 3 _ rfl, fut_cell hb 4 _ rfl, fut_cell hb 5 _ rfl, fut_cell hb 6 _ rfl⟩
    · exact ⟨fut_cell hb 7 _ rfl, fut_cell hb 8 _ rfl, fut_cell hb 9 _ rfl, fut_cell hb 10 _ rfl, fut_cell hb 11 _ rfl, fut_cell hb 12 _ rfl, fut_cell hb 13 _ rfl⟩
  · have : i = 0 ∨ i = 1 := by simp at hi; omega
    rcases this with rfl | rfl
    · exact h
    · exact h'
theorem core_one {g : G} {r : CRow} {c : Core} {b : Nat} (h : CoreV g r c) (hb : g.blk b = some (.cells r.cells 27)) (k : Int) (hk : i64 k) : CoreV g ⟨k, set0, 0, some ⟨b, 0, none⟩, 1, 1⟩ (.mk k set0 0 [c]) := by
  refine .row k set0 0 hk ⟨by decide, by decide, by decide, by decide⟩ (by unfold i64; omega) b 0 1 [c] (fun _ => r) (by simp) (by omega) (fun i hi => ?_) (fun i hi => ?_)
  · obtain rfl : i = 0 := by simpa using hi
    exact ⟨fut_cell hb 0 _ rfl, fut_cell hb 1 _ rfl, fut_cell hb 2 _ rfl, fut_cell hb 3 _ rfl, fut_cell hb 4 _ rfl, fut_cell hb 5 _ rfl, fut_cell hb 6 _ rfl⟩
  · obtain rfl : i = 0 := by simpa using hi
    exact h

/-- A result and a row, laid one behind the other. -/
theorem res_two {g : G} {w W : World} (hG : Grow g w g W) (res cells : Obj) : ∃ g', Grow g w g' ((W.alloc res).alloc cells) ∧ g'.blk (W.heap.size + 1) = some cells ∧ ((W.alloc res).alloc cells).heap[W.heap.size]? = some res := by
  have h := (hG.alloc res).box cells
  rw [World.size_alloc] at h
  exact ⟨_, h, G.add_same _ _ _, (Below.heap_alloc _ _ _ (by rw [World.size_alloc]; exact Nat.lt_succ_self _)).trans (heap_alloc_new W res)⟩

set_option maxRecDepth 100000 in
set_option maxHeartbeats 2000000 in
theorem alt_any {g : G} {r q : CRow} {c d : Core} (h : CoreV g r c) (h' : CoreV g q d) (w : World) (hw : Fut g w) :
    Calls Try.prog 16 #[r.val, q.val] w fun e w' => ∃ (g' : G) (x : CRow), e = .returned x.val ∧ Grow g w g' w' ∧ CoreV g' x (.mk 4 set0 0 [c, d]) := by
  obtain ⟨g', hg, hb, hr⟩ := res_two (((Grow.refl hw).alloc (.cells #[.int .i64 r.k, .int .u64 r.s.a, .int .u64 r.s.b, .int .u64 r.s.c, .int .u64 r.s.d, .int .i64 r.n, .slice r.a r.len r.cap] 27)).alloc (.cells #[.int .i64 q.k, .int .u64 q.s.a, .int .u64 q.s.b, .int .u64 q.s.c, .int .u64 q.s.d, .int .i64 q.n, .slice q.a q.len q.cap] 27)) (.cells #[.int .i64 4, .int .u64 0, .int .u64 0, .int .u64 0, .int .u64 0, .int .i64 0, .slice (some ⟨w.heap.size + 1 + 1 + 1, 0, none⟩) 2 2] 27) (.cells (r.cells ++ q.cells) 27)
  simp only [World.size_alloc] at hb hr
  have hc := core_two (h.le hg.le) (h'.le hg.le) hb 4 (by unfold i64; omega)
  have HR := hid hr
  have HG := hid hg
  have HC := hid hc
  clear hg hb hr hc h h'
  unfold CRow.val
  go_enter Try.func16, Try.ntmps16
  go_wp2
  exact bodyPost_ret (results_core (r := ⟨4, set0, 0, some ⟨w.heap.size + 1 + 1 + 1, 0, none⟩, 2, 2⟩) rfl rfl HR.out) rfl ⟨g', _, rfl, HG.out, HC.out⟩

set_option maxRecDepth 100000 in
set_option maxHeartbeats 2000000 in
theorem seq_any {g : G} {r q : CRow} {c d : Core} (h : CoreV g r c) (h' : CoreV g q d) (w : World) (hw : Fut g w) :
    Calls Try.prog 15 #[r.val, q.val] w fun e w' => ∃ (g' : G) (x : CRow), e = .returned x.val ∧ Grow g w g' w' ∧ CoreV g' x (.mk 3 set0 0 [c, d]) := by
  obtain ⟨g', hg, hb, hr⟩ := res_two (((Grow.refl hw).alloc (.cells #[.int .i64 r.k, .int .u64 r.s.a, .int .u64 r.s.b, .int .u64 r.s.c, .int .u64 r.s.d, .int .i64 r.n, .slice r.a r.len r.cap] 27)).alloc (.cells #[.int .i64 q.k, .int .u64 q.s.a, .int .u64 q.s.b, .int .u64 q.s.c, .int .u64 q.s.d, .int .i64 q.n, .slice q.a q.len q.cap] 27)) (.cells #[.int .i64 3, .int .u64 0, .int .u64 0, .int .u64 0, .int .u64 0, .int .i64 0, .slice (some ⟨w.heap.size + 1 + 1 + 1, 0, none⟩) 2 2] 27) (.cells (r.cells ++ q.cells) 27)
  simp only [World.size_alloc] at hb hr
  have hc := core_two (h.le hg.le) (h'.le hg.le) hb 3 (by unfold i64; omega)
  have HR := hid hr
  have HG := hid hg
  have HC := hid hc
  clear hg hb hr hc h h'
  unfold CRow.val
  go_enter Try.func15, Try.ntmps15
  go_wp2
  exact bodyPost_ret (results_core (r := ⟨3, set0, 0, some ⟨w.heap.size + 1 + 1 + 1, 0, none⟩, 2, 2⟩) rfl rfl HR.out) rfl ⟨g', _, rfl, HG.out, HC.out⟩

set_option maxRecDepth 100000 in
set_option maxHeartbeats 2000000 in
theorem starC_any {g : G} {r : CRow} {c : Core} (h : CoreV g r c) (w : World) (hw : Fut g w) :
    Calls Try.prog 12 #[r.val] w fun e w' => ∃ (g' : G) (x : CRow), e = .returned x.val ∧ Grow g w g' w' ∧ CoreV g' x (.mk 5 set0 0 [c]) := by
  obtain ⟨g', hg, hb, hr⟩ := res_two ((Grow.refl hw).alloc (.cells #[.int .i64 r.k, .int .u64 r.s.a, .int .u64 r.s.b, .int .u64 r.s.c, .int .u64 r.s.d, .int .i64 r.n, .slice r.a r.len r.cap] 27)) (.cells #[.int .i64 5, .int .u64 0, .int .u64 0, .int .u64 0, .int .u64 0, .int .i64 0, .slice (some ⟨w.heap.size + 1 + 1, 0, none⟩) 1 1] 27) (.cells r.cells 27)
  simp only [World.size_alloc] at hb hr
  have hc := core_one (h.le hg.le) hb 5 (by unfold i64; omega)
  have HR := hid hr
  have HG := hid hg
  have HC := hid hc
  clear hg hb hr hc h
  unfold CRow.val
  go_enter Try.func12, Try.ntmps12
  go_wp2
  exact bodyPost_ret (results_core (r := ⟨5, set0, 0, some ⟨w.heap.size + 1 + 1, 0, none⟩, 1, 1⟩) rfl rfl HR.out) rfl ⟨g', _, rfl, HG.out, HC.out⟩
end Go.Proofs.Ytjodmimnbpgfcaa
