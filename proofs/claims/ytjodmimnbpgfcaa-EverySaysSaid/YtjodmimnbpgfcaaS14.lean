/- Slices of one-cell elements that a call owns: append, Clone, keep. A library text: no claim is stated here. every's web: places; what a web is in memory; place, walked. A library text: no claim is stated here. -/
import Derived.Test.YtjodmimnbpgfcaaS10
import Derived.Test.YtjodmimnbpgfcaaS04
import Derived.Test.YtjodmimnbpgfcaaS02

/- Ints -/
namespace Go.Proofs.Ytjodmimnbpgfcaa
open Go.RowKit Go.IntWalk

theorem natV_one (l : List Nat) : ∀ u ∈ l.map natV, u.oneCell' = true := by
  intro u hu
  obtain ⟨k, -, rfl⟩ := List.mem_map.1 hu
  rfl
theorem byteV_one (l : List UInt8) : ∀ u ∈ l.map byteV, u.oneCell' = true := by
  intro u hu
  obtain ⟨k, -, rfl⟩ := List.mem_map.1 hu
  rfl

/-- append of a slice that lies in persistent memory. -/
theorem run_append_sl {P : Program} {g : G} (w : World) (base : Nat) (t ty e : TypeId) (i : TypeInfo) (z : Value) (bytes : Nat) (ht : P.underlying t = some (.slice e)) (hi : P.info? e = some i) (hz : i.zero = some z)
    (hsize : i.size = 1) (hby : i.bytes = bytes) (hzs : z.cells.size = 1) {v : Value} {n : Nat} {xs : List Value} (hown : w.ownsRow base e 1 v n xs)
    {a : Option Addr} {m c : Nat} {vs : List Value} (h : SliceV g a m c vs) (hf : Fut g w) (h1 : ∀ u ∈ vs, u.oneCell' = true)
    (h63 : n + m ≤ maxLen) (hbytes : (n + m) * bytes ≤ 140737488355328) (hbase : base ≤ w.heap.size) :
    ∃ v' w', (Builtin.append_ #[t, t] ty #[v, .slice a m c]).run P w = .ok v' w' ∧ w'.ownsRow base e 1 v' (n + m) (xs ++ vs) ∧ w.grownBy w' v.ownBlock ∧ (v'.ownBlock = v.ownBlock ∨ v'.ownBlock = some w.heap.size) := by
  cases h with
  | nil =>
    refine ⟨v, w, ?_, by simpa using hown, ⟨rfl, rfl, rfl, Nat.le_refl _, fun _ _ _ => rfl⟩, .inl rfl⟩
    rcases hown.2 with ⟨rfl, rfl⟩ | ⟨k, cap, cur, rfl, hbg, hg, hnc, hcm, hcs, htake⟩
    · simp [Builtin.append_, run_underlying ht, sizeOf, typeInfo, hi, Builtin.lenOf, Builtin.firstCells]
    · simp [Builtin.append_, run_underlying ht, sizeOf, typeInfo, hi, Builtin.lenOf, Builtin.firstCells, loadCells, storeCells, hnc, Result.andThen]
  | row b off _ _ hcap hm hc =>
    obtain ⟨v', w', hr, h2, h3, -, h5⟩ := run_append_own_at (P := P) w base t ty e i z 1 bytes ht hi hz hsize hby hzs (by omega) v n xs hown ⟨b, off, none⟩ vs.length c vs (by simp)
      (fun j u hj => by rw [show (⟨b, off, none⟩ : Addr).add j = ⟨b, off + j, none⟩ by unfold Addr.add; split <;> simp_all]; exact hc _ hf j u hj) h1 h63 hbytes hbase
    exact ⟨v', w', hr, h2, h3, h5⟩

theorem wpList_append_sl {P : Program} {g : G} (w : World) {ops : Array Oper} {rest : List Oper} {o : Oper} {a : Act} {Q : Exit → Act → World → Prop} (hgd : o.guard = none) (s x : Operand) (t : TypeId)
    (ho : o.op = .call { callee := .builtin .append, args := #[s, x], argTypes := #[t, t] })
    (base : Nat) (e : TypeId) (i : TypeInfo) (z : Value) (bytes : Nat) (ht : P.underlying t = some (.slice e)) (hi : P.info? e = some i) (hz : i.zero = some z)
    (hsize : i.size = 1) (hby : i.bytes = bytes) (hzs : z.cells.size = 1) {v : Value} {n : Nat} {xs : List Value} (hs : a.eval s = v) (hown : w.ownsRow base e 1 v n xs)
    {b : Option Addr} {m c : Nat} {vs : List Value} (hx : a.eval x = .slice b m c) (hv : SliceV g b m c vs) (hf : Fut g w) (h1 : ∀ u ∈ vs, u.oneCell' = true)
    (h63 : n + m ≤ maxLen) (hbytes : (n + m) * bytes ≤ 140737488355328) (hbase : base ≤ w.heap.size)
    (h : ∀ ao cap w', w'.ownsRow base e 1 (.slice ao (n + m) cap) (n + m) (xs ++ vs) → w.grownBy w' v.ownBlock → ((Value.slice ao (n + m) cap).ownBlock = v.ownBlock ∨ (Value.slice ao (n + m) cap).ownBlock = some w.heap.size) → wpList P ops Q rest (a.put o.dst (.slice ao (n + m) cap)) w') :
    wpList P ops Q (o :: rest) a w := by
  refine wpList_plain hgd fun K hK => ?_
  obtain ⟨v', w', hr, h2, h3, h5⟩ := run_append_sl (P := P) w base t o.type e i z bytes ht hi hz hsize hby hzs hown hv hf h1 h63 hbytes hbase
  obtain ⟨ao, cap, rfl⟩ : ∃ ao cap, v' = .slice ao (n + m) cap := by
    rcases h2.2 with ⟨h1, h2⟩ | ⟨k, cap, cur, h1, -⟩
    · exact ⟨none, 0, by rw [h1, h2]⟩
    · exact ⟨_, _, h1⟩
  unfold Oper.wp execOp
  simp only [ho, resolve, invoke, builtin, Sem.run_bind, Sem.run_pure, Result.andThen_ok, List.map_toArray, List.map_cons, List.map_nil, hs, hx, hr]
  exact hK _ _ (h ao cap w' h2 h3 h5)

/-- What a value looks like that owns a row. -/
theorem own_shape {w : World} {base : Nat} {e : TypeId} {size : Nat} {v : Value} {n : Nat} {xs : List Value} (h : w.ownsRow base e size v n xs) : ∃ ao cap, v = .slice ao n cap := by
  rcases h.2 with ⟨h1, h2⟩ | ⟨k, cap, cur, h1, -⟩
  · exact ⟨none, 0, by rw [h1, h2]⟩
  · exact ⟨_, _, h1⟩

/-- A row of the call's own becomes persistent. -/
theorem sl_keep {M : Nat → Prop} {g g' : G} {w w' : World} (h : Step M g w g' w') {ao : Option Addr} {n cap base : Nat} {e : TypeId} {xs : List Value} (ho : w'.ownsRow base e 1 (.slice ao n cap) n xs) (hk : ∀ k, (Value.slice ao n cap).ownBlock = some k → w.heap.size ≤ k ∧ g'.blk k = none) :
    ∃ g'', Step M g w g'' w' ∧ g'.Le g'' ∧ SliceV g'' ao n cap xs ∧ ∀ b, g'.blk b = none → (Value.slice ao n cap).ownBlock ≠ some b → g''.blk b = none := by
  have hl : xs.length = n := by have := ho.1; omega
  rcases ho.2 with ⟨h1, rfl⟩ | ⟨k, c, cur, h1, h2, h3, h4, h5, h6, h7⟩
  · cases h1
    obtain rfl : xs = [] := List.eq_nil_of_length_eq_zero hl
    exact ⟨g', h, G.Le.refl _, .nil, fun b hb _ => hb⟩
  · cases h1
    obtain ⟨k1, k2⟩ := hk k rfl
    subst hl
    have hb : (g'.add k (.cells cur e (0, 0))).blk k = some (.cells cur e (0, 0)) := G.add_same _ _ _
    refine ⟨g'.add k (.cells cur e (0, 0)), h.keep h3 k1 k2, G.le_add k2, .row k 0 cap xs h4 (by unfold maxLen at h5; omega) (fun w2 hw2 i u hi => ?_), fun b hb hne => ?_⟩
    · have hi2 := (List.getElem?_eq_some_iff.1 hi).1
      rw [Nat.zero_add]
      refine fut_cell hb i u ?_ w2 hw2
      rw [← h7, List.getElem?_take, if_pos (by omega)] at hi
      simpa using hi
    · have : b ≠ k := fun e => hne (by rw [e]; rfl)
      simp [G.add, this, hb]

theorem Try.info5' : (Try.prog.info? 5).map (fun i => (i.zero, i.size, i.bytes)) = some (some (.int .u8 0), 1, 1) := by kernel_rfl
theorem Try.info3' : (Try.prog.info? 3).map (fun i => (i.zero, i.size, i.bytes)) = some (some (.int .i64 0), 1, 8) := by kernel_rfl

theorem eql_nil28 (a : Option Addr) (n c : Nat) (w : World) : (binOp .eql 28 (.slice a n c) (.slice none 0 0)).run Try.prog w = .ok (.bool a.isNone) w := Lib.run_eql_slice_nil w _ _ a n c 0 0 Try.underlying28
theorem eql_nil70 (a : Option Addr) (n c : Nat) (w : World) : (binOp .eql 70 (.slice a n c) (.slice none 0 0)).run Try.prog w = .ok (.bool a.isNone) w := Lib.run_eql_slice_nil w _ _ a n c 0 0 Try.underlying70

/-- What Clone leaves. -/
def CloneP (g : G) (w : World) (ty : TypeId) (xs : List Value) (e : Ending) (w' : World) : Prop :=
  ∃ ao cap, e = .returned (.slice ao xs.length cap) ∧ Grow g w g w' ∧ w'.ownsRow w.heap.size ty 1 (.slice ao xs.length cap) xs.length xs

theorem clone_end {g : G} {w w1 : World} {ty : TypeId} {xs : List Value} {o : Obj} {v : Value} {ao : Option Addr} {cap n : Nat} (hw : Fut g w) (hv : v.ownBlock = some w.heap.size) (hn : n = xs.length) (hown : w1.ownsRow w.heap.size ty 1 (.slice ao (0 + n) cap) (0 + n) ([] ++ xs)) (hg : (w.alloc o).grownBy w1 v.ownBlock) :
    CloneP g w ty xs (.returned (.slice ao n cap)) w1 := by
  subst hn
  simp only [Nat.zero_add, List.nil_append] at hown
  exact ⟨ao, cap, rfl, ((Grow.refl hw).alloc _).grown hg (fun k hk => by rw [hv] at hk; cases hk; exact ⟨Nat.le_refl _, hw.none_of_size (Nat.le_refl _)⟩), hown⟩

set_option maxRecDepth 100000 in
set_option maxHeartbeats 1000000 in
theorem clone_ints {g : G} {a : Option Addr} {n c : Nat} {l : List Nat} (h : SliceV g a n c (l.map natV)) (hs : l.length ≤ 100000) (w : World) (hw : Fut g w) :
    Calls Try.prog 53 #[.slice a n c] w (CloneP g w 3 (l.map natV)) := by
  have hnil := eql_nil70 a n c
  obtain ⟨hn, -, -⟩ := h.length
  rw [List.length_map] at hn
  cases h' : a with
  | none =>
    subst h'
    have hz : n = 0 ∧ c = 0 ∧ l = [] := by
      cases hl : (l.map natV) with
      | nil => rw [hl] at h; cases h; exact ⟨rfl, rfl, by simpa using hl⟩
      | cons x r => rw [hl] at h; cases h
    obtain ⟨rfl, rfl, rfl⟩ := hz
    clear hn hs h
    go_enter Try.func53, Try.ntmps53
    go_wp2_with fail
    go_ret
    exact ⟨none, 0, rfl, Grow.refl hw, World.ownsRow_nil _ _ _ _⟩
  | some ad =>
    subst h'
    obtain ⟨i0, hi, hz0, hz1, hz2⟩ := info_parts Try.info3'
    have hown := World.ownsRow_made (base := w.heap.size) (e := 3) (size := 1) w #[] 0 (Nat.le_refl _) (by unfold maxLen; omega) rfl
    have HS := hid h
    have HO := hid hown
    have HA := hid (hw.alloc (.cells #[] 3))
    have HN := hid hn
    have h1 : 0 + n ≤ maxLen := by unfold maxLen; omega
    have h2 : (0 + n) * 8 ≤ 140737488355328 := by omega
    have HM := hid (And.intro h1 h2)
    clear h hown hn h1 h2
    go_enter Try.func53, Try.ntmps53
    go_wp2_with (first | (at_builtin; refine wpList_append_sl _ rfl (.tmp 5) (.tmp 6) 70 rfl w.heap.size 3 i0 (.int .i64 0) 8 Try.underlying70 hi hz0 hz1 hz2 rfl (v := .slice (some ⟨w.heap.size, 0, none⟩) 0 0) (n := 0) (xs := []) rfl HO.out rfl HS.out HA.out (natV_one l) HM.out.1 HM.out.2 (by simp) ?_; intro ao cap w1 hown1 hgrow1 hat1; have HO1 := hid hown1; have HG1 := hid hgrow1; clear hown1 hgrow1 hat1) | fail)
    go_ret
    exact clone_end hw rfl (by simpa using HN.out) HO1.out HG1.out

set_option maxRecDepth 100000 in
set_option maxHeartbeats 1000000 in
theorem clone_bytes {g : G} {a : Option Addr} {n c : Nat} {l : List UInt8} (h : SliceV g a n c (l.map byteV)) (hs : l.length ≤ 100000) (w : World) (hw : Fut g w) :
    Calls Try.prog 51 #[.slice a n c] w (CloneP g w 5 (l.map byteV)) := by
  have hnil := eql_nil28 a n c
  obtain ⟨hn, -, -⟩ := h.length
  rw [List.length_map] at hn
  cases h' : a with
  | none =>
    subst h'
    have hz : n = 0 ∧ c = 0 ∧ l = [] := by
      cases hl : (l.map byteV) with
      | nil => rw [hl] at h; cases h; exact ⟨rfl, rfl, by simpa using hl⟩
      | cons x r => rw [hl] at h; cases h
    obtain ⟨rfl, rfl, rfl⟩ := hz
    clear hn hs h
    go_enter Try.func51, Try.ntmps51
    go_wp2_with fail
    go_ret
    exact ⟨none, 0, rfl, Grow.refl hw, World.ownsRow_nil _ _ _ _⟩
  | some ad =>
    subst h'
    obtain ⟨i0, hi, hz0, hz1, hz2⟩ := info_parts Try.info5'
    have hown := World.ownsRow_made (base := w.heap.size) (e := 5) (size := 1) w #[] 0 (Nat.le_refl _) (by unfold maxLen; omega) rfl
    have HS := hid h
    have HO := hid hown
    have HA := hid (hw.alloc (.cells #[] 5))
    have HN := hid hn
    have h1 : 0 + n ≤ maxLen := by unfold maxLen; omega
    have h2 : (0 + n) * 8 ≤ 140737488355328 := by omega
    have HM := hid (And.intro h1 h2)
    clear h hown hn h1 h2
    go_enter Try.func51, Try.ntmps51
    go_wp2_with (first | (at_builtin; refine wpList_append_sl _ rfl (.tmp 5) (.tmp 6) 28 rfl w.heap.size 5 i0 (.int .u8 0) 1 Try.underlying28 hi hz0 hz1 hz2 rfl (v := .slice (some ⟨w.heap.size, 0, none⟩) 0 0) (n := 0) (xs := []) rfl HO.out rfl HS.out HA.out (byteV_one l) HM.out.1 (by have := HM.out.2; omega) (by simp) ?_; intro ao cap w1 hown1 hgrow1 hat1; have HO1 := hid hown1; have HG1 := hid hgrow1; clear hown1 hgrow1 hat1) | fail)
    go_ret
    exact clone_end hw rfl (by simpa using HN.out) HO1.out HG1.out
end Go.Proofs.Ytjodmimnbpgfcaa

/- WebM -/
namespace Go.Proofs.Ytjodmimnbpgfcaa
open Go.RowKit Go.IntWalk

/-- A place of a web. -/
structure Nd where
  free : List Nat
  set : Set4
  next : Nat

def nd0 : Nd := ⟨[], set0, 0⟩

/-- add: from where, and all places. -/
def addR : Re → Nat → List Nd → Nat × List Nd
  | .none, _, L => (L.length, L ++ [nd0])
  | .empty, t, L => (t, L)
  | .byte S, t, L => (L.length, L ++ [⟨[], S, t⟩])
  | .both a b, t, L => addR a (addR b t L).1 (addR b t L).2
  | .or a b, t, L => ((addR b t (addR a t L).2).2.length, (addR b t (addR a t L).2).2 ++ [⟨[(addR a t L).1, (addR b t (addR a t L).2).1], set0, 0⟩])
  | .star a, t, L => (L.length, (addR a L.length (L ++ [nd0])).2.set L.length ⟨[(addR a L.length (L ++ [nd0])).1, t], set0, 0⟩)
  | .group a, t, L => addR a t L
  | .anew a, t, L => addR a t L

/-- A place's own cells. -/
structure NRow where
  a : Option Addr
  n : Nat
  c : Nat
  s : Set4
  nx : Nat

def NRow.val (r : NRow) : Value := .agg #[.slice r.a r.n r.c, .int .u64 r.s.a, .int .u64 r.s.b, .int .u64 r.s.c, .int .u64 r.s.d, .int .i64 r.nx]
def NRow.cells (r : NRow) : List Value := [.slice r.a r.n r.c, .int .u64 r.s.a, .int .u64 r.s.b, .int .u64 r.s.c, .int .u64 r.s.d, .int .i64 r.nx]
def nodesCells (rs : List NRow) : List Value := rs.flatMap NRow.cells

theorem nodesCells_length (rs : List NRow) : (nodesCells rs).length = rs.length * 6 := by
  induction rs with
  | nil => rfl
  | cons r rs ih =>
    have : (nodesCells (r :: rs)) = r.cells ++ nodesCells rs := rfl
    rw [this, List.length_append, ih, List.length_cons]; simp [NRow.cells]; omega
theorem nodesCells_get : ∀ (rs : List NRow) (i r : Nat), r < 6 → (nodesCells rs)[i * 6 + r]? = (rs[i]?).bind fun x => x.cells[r]?
  | [], i, r, hr => by simp [nodesCells]
  | x :: rs, 0, r, hr => by
    have : (nodesCells (x :: rs)) = x.cells ++ nodesCells rs := rfl
    rw [this, List.getElem?_append_left (by simp [NRow.cells]; omega)]
    simp
  | x :: rs, i + 1, r, hr => by
    have : (nodesCells (x :: rs)) = x.cells ++ nodesCells rs := rfl
    rw [this, List.getElem?_append_right (by simp [NRow.cells]; omega)]
    have e : (i + 1) * 6 + r - x.cells.length = i * 6 + r := by simp [NRow.cells]; omega
    rw [e, nodesCells_get rs i r hr]
    simp
theorem nodesCells_append (a b : List NRow) : nodesCells (a ++ b) = nodesCells a ++ nodesCells b := by simp [nodesCells]

structure NodeOk (g : G) (r : NRow) (x : Nd) : Prop where
  free : SliceV g r.a r.n r.c (x.free.map natV)
  set : r.s = x.set
  next : r.nx = x.next
theorem NodeOk.le {g g' : G} {r : NRow} {x : Nd} (h : NodeOk g r x) (k : g.Le g') : NodeOk g' r x := ⟨h.free.le k, h.set, h.next⟩

def NodesOk (g : G) (rs : List NRow) (L : List Nd) : Prop := rs.length = L.length ∧ ∀ (i : Nat) (r : NRow) (x : Nd), rs[i]? = some r → L[i]? = some x → NodeOk g r x
theorem NodesOk.le {g g' : G} {rs : List NRow} {L : List Nd} (h : NodesOk g rs L) (k : g.Le g') : NodesOk g' rs L := ⟨h.1, fun i r v h1 h2 => (h.2 i r v h1 h2).le k⟩
theorem NodesOk.snoc {g : G} {rs : List NRow} {L : List Nd} (h : NodesOk g rs L) {r : NRow} {x : Nd} (hx : NodeOk g r x) : NodesOk g (rs ++ [r]) (L ++ [x]) := by
  refine ⟨by simp [h.1], fun i r' v' h1 h2 => ?_⟩
  rcases Nat.lt_trichotomy i rs.length with hi | hi | hi
  · rw [List.getElem?_append_left hi] at h1
    rw [List.getElem?_append_left (by rw [← h.1]; exact hi)] at h2
    exact h.2 i r' v' h1 h2
  · subst hi
    rw [List.getElem?_append_right (Nat.le_refl _)] at h1
    rw [List.getElem?_append_right (by rw [h.1]; exact Nat.le_refl _)] at h2
    simp only [h.1, Nat.sub_self, List.getElem?_cons_zero, Option.some.injEq] at h1 h2
    subst h1 h2
    exact hx
  · rw [List.getElem?_eq_none (by simp; omega)] at h1
    cases h1

/-- A web that the call owns. -/
structure WebS (g0 : G) (w0 : World) (g : G) (wb : Nat) (st sv cv : Value) (L : List Nd) (w : World) (pv : Value) (rs : List NRow) : Prop where
  grow : Grow g0 w0 g w
  new : w0.heap.size ≤ wb
  box : w.heap[wb]? = some (.cells #[pv, st, sv, cv] 75)
  own : w.ownsRow w0.heap.size 95 6 pv L.length (nodesCells rs)
  rows : NodesOk g rs L
  ne : pv.ownBlock ≠ some wb
  out : g.blk wb = none ∧ ∀ k, pv.ownBlock = some k → g.blk k = none
def WebE (g0 : G) (w0 : World) (g : G) (wb : Nat) (st sv cv : Value) (L : List Nd) (w : World) : Prop := ∃ pv rs, WebS g0 w0 g wb st sv cv L w pv rs

theorem WebE.fut {g0 : G} {w0 : World} {g : G} {wb : Nat} {st sv cv : Value} {L : List Nd} {w : World} (h : WebE g0 w0 g wb st sv cv L w) : Fut g w := by
  obtain ⟨pv, rs, h⟩ := h
  exact h.grow.fut
theorem WebS.kids {g0 : G} {w0 : World} {g g' : G} {wb : Nat} {st sv cv : Value} {L : List Nd} {w w' : World} {pv : Value} {rs : List NRow} (h : WebS g0 w0 g wb st sv cv L w pv rs) (hg : Grow g w g' w') : WebS g0 w0 g' wb st sv cv L w' pv rs := by
  have hlt := lt_of_block h.box
  exact ⟨h.grow.trans hg, h.new, (hg.old wb hlt).trans h.box, ownsRow_same h.own (fun k hk => hg.old k (h.own.lt k hk).2), h.rows.le hg.le, h.ne, hg.new _ h.out.1 hlt, fun k hk => hg.new _ (h.out.2 k hk) (h.own.lt k hk).2⟩
theorem WebE.kids {g0 : G} {w0 : World} {g g' : G} {wb : Nat} {st sv cv : Value} {L : List Nd} {w w' : World} (h : WebE g0 w0 g wb st sv cv L w) (hg : Grow g w g' w') : WebE g0 w0 g' wb st sv cv L w' := by
  obtain ⟨pv, rs, h⟩ := h
  exact ⟨pv, rs, h.kids hg⟩
theorem WebE.alloc {g0 : G} {w0 : World} {g : G} {wb : Nat} {st sv cv : Value} {L : List Nd} {w : World} (h : WebE g0 w0 g wb st sv cv L w) (o : Obj) : WebE g0 w0 g wb st sv cv L (w.alloc o) := h.kids ((Grow.refl h.fut).alloc o)
theorem WebE.drew {g0 : G} {w0 : World} {g : G} {wb : Nat} {st sv cv : Value} {L : List Nd} {w : World} (h : WebE g0 w0 g wb st sv cv L w) : WebE g0 w0 g wb st sv cv L w.drew := h.kids (Grow.refl h.fut).drew

theorem Try.info95 : (Try.prog.info? 95).map (fun i => (i.zero, i.size, i.bytes)) = some (some (.agg #[.slice none 0 0, .int .u64 0, .int .u64 0, .int .u64 0, .int .u64 0, .int .i64 0]), 6, 64) := by kernel_rfl

/-- Behind place's append. -/
theorem place_meet {g0 : G} {w0 : World} {g : G} {wb : Nat} {st sv cv : Value} {L : List Nd} {W w1 : World} {pv : Value} {rs : List NRow} {r : NRow} {x : Nd} {o : Obj} {kb kcap : Nat} (h : WebS g0 w0 g wb st sv cv L W pv rs) (hx : NodeOk g r x)
    (hG : (W.alloc o).drew.grownBy w1 pv.ownBlock) (hO : w1.ownsRow w0.heap.size 95 6 (.slice (some ⟨kb, 0, none⟩) (L.length + 1) kcap) (L.length + 1) (nodesCells rs ++ r.cells))
    (hA : pv.ownBlock = some kb ∨ kb = (W.alloc o).drew.heap.size) :
    WebS g0 w0 g wb st sv cv (L ++ [x]) (w1.setCell ⟨wb, 0, none⟩ (.slice (some ⟨kb, 0, none⟩) (L.length + 1) kcap)) (.slice (some ⟨kb, 0, none⟩) (L.length + 1) kcap) (rs ++ [r]) := by
  have hlt := lt_of_block h.box
  have hkb : kb ≠ wb ∧ g.blk kb = none := by
    rcases hA with h1 | h1
    · exact ⟨fun e => h.ne (by rw [h1, e]), h.out.2 kb h1⟩
    · have e : (W.alloc o).drew.heap.size = W.heap.size + 1 := World.size_alloc _ _
      exact ⟨by omega, h.grow.fut.none_of_size (by omega)⟩
  have h1 : w1.heap[wb]? = some (.cells #[pv, st, sv, cv] 75) :=
    (hG.block wb (by show wb < (W.alloc o).heap.size; simp; omega) (fun e => h.ne e.symm)).trans ((Below.heap_alloc _ _ _ hlt).trans h.box)
  refine ⟨(((h.grow.alloc o).drew).grown hG (fun k hk => ⟨(h.own.lt k hk).1, h.out.2 k hk⟩)).setCell (a := ⟨wb, 0, none⟩) h.out.1 h.new _, h.new, heap_setCell_same h1 _, ?_, h.rows.snoc hx, ?_, h.out.1, ?_⟩
  · rw [nodesCells_append, show nodesCells [r] = r.cells by simp [nodesCells], List.length_append]
    exact ownsRow_setCell_ne hO (by simp [Value.ownBlock]; exact hkb.1) _
  · simp [Value.ownBlock]; exact hkb.1
  · intro k hk
    simp only [Value.ownBlock, Option.some.injEq] at hk
    subst hk
    exact hkb.2

set_option maxRecDepth 100000 in
set_option maxHeartbeats 2000000 in
theorem place_any {g0 : G} {w0 : World} {g : G} {wb : Nat} {st sv cv : Value} {L : List Nd} {w : World} (h : WebE g0 w0 g wb st sv cv L w) (hL : L.length ≤ 100000) {r : NRow} {x : Nd} (hx : NodeOk g r x) :
    Calls Try.prog 69 #[.pointer (some ⟨wb, 0, none⟩), r.val] w fun e w' => e = .returned (.int .i64 L.length) ∧ WebE g0 w0 g wb st sv cv (L ++ [x]) w' := by
  obtain ⟨pv, rs, h⟩ := h
  have hA := h.kids ((Grow.refl h.grow.fut).alloc (.cells #[.slice r.a r.n r.c, .int .u64 r.s.a, .int .u64 r.s.b, .int .u64 r.s.c, .int .u64 r.s.d, .int .i64 r.nx] 95))
  have hbx := heap_alloc_new w (.cells #[.slice r.a r.n r.c, .int .u64 r.s.a, .int .u64 r.s.b, .int .u64 r.s.c, .int .u64 r.s.d, .int .i64 r.nx] 95)
  have hsz : (w.alloc (.cells #[.slice r.a r.n r.c, .int .u64 r.s.a, .int .u64 r.s.b, .int .u64 r.s.c, .int .u64 r.s.d, .int .i64 r.nx] 95)).heap.size = w.heap.size + 1 := World.size_alloc _ _
  have hneb : some w.heap.size ≠ pv.ownBlock := fun e => by have := (h.own.lt _ e.symm).2; omega
  clear h
  generalize hW : w.alloc (.cells #[.slice r.a r.n r.c, .int .u64 r.s.a, .int .u64 r.s.b, .int .u64 r.s.c, .int .u64 r.s.d, .int .i64 r.nx] 95) = W at hA hbx hsz
  have hlt := lt_of_block hA.box
  have hltb := lt_of_block hbx
  have hne : some wb ≠ pv.ownBlock := fun e => hA.ne e.symm
  obtain ⟨po, pc, rfl⟩ := own_shape hA.own
  have t0 := heap_cell hA.box 0 _ rfl
  have b0 := heap_cell hbx 0 _ rfl
  have b1 := heap_cell hbx 1 _ rfl
  have b2 := heap_cell hbx 2 _ rfl
  have b3 := heap_cell hbx 3 _ rfl
  have b4 := heap_cell hbx 4 _ rfl
  have b5 := heap_cell hbx 5 _ rfl
  have z0 := heap_free hA.box 0
  have HA := hid hA
  have HX := hid hx
  have HLT := hid hlt
  have HLB := hid hltb
  have HNE := hid hne
  have HSZ := hid hsz
  have HL := hid hL
  clear hA hx hlt hltb hne hneb hbx hsz hL
  obtain ⟨i0, hi, hz0, hz1, hz2⟩ := info_parts Try.info95
  unfold NRow.val
  go_enter Try.func69, Try.ntmps69
  go_wp2_with fail
  have t0A : ∀ o, (W.alloc o).cell? ⟨wb, 0, none⟩ = some (.slice po L.length pc) := fun o => (World.cell?_alloc_lt _ _ _ HLT.out).trans t0
  have HZ := hid (heap_alloc_new W.drew (.cells #[.slice r.a r.n r.c, .int .u64 r.s.a, .int .u64 r.s.b, .int .u64 r.s.c, .int .u64 r.s.d, .int .i64 r.nx] 95))
  go_region_law (first | (refine step_append_lies _ rfl (.tmp 9) (.tmp 11) 72 rfl w0.heap.size 95 i0 (.agg #[.slice none 0 0, .int .u64 0, .int .u64 0, .int .u64 0, .int .u64 0, .int .i64 0]) 6 64 Try.underlying72 hi hz0 hz1 hz2 rfl (by decide) _ L.length (nodesCells rs) rfl (HA.out.own.alloc _).drew ⟨W.heap.size, 0, none⟩ 1 1 r.cells rfl rfl (World.news_of_block HZ.out) (by simp [NRow.cells, Value.oneCell']) (by decide) (by have := HL.out; unfold maxLen; omega) (by have := HL.out; omega) (by have := HA.out.grow.size; simp; omega) _ rfl ?_; intro kb kcap w1 hown1 hgrow1 hat1 hlt1; have HG1 := hid hgrow1; have HO1 := hid hown1; have HAT1 := hid hat1; have fz1 : w1.frozen? ⟨wb, 0, none⟩ = false := (hgrow1.frozen_far _ (by simp; exact Nat.lt_succ_of_lt HLT.out) HNE.out).trans ((World.frozen?_alloc_old _ _ _ (Nat.ne_of_lt HLT.out)).trans (heap_free HA.out.box 0)); have tz1 : w1.cell? ⟨wb, 0, none⟩ = some (.slice po L.length pc) := (hgrow1.cell_far _ (by simp; exact Nat.lt_succ_of_lt HLT.out) HNE.out).trans ((World.cell?_alloc_lt _ _ _ HLT.out).trans t0); clear hgrow1 hown1 hat1))
  all_goals
    have hm := place_meet HA.out HX.out HG1.out HO1.out HAT1.out
    have p0 := heap_cell hm.box 0 _ rfl
    have HM := hid hm
    clear hm
    go_wp2_with fail
    go_ret
    exact ⟨ret_int (wrap64_in _ (by have h := HL.out; omega)), _, _, HM.out⟩
end Go.Proofs.Ytjodmimnbpgfcaa
