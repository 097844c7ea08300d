/- Values in memory; the state that every's maker turns; what functions handed in do. A library text: no claim is stated here. Slices of values: their cells; slices.Clone of them. A library text: no claim is stated here. -/
import Derived.Test.YtjodmimnbpgfcaaS09
import Derived.Test.YtjodmimnbpgfcaaS01
import Derived.Deep.RegionLaw
import Derived.Deep.AppendLies
import Derived.WalkSpells

/- Sys -/
namespace Go.Proofs.Ytjodmimnbpgfcaa
open Go.RowKit Go.IntWalk

/-- A value's own cells. -/
structure VRow where
  k : Int
  b : Int
  a : Option Addr
  len : Nat
  cap : Nat

def VRow.val (r : VRow) : Value := .agg #[.int .i64 r.k, .int .u8 r.b, .slice r.a r.len r.cap]
def VRow.cells (r : VRow) : List Value := [.int .i64 r.k, .int .u8 r.b, .slice r.a r.len r.cap]

structure VCells (g : G) (b off : Nat) (r : VRow) : Prop where
  c0 : ∀ w, Fut g w → w.cell? ⟨b, off, none⟩ = some (.int .i64 r.k)
  c1 : ∀ w, Fut g w → w.cell? ⟨b, off + 1, none⟩ = some (.int .u8 r.b)
  c2 : ∀ w, Fut g w → w.cell? ⟨b, off + 2, none⟩ = some (.slice r.a r.len r.cap)

theorem VCells.le {g g' : G} {b off : Nat} {r : VRow} (h : VCells g b off r) (k : g.Le g') : VCells g' b off r :=
  ⟨fun w hw => h.c0 w (hw.le k), fun w hw => h.c1 w (hw.le k), fun w hw => h.c2 w (hw.le k)⟩

inductive ValV (g : G) : VRow → Val → Prop
  | nil (k b : Int) : ValV g ⟨k, b, none, 0, 0⟩ (.mk k b [])
  | row (k b : Int) (blk off cap : Nat) (l : List Val) (f : Nat → VRow) (hpos : 0 < l.length) (hcap : l.length ≤ cap) (hm : cap ≤ 9223372036854775807)
      (hc : ∀ i, i < l.length → VCells g blk (off + i * 3) (f i)) (hr : ∀ i (h : i < l.length), ValV g (f i) l[i]) :
      ValV g ⟨k, b, some ⟨blk, off, none⟩, l.length, cap⟩ (.mk k b l)

theorem ValV.le {g g' : G} {r : VRow} {v : Val} (h : ValV g r v) (k : g.Le g') : ValV g' r v := by
  induction h with
  | nil k b => exact .nil k b
  | row k b blk off cap l f hpos hcap hm hc _ ih => exact .row k b blk off cap l f hpos hcap hm (fun i hi => (hc i hi).le ‹_›) ih

/-- The same list under another head. -/
theorem ValV.head {g : G} {k b : Int} {a : Option Addr} {n c : Nat} {l : List Val} {k' b' : Int} (h : ValV g ⟨k, b, a, n, c⟩ (.mk k b l)) : ValV g ⟨k', b', a, n, c⟩ (.mk k' b' l) := by
  cases h with
  | nil => exact .nil k' b'
  | row _ _ blk off _ _ f hpos hcap hm hc hr => exact .row k' b' blk off _ _ f hpos hcap hm hc hr

/-- A slice of values. -/
def ValsV (g : G) (a : Option Addr) (n c : Nat) (l : List Val) : Prop := ValV g ⟨0, 0, a, n, c⟩ (.mk 0 0 l)

theorem ValV.one {g : G} {r : VRow} {v : Val} {b : Nat} (h : ValV g r v) (hb : g.blk b = some (.cells #[.int .i64 r.k, .int .u8 r.b, .slice r.a r.len r.cap] 48)) (k b' : Int) :
    ValV g ⟨k, b', some ⟨b, 0, none⟩, 1, 1⟩ (.mk k b' [v]) := by
  refine .row k b' b 0 1 [v] (fun _ => r) (by simp) (by simp) (by omega) (fun i hi => ?_) (fun i hi => ?_)
  · obtain rfl : i = 0 := by simpa using hi
    exact ⟨fut_cell hb 0 _ rfl, fut_cell hb 1 _ rfl, fut_cell hb 2 _ rfl⟩
  · obtain rfl : i = 0 := by simpa using hi
    exact h
theorem ValV.two {g : G} {r q : VRow} {v u : Val} {b : Nat} (h : ValV g r v) (h' : ValV g q u) (hb : g.blk b = some (.cells #[.int .i64 r.k, .int .u8 r.b, .slice r.a r.len r.cap, .int .i64 q.k, .int .u8 q.b, .slice q.a q.len q.cap] 48)) (k b' : Int) :
    ValV g ⟨k, b', some ⟨b, 0, none⟩, 2, 2⟩ (.mk k b' [v, u]) := by
  refine .row k b' b 0 2 [v, u] (fun i => if i = 0 then r else q) (by simp) (by simp) (by omega) (fun i hi => ?_) (fun i hi => ?_)
  · have : i = 0 ∨ i = 1 := by simp at hi; omega
    rcases this with rfl | rfl
    · exact ⟨fut_cell hb 0 _ rfl, fut_cell hb 1 _ rfl, fut_cell hb 2 _ rfl⟩
    · exact ⟨fut_cell hb 3 _ rfl, fut_cell hb 4 _ rfl, fut_cell hb 5 _ rfl⟩
  · have : i = 0 ∨ i = 1 := by simp at hi; omega
    rcases this with rfl | rfl
    · exact h
    · exact h'

/-- The blocks of M, and new ones, may turn. -/
structure IStep (g : G) (M : Nat → Prop) (w : World) (g' : G) (M' : Nat → Prop) (w' : World) : Prop where
  step : Step M g w g' w'
  sub : ∀ b, M' b → M b ∨ w.heap.size ≤ b

theorem IStep.trans {g1 g2 g3 : G} {M1 M2 M3 : Nat → Prop} {w1 w2 w3 : World} (h : IStep g1 M1 w1 g2 M2 w2) (k : IStep g2 M2 w2 g3 M3 w3) : IStep g1 M1 w1 g3 M3 w3 :=
  ⟨h.step.trans k.step h.sub, fun b hb => by
    rcases k.sub b hb with h1 | h1
    · exact h.sub b h1
    · exact .inr (Nat.le_trans h.step.size h1)⟩
theorem Grow.istep {g g' : G} {w w' : World} (h : Grow g w g' w') (M : Nat → Prop) : IStep g M w g' M w' := ⟨h.step M, fun _ hb => .inl hb⟩
theorem IStep.le {g g' : G} {M M' : Nat → Prop} {w w' : World} (h : IStep g M w g' M' w') : g.Le g' := h.step.le

abbrev Inv (σ : Type) := G → (Nat → Prop) → σ → World → Prop

def IPost {σ : Type} (I : Inv σ) (g : G) (M : Nat → Prop) (w : World) (b : Bool) (s : σ) (e : Ending) (w' : World) : Prop := e = .returned (.bool b) ∧ ∃ g' M', IStep g M w g' M' w' ∧ I g' M' s w'
def TPost {σ : Type} (I : Inv σ) (live : σ → Prop) (g : G) (M : Nat → Prop) (w : World) (p : Bool × σ) (e : Ending) (w' : World) : Prop :=
  e = .returned (.bool p.1) ∧ ∃ g' M', IStep g M w g' M' w' ∧ I g' M' p.2 w' ∧ (p.1 = true → live p.2)

/-- The state that the maker turns. -/
structure Sys {σ : Type} (T : Tab) (g0 : G) (mb : Nat) (I : Inv σ) : Prop where
  fut : ∀ {g M s w}, I g M s w → Fut g w
  step : ∀ {g M s w g' w' N}, I g M s w → Step N g w g' w' → (∀ b, M b → ¬ N b) → I g' M s w'
  keep : ∀ {g M s w b o}, I g M s w → w.heap[b]? = some o → g.blk b = none → ¬ M b → I (g.add b o) M s w
  foot : ∀ {g M s w}, I g M s w → ∀ b, M b → g.blk b = none ∧ b < w.heap.size
  tab : TabP g0 T
  maker : g0.blk mb = some (.cells #[.pointer (some ⟨T.tb, 0, none⟩), .int .i64 (T.s.length : Nat)] 113)
  says : ∀ {g M s w} {i : Nat} {x : Core} {f t : Nat}, g0.Le g → I g M s w → (flatC T.c)[i]? = some x → f ≤ T.s.length → t ≤ T.s.length →
    Calls Try.prog 33 #[.pointer (some ⟨T.tb, 0, none⟩), .int .i64 i, .int .i64 f, .int .i64 t] w (IPost I g M w (endsF T.s x.re f t) s)

theorem Sys.grow {σ : Type} {T : Tab} {g0 : G} {mb : Nat} {I : Inv σ} (h : Sys T g0 mb I) {g : G} {M : Nat → Prop} {s : σ} {w : World} {g' : G} {w' : World} (hI : I g M s w) (hg : Grow g w g' w') : I g' M s w' :=
  h.step hI (hg.step fun _ => False) (fun _ _ => id)

/-- A function value tells of places. -/
def ImplOk {σ : Type} (I : Inv σ) (n : Nat) (g : G) (fv : Value) (ok : Nat → Bool) : Prop :=
  ∃ F caps, fv = .func (.func F) #[] caps ∧ Callable F ∧ ∀ g' M s w t, g.Le g' → I g' M s w → t ≤ n → Calls Try.prog F (#[.int .i64 (t : Nat)] ++ caps) w (IPost I g' M w (ok t) s)
/-- A function value takes values. -/
def ImplTake {σ : Type} (I : Inv σ) (live : σ → Prop) (D : Nat → Prop) (g : G) (fv : Value) (tk : Val → Nat → σ → Bool × σ) : Prop :=
  ∃ F caps, fv = .func (.func F) #[] caps ∧ Callable F ∧ ∀ g' M s w r v t, g.Le g' → I g' M s w → live s → ValV g' r v → D t → Calls Try.prog F (#[r.val, .int .i64 (t : Nat)] ++ caps) w (TPost I live g' M w (tk v t s))

section
variable {σ : Type} {I : Inv σ} {live : σ → Prop} {n : Nat} {g g' : G} {M M' : Nat → Prop} {w w1 : World} {fv : Value}
theorem ImplOk.le {ok : Nat → Bool} (h : ImplOk I n g fv ok) (k : g.Le g') : ImplOk I n g' fv ok := by
  obtain ⟨F, caps, h1, h2, h3⟩ := h
  exact ⟨F, caps, h1, h2, fun g2 M s w t hg => h3 g2 M s w t (k.trans hg)⟩
theorem ImplTake.le {D : Nat → Prop} {tk : Val → Nat → σ → Bool × σ} (h : ImplTake I live D g fv tk) (k : g.Le g') : ImplTake I live D g' fv tk := by
  obtain ⟨F, caps, h1, h2, h3⟩ := h
  exact ⟨F, caps, h1, h2, fun g2 M s w r v t hg => h3 g2 M s w r v t (k.trans hg)⟩
theorem TPost.pre {p : Bool × σ} {e : Ending} {w' : World} (h : TPost I live g' M' w1 p e w') (k : IStep g M w g' M' w1) : TPost I live g M w p e w' := by
  obtain ⟨h1, g2, M2, h2, h3⟩ := h
  exact ⟨h1, g2, M2, k.trans h2, h3⟩
theorem IPost.pre {b : Bool} {s : σ} {e : Ending} {w' : World} (h : IPost I g' M' w1 b s e w') (k : IStep g M w g' M' w1) : IPost I g M w b s e w' := by
  obtain ⟨h1, g2, M2, h2, h3⟩ := h
  exact ⟨h1, g2, M2, k.trans h2, h3⟩
end

/-- A value in its box. -/
theorem box_val {g : G} {w : World} (hw : Fut g w) (r : VRow) : ∃ g1, Grow g w g1 (w.alloc (.cells #[.int .i64 r.k, .int .u8 r.b, .slice r.a r.len r.cap] 48)) ∧
    g1.blk w.heap.size = some (.cells #[.int .i64 r.k, .int .u8 r.b, .slice r.a r.len r.cap] 48) ∧
    (∀ w', Fut g1 w' → w'.cell? ⟨w.heap.size, 0, none⟩ = some (.int .i64 r.k)) ∧ (∀ w', Fut g1 w' → w'.cell? ⟨w.heap.size, 1, none⟩ = some (.int .u8 r.b)) ∧
    (∀ w', Fut g1 w' → w'.cell? ⟨w.heap.size, 2, none⟩ = some (.slice r.a r.len r.cap)) := by
  obtain ⟨g1, h, e1⟩ := box1 hw (.cells #[.int .i64 r.k, .int .u8 r.b, .slice r.a r.len r.cap] 48)
  exact ⟨g1, h, e1, fut_cell e1 0 _ rfl, fut_cell e1 1 _ rfl, fut_cell e1 2 _ rfl⟩

theorem one_any {g : G} (k : Int) (F : Nat) (caps : Array Value) (w : World) (hw : Fut g w) :
    Calls Try.prog 79 #[.int .i64 k, .func (.func F) #[] caps] w fun e w' => ∃ b1 b2 g', e = .returned (.func (.func 87) #[] #[.pointer (some ⟨b2, 0, none⟩), .pointer (some ⟨b1, 0, none⟩)]) ∧ Grow g w g' w' ∧
      g'.blk b1 = some (.cells #[.int .i64 k] 3) ∧ g'.blk b2 = some (.cells #[.func (.func F) #[] caps] 141) := by
  obtain ⟨g1, hg, e1, e2⟩ := box2 hw (.cells #[.int .i64 k] 3) (.cells #[.func (.func F) #[] caps] 141)
  have HG := hid hg
  have HE := hid (And.intro e1 e2)
  clear hg e1 e2
  go_enter Try.func79, Try.ntmps79
  go_wp2
  go_ret
  exact ⟨_, _, g1, rfl, HG.out, HE.out⟩

set_option maxHeartbeats 400000 in
theorem one1_impl {σ : Type} {I : Inv σ} {live : σ → Prop} {T : Tab} {g0 g : G} {mb : Nat} {D : Nat → Prop} (hS : Sys T g0 mb I) {fv : Value} {tk : Val → Nat → σ → Bool × σ} (h : ImplTake I live D g fv tk) (k : Int) {b1 b2 : Nat}
    (hb1 : g.blk b1 = some (.cells #[.int .i64 k] 3)) (hb2 : g.blk b2 = some (.cells #[fv] 141)) :
    ImplTake I live D g (.func (.func 87) #[] #[.pointer (some ⟨b2, 0, none⟩), .pointer (some ⟨b1, 0, none⟩)]) (fun v t s => tk (.mk k 0 [v]) t s) := by
  obtain ⟨F, caps, rfl, hF, hcall⟩ := h
  refine ⟨87, _, rfl, Try.call87, fun g' M s w r v t hle hI hlive hv ht => ?_⟩
  have hw := hS.fut hI
  obtain ⟨g1, hg1, eb, c0, c1, c2⟩ := box_val hw r
  have k1 := fut_cell (hle.blk _ _ hb1) 0 _ rfl
  have k2 := fut_cell (hle.blk _ _ hb2) 0 _ rfl
  have hg2 := hg1.box (.cells #[.int .i64 r.k, .int .u8 r.b, .slice r.a r.len r.cap] 48)
  have heb := G.add_same g1 (w.alloc (.cells #[.int .i64 r.k, .int .u8 r.b, .slice r.a r.len r.cap] 48)).heap.size (.cells #[.int .i64 r.k, .int .u8 r.b, .slice r.a r.len r.cap] 48)
  rw [World.size_alloc] at hg2 heb
  have hv2 := ((hv.le hg2.le).one heb k 0)
  have hcall2 := hcall _ M s _ _ _ t (hle.trans hg2.le) (hS.grow hI hg2) hlive hv2 ht
  have HLE := hid (hg2.istep M)
  have fa := fun o => hw.alloc o
  have fb := fun o o' => (hw.alloc o).alloc o'
  clear hcall hg2 heb hv2 hg1 eb hb1 hb2
  unfold Callable at hF
  unfold VRow.val at *
  simp only [List.append_toArray, List.cons_append, List.nil_append]
  go_enter Try.func87, Try.ntmps87
  go_wp2_with fail
  refine (hcall2.mono ?_)
  rintro e w3 hp
  have HP := hid hp
  obtain ⟨rfl, -⟩ := hp
  go_wp2_with fail
  go_ret
  exact HP.out.pre HLE.out
end Go.Proofs.Ytjodmimnbpgfcaa

/- Vals -/
namespace Go.Proofs.Ytjodmimnbpgfcaa
open Go.RowKit Go.IntWalk

def rowsCells (rs : List VRow) : List Value := rs.flatMap VRow.cells

theorem rowsCells_length (rs : List VRow) : (rowsCells rs).length = rs.length * 3 := by
  induction rs with
  | nil => rfl
  | cons r rs ih =>
    have : (rowsCells (r :: rs)) = r.cells ++ rowsCells rs := rfl
    rw [this, List.length_append, ih, List.length_cons]; simp [VRow.cells]; omega

theorem rowsCells_get : ∀ (rs : List VRow) (i r : Nat), r < 3 → (rowsCells rs)[i * 3 + r]? = (rs[i]?).bind fun x => x.cells[r]?
  | [], i, r, hr => by simp [rowsCells]
  | x :: rs, 0, r, hr => by
    have : (rowsCells (x :: rs)) = x.cells ++ rowsCells rs := rfl
    rw [this, List.getElem?_append_left (by simp [VRow.cells]; omega)]
    simp
  | x :: rs, i + 1, r, hr => by
    have : (rowsCells (x :: rs)) = x.cells ++ rowsCells rs := rfl
    rw [this, List.getElem?_append_right (by simp [VRow.cells]; omega)]
    have e : (i + 1) * 3 + r - x.cells.length = i * 3 + r := by simp [VRow.cells]; omega
    rw [e, rowsCells_get rs i r hr]
    simp

theorem rowsCells_append (a b : List VRow) : rowsCells (a ++ b) = rowsCells a ++ rowsCells b := by simp [rowsCells]

theorem rowsCells_one (rs : List VRow) : ∀ u ∈ rowsCells rs, u.oneCell' = true := by
  intro u hu
  simp only [rowsCells, List.mem_flatMap] at hu
  obtain ⟨r, -, hr⟩ := hu
  simp only [VRow.cells, List.mem_cons, List.not_mem_nil, or_false] at hr
  rcases hr with rfl | rfl | rfl <;> rfl

/-- The rows of values. -/
def RowsV (g : G) (rs : List VRow) (l : List Val) : Prop := rs.length = l.length ∧ ∀ (i : Nat) (r : VRow) (v : Val), rs[i]? = some r → l[i]? = some v → ValV g r v

theorem RowsV.le {g g' : G} {rs : List VRow} {l : List Val} (h : RowsV g rs l) (k : g.Le g') : RowsV g' rs l := ⟨h.1, fun i r v h1 h2 => (h.2 i r v h1 h2).le k⟩
theorem RowsV.snoc {g : G} {rs : List VRow} {l : List Val} (h : RowsV g rs l) {r : VRow} {v : Val} (hv : ValV g r v) : RowsV g (rs ++ [r]) (l ++ [v]) := by
  refine ⟨by simp [h.1], fun i r' v' h1 h2 => ?_⟩
  rcases Nat.lt_trichotomy i rs.length with hi | hi | hi
  · rw [List.getElem?_append_left hi] at h1
    rw [List.getElem?_append_left (by rw [← h.1]; exact hi)] at h2
    exact h.2 i r' v' h1 h2
  · subst hi
    rw [List.getElem?_append_right (Nat.le_refl _)] at h1
    rw [List.getElem?_append_right (by rw [h.1]; exact Nat.le_refl _)] at h2
    simp only [h.1, Nat.sub_self, List.getElem?_cons_zero, Option.some.injEq] at h1 h2
    subst h1 h2
    exact hv
  · rw [List.getElem?_eq_none (by simp; omega)] at h1
    cases h1

theorem ValsV.rows {g : G} {a : Option Addr} {n c : Nat} {l : List Val} (h : ValsV g a n c l) :
    (l = [] ∧ a = none ∧ n = 0 ∧ c = 0) ∨ ∃ b off rs, a = some ⟨b, off, none⟩ ∧ n = l.length ∧ 0 < l.length ∧ RowsV g rs l ∧ ∀ w, Fut g w → ∀ j u, (rowsCells rs)[j]? = some u → w.cell? ⟨b, off + j, none⟩ = some u := by
  unfold ValsV at h
  cases h with
  | nil => exact .inl ⟨rfl, rfl, rfl, rfl⟩
  | row _ _ blk off _ _ f hpos hcap hm hc hr =>
    refine .inr ⟨blk, off, (List.range l.length).map f, rfl, rfl, hpos, ⟨by simp, fun i r v h1 h2 => ?_⟩, fun w hw j u hj => ?_⟩
    · obtain ⟨hi, rfl⟩ := List.getElem?_eq_some_iff.1 h2
      simp only [List.getElem?_map, List.getElem?_range hi, Option.map_some, Option.some.injEq] at h1
      subst h1
      exact hr i hi
    · have e : j = j / 3 * 3 + j % 3 := by omega
      rw [e, rowsCells_get _ _ _ (Nat.mod_lt _ (by omega))] at hj
      simp only [List.getElem?_map] at hj
      by_cases hi : j / 3 < l.length
      · simp only [List.getElem?_range hi, Option.map_some, Option.bind_some] at hj
        have hcc := hc _ hi
        have h3 : j % 3 = 0 ∨ j % 3 = 1 ∨ j % 3 = 2 := by omega
        rcases h3 with h3 | h3 | h3
        · rw [h3] at hj
          simp only [VRow.cells, List.getElem?_cons_zero, Option.some.injEq] at hj
          subst hj
          have := hcc.c0 w hw
          rwa [show off + j = off + j / 3 * 3 by omega]
        · rw [h3] at hj
          simp only [VRow.cells, List.getElem?_cons_succ, List.getElem?_cons_zero, Option.some.injEq] at hj
          subst hj
          have := hcc.c1 w hw
          rwa [show off + j = off + j / 3 * 3 + 1 by omega]
        · rw [h3] at hj
          simp only [VRow.cells, List.getElem?_cons_succ, List.getElem?_cons_zero, Option.some.injEq] at hj
          subst hj
          have := hcc.c2 w hw
          rwa [show off + j = off + j / 3 * 3 + 2 by omega]
      · rw [List.getElem?_eq_none (l := List.range l.length) (by simpa using hi)] at hj
        simp at hj

/-- A row of the call's own becomes persistent. -/
theorem vals_keep {M : Nat → Prop} {g g' : G} {w w' : World} (h : Step M g w g' w') {v : Value} {m base : Nat} {rs : List VRow} {l : List Val} (ho : w'.ownsRow base 48 3 v m (rowsCells rs)) (hk : ∀ k, v.ownBlock = some k → w.heap.size ≤ k ∧ g'.blk k = none) (hr : RowsV g' rs l) (hz : l = [] → v = .slice none 0 0) :
    ∃ g'' a cap, v = .slice a l.length cap ∧ Step M g w g'' w' ∧ g'.Le g'' ∧ ValsV g'' a l.length cap l ∧ ∀ b, g'.blk b = none → v.ownBlock ≠ some b → g''.blk b = none := by
  have hlen : rs.length = m := by have := ho.1; rw [rowsCells_length] at this; omega
  have hlen2 : l.length = m := hr.1.symm.trans hlen
  rcases ho.2 with ⟨rfl, rfl⟩ | ⟨k, cap, cur, rfl, h1, h2, h3, h4, h5, h6⟩
  · have : l = [] := List.eq_nil_of_length_eq_zero hlen2
    subst this
    exact ⟨g', none, 0, rfl, h, G.Le.refl _, .nil 0 0, fun b hb _ => hb⟩
  · obtain ⟨k1, k2⟩ := hk k rfl
    have hm0 : m ≠ 0 := fun e => by have := hz (List.eq_nil_of_length_eq_zero (hlen2.trans e)); simp at this
    refine ⟨g'.add k (.cells cur 48 (0, 0)), some ⟨k, 0, none⟩, cap, by rw [hlen2], h.keep h2 k1 k2, G.le_add k2, ?_, ?_⟩
    · have hb : (g'.add k (.cells cur 48 (0, 0))).blk k = some (.cells cur 48 (0, 0)) := G.add_same _ _ _
      have hget : ∀ j u, (rowsCells rs)[j]? = some u → cur[j]? = some u := fun j u hj => by
        have hi : j < (rowsCells rs).length := (List.getElem?_eq_some_iff.1 hj).1
        rw [rowsCells_length, hlen] at hi
        rw [← h6, List.getElem?_take, if_pos hi] at hj
        simpa using hj
      refine .row 0 0 k 0 cap l (fun i => rs.getD i ⟨0, 0, none, 0, 0⟩) (by omega) (by omega) (by unfold maxLen at h4; omega) (fun i hi => ?_) (fun i hi => ?_)
      · have hi2 : i < rs.length := by omega
        have hg : ∀ r, r < 3 → (rowsCells rs)[i * 3 + r]? = (rs[i]).cells[r]? := fun r hr3 => by
          rw [rowsCells_get rs i r hr3, List.getElem?_eq_getElem hi2]; rfl
        have hd : rs.getD i ⟨0, 0, none, 0, 0⟩ = rs[i] := by simp [List.getD, List.getElem?_eq_getElem hi2]
        rw [hd, Nat.zero_add]
        exact ⟨fut_cell hb _ _ (hget _ _ (hg 0 (by omega))), fut_cell hb _ _ (hget _ _ (hg 1 (by omega))), fut_cell hb _ _ (hget _ _ (hg 2 (by omega)))⟩
      · have hi2 : i < rs.length := by omega
        have hd : rs.getD i ⟨0, 0, none, 0, 0⟩ = rs[i] := by simp [List.getD, List.getElem?_eq_getElem hi2]
        simp only [hd]
        exact (hr.2 i _ _ (List.getElem?_eq_getElem hi2) (List.getElem?_eq_getElem hi)).le (G.le_add k2)
    · intro b hb hne
      have : b ≠ k := fun e => hne (by rw [e]; rfl)
      simp [G.add, this, hb]

theorem Try.info48 : (Try.prog.info? 48).map (fun i => (i.zero, i.size, i.bytes)) = some (some (.agg #[.int .i64 0, .int .u8 0, .slice none 0 0]), 3, 40) := by kernel_rfl

theorem eql_nil41 (a : Option Addr) (n c : Nat) (w : World) : (binOp .eql 41 (.slice a n c) (.slice none 0 0)).run Try.prog w = .ok (.bool a.isNone) w := Lib.run_eql_slice_nil w _ _ a n c 0 0 Try.underlying41

theorem clone_vals {g : G} {a : Option Addr} {n c : Nat} {l : List Val} (h : ValsV g a n c l) (hs : l.length ≤ 100000) (w : World) (hw : Fut g w) :
    Calls Try.prog 90 #[.slice a n c] w fun e w' => ∃ v rs, e = .returned v ∧ Grow g w g w' ∧ w'.ownsRow w.heap.size 48 3 v l.length (rowsCells rs) ∧ RowsV g rs l ∧ (l = [] → v = .slice none 0 0) := by
  have hnil := eql_nil41 a n c
  rcases h.rows with ⟨rfl, rfl, rfl, rfl⟩ | ⟨b, off, rs, rfl, rfl, hpos, hr, hc⟩
  · go_enter Try.func90, Try.ntmps90
    go_wp2_with fail
    go_ret
    exact ⟨_, [], rfl, Grow.refl hw, World.ownsRow_nil _ _ _ _, ⟨rfl, fun i r v h => by simp at h⟩, fun _ => rfl⟩
  · obtain ⟨i0, hi, hz0, hz1, hz2⟩ := info_parts Try.info48
    have hml : l.length ≤ maxLen := by unfold maxLen; omega
    have hown := World.ownsRow_made (base := w.heap.size) (e := 48) (size := 3) w #[] 0 (Nat.le_refl _) (by unfold maxLen; omega) rfl
    have hnews : ∀ j u, (rowsCells rs)[j]? = some u → (w.alloc (.cells #[] 48)).cell? ((⟨b, off, none⟩ : Addr).add j) = some u := fun j u hj => by
      rw [show (⟨b, off, none⟩ : Addr).add j = ⟨b, off + j, none⟩ by unfold Addr.add; split <;> simp_all]; exact hc _ (hw.alloc _) j u hj
    have HR := hid hr
    have HN := hid hnews
    have HO := hid hown
    have hlr : (rowsCells rs).length = l.length * 3 := by rw [rowsCells_length, hr.1]
    clear hr hc hnews hown
    go_enter Try.func90, Try.ntmps90
    go_wp2_with (first | (at_builtin; refine wpList_append_lies _ rfl (.tmp 5) (.tmp 6) 41 rfl w.heap.size 48 i0 (.agg #[.int .i64 0, .int .u8 0, .slice none 0 0]) 3 40 Try.underlying41 hi hz0 hz1 hz2 rfl (by decide) (.slice (some ⟨w.heap.size, 0, none⟩) 0 0) 0 [] rfl HO.out ⟨b, off, none⟩ l.length c (rowsCells rs) rfl hlr HN.out (rowsCells_one rs) hpos (by omega) (by omega) (by simp) _ rfl ?_; intro kb kcap w1 hown1 hgrow1 hat1 hlt1; have HO1 := hid hown1; have HG1 := hid hgrow1; clear hown1 hgrow1 hat1 hlt1))
    go_ret
    refine ⟨_, rs, rfl, ((Grow.refl hw).alloc _).grown HG1.out (fun k hk => ?_), ?_, HR.out, fun e => by subst e; simp at hpos⟩
    · simp [Value.ownBlock] at hk
      subst hk
      exact ⟨Nat.le_refl _, hw.none_of_size (Nat.le_refl _)⟩
    · have := HO1.out
      rwa [Nat.zero_add, List.nil_append] at this
end Go.Proofs.Ytjodmimnbpgfcaa
