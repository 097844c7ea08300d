/- What lang's row leaves of the table. The laws beside the walk. A library text: no claim is stated here. lang's row, walked. A library text: no claim is stated here. -/
import Derived.Test.YtjodmimnbpgfcaaS04
import Derived.Deep.CutBlock
import Derived.Deep.RegionLaw
import Derived.WalkSpells

/- RowLaws -/
namespace Go.Proofs.Ytjodmimnbpgfcaa
open Go.RowKit

structure TStep (T : Tab) (g : G) (w : World) (M : Nat → Prop) (g' : G) (w' : World) (M' : Nat → Prop) : Prop where
  step : Step M g w g' w'
  sub : ∀ b, M' b → M b ∨ w.heap.size ≤ b
  sup : ∀ b, M b → M' b
  stay : ∀ i a n c, w.cell? ⟨T.eb, i, none⟩ = some (.slice (some a) n c) → w'.cell? ⟨T.eb, i, none⟩ = some (.slice (some a) n c)

theorem TStep.refl {T : Tab} {g : G} {w : World} (M : Nat → Prop) (h : Fut g w) : TStep T g w M g w M := ⟨Step.refl M h, fun _ h => .inl h, fun _ h => h, fun _ _ _ _ h => h⟩
theorem TStep.trans {T : Tab} {g1 g2 g3 : G} {w1 w2 w3 : World} {M1 M2 M3 : Nat → Prop} (h : TStep T g1 w1 M1 g2 w2 M2) (k : TStep T g2 w2 M2 g3 w3 M3) : TStep T g1 w1 M1 g3 w3 M3 :=
  ⟨h.step.trans k.step h.sub, fun b hb => by
      rcases k.sub b hb with h1 | h1
      · exact h.sub b h1
      · exact .inr (Nat.le_trans h.step.size h1),
    fun b hb => k.sup b (h.sup b hb), fun i a n c hc => k.stay i a n c (h.stay i a n c hc)⟩
/-- A step that leaves the table's own blocks alone. -/
theorem TStep.of_step {T : Tab} {g g' : G} {w w' : World} {M : Nat → Prop} (h : Step (fun _ => False) g w g' w') (he : T.eb < w.heap.size) : TStep T g w M g' w' M :=
  ⟨h.mono (fun _ hf => hf.elim), fun _ h => .inl h, fun _ h => h, fun i _ _ _ hc => (World.cell?_of_block (w := w) (w' := w') (a := ⟨T.eb, i, none⟩) (h.old T.eb he id)).trans hc⟩

theorem RowOK.le {g g' : G} {M M' : Nat → Prop} {T : Tab} {w w' : World} {x : Core} {v : Value} (h : RowOK g M T w x v) (hle : g.Le g') (hM : ∀ b, M b → M' b) (hb : ∀ b, M b → w'.heap[b]? = w.heap[b]?) : RowOK g' M' T w' x v := by
  rcases h with h | ⟨rb, rs, h1, h2, h3, h4, h5, h6⟩
  · exact .inl h
  · refine .inr ⟨rb, rs, h1, hM _ h2, h3, (hb rb h2).trans h4, h5, fun f u hu => ?_⟩
    rcases h6 f u hu with h | ⟨pb, p, e1, e2, e3⟩
    · exact .inl h
    · exact .inr ⟨pb, p, e1, hle.blk _ _ e2, e3⟩

/-- The table stays a table behind a step that leaves its own blocks alone. -/
theorem TabM.le {g g' : G} {M N : Nat → Prop} {T : Tab} {w w' : World} (h : TabM g M T w) (hs : Step N g w g' w') (hN : ∀ b, M b → ¬ N b) : TabM g' M T w' := by
  obtain ⟨es, h1, h2, h3, h4⟩ := h.ends
  have hb : ∀ b, M b → w'.heap[b]? = w.heap[b]? := fun b hb => hs.old b (h.out b hb).2 (hN b hb)
  refine ⟨⟨es, (hb _ h.eb).trans h1, h2, fun i x v hx hv => (h3 i x v hx hv).le hs.le (fun _ h => h) hb, h4⟩, h.eb, fun b hb => ⟨hs.new b (h.out b hb).1 (h.out b hb).2, Nat.lt_of_lt_of_le (h.out b hb).2 hs.size⟩⟩

theorem flat_lt {c x : Core} {i : Nat} (h : (flatC c)[i]? = some x) : i < nodes c := by
  have := (List.getElem?_eq_some_iff.1 h).1
  rw [flatC_len] at this; exact this

/-- A part's entry. -/
theorem TabM.entry {g : G} {M : Nat → Prop} {T : Tab} {w : World} (h : TabM g M T w) {i : Nat} {x : Core} (hx : (flatC T.c)[i]? = some x) : ∃ v, w.cell? ⟨T.eb, i, none⟩ = some v ∧ w.frozen? ⟨T.eb, i, none⟩ = false ∧ RowOK g M T w x v := by
  obtain ⟨es, h1, h2, h3, h4⟩ := h.ends
  have hi := flat_lt hx
  have hv : es[i]? = some es[i] := Array.getElem?_eq_getElem (by omega)
  exact ⟨es[i], heap_cell h1 i _ hv, heap_free h1 i, h3 i x _ hx hv⟩

/-- A new row of the table's. -/
theorem TabM.newRow {g : G} {M : Nat → Prop} {T : Tab} {w w1 : World} (h : TabM g M T w) (hf : Fut g w) {i : Nat} {x : Core} (hx : (flatC T.c)[i]? = some x) (h0 : w.cell? ⟨T.eb, i, none⟩ = some (.slice none 0 0))
    (hg : w.grownBy w1 none) {rs : Array Value} (hr : w1.heap[w.heap.size]? = some (.cells rs 109)) (hz : rs.size = T.s.length + 1) (hn : ∀ (f : Nat) (u : Value), rs[f]? = some u → u = .pointer none) :
    TStep T g w M g (w1.setCell ⟨T.eb, i, none⟩ (.slice (some ⟨w.heap.size, 0, none⟩) (T.s.length + 1) (T.s.length + 1))) (fun b => M b ∨ b = w.heap.size) ∧
    TabM g (fun b => M b ∨ b = w.heap.size) T (w1.setCell ⟨T.eb, i, none⟩ (.slice (some ⟨w.heap.size, 0, none⟩) (T.s.length + 1) (T.s.length + 1))) ∧
    (w1.setCell ⟨T.eb, i, none⟩ (.slice (some ⟨w.heap.size, 0, none⟩) (T.s.length + 1) (T.s.length + 1))).cell? ⟨T.eb, i, none⟩ = some (.slice (some ⟨w.heap.size, 0, none⟩) (T.s.length + 1) (T.s.length + 1)) := by
  obtain ⟨es, h1, h2, h3, h4⟩ := h.ends
  have hi := flat_lt hx
  have heb := (h.out _ h.eb).2
  have hlt1 : w.heap.size < w1.heap.size := lt_of_block hr
  have hw1 : ∀ b, b < w.heap.size → w1.heap[b]? = w.heap[b]? := fun b hb => hg.block b hb (by simp)
  have hes1 : w1.heap[T.eb]? = some (.cells es 134) := (hw1 _ heb).trans h1
  have hei : es[i]? = some (.slice none 0 0) := by
    have := heap_cell h1 i _ (Array.getElem?_eq_getElem (by omega : i < es.size))
    rw [h0] at this
    rw [Array.getElem?_eq_getElem (by omega : i < es.size)]
    exact this.symm
  generalize hw2 : w1.setCell ⟨T.eb, i, none⟩ (.slice (some ⟨w.heap.size, 0, none⟩) (T.s.length + 1) (T.s.length + 1)) = w2
  have hes2 : w2.heap[T.eb]? = some (.cells (es.setIfInBounds i (.slice (some ⟨w.heap.size, 0, none⟩) (T.s.length + 1) (T.s.length + 1))) 134) := by rw [← hw2]; exact heap_setCell_same hes1 _
  have ho2 : ∀ b, b ≠ T.eb → w2.heap[b]? = w1.heap[b]? := fun b hb => by rw [← hw2]; exact Below.heap_setCell _ _ _ _ hb
  have hstep : Step M g w g w2 := by
    rw [← hw2]
    exact ((Step.refl M hf).grown hg (by intro k hk; cases hk)).setCell (h.out _ h.eb).1 (.inl h.eb) _
  have hcell : ∀ j v, (es.setIfInBounds i (.slice (some ⟨w.heap.size, 0, none⟩) (T.s.length + 1) (T.s.length + 1)))[j]? = some v → (j = i ∧ v = .slice (some ⟨w.heap.size, 0, none⟩) (T.s.length + 1) (T.s.length + 1)) ∨ (j ≠ i ∧ es[j]? = some v) := by
    intro j v hv
    rw [Array.getElem?_setIfInBounds] at hv
    by_cases e : i = j
    · subst e
      rw [if_pos rfl, if_pos (by omega)] at hv
      exact .inl ⟨rfl, (Option.some.inj hv).symm⟩
    · rw [if_neg e] at hv
      exact .inr ⟨Ne.symm e, hv⟩
  refine ⟨⟨hstep, ?_, fun b hb => .inl hb, ?_⟩, ⟨⟨_, hes2, by simpa using h2, ?_, ?_⟩, .inl h.eb, ?_⟩, ?_⟩
  · rintro b (hb | rfl)
    · exact .inl hb
    · exact .inr (Nat.le_refl _)
  · intro j a n c hc
    have hj : es[j]? = some (.slice (some a) n c) := by
      simp only [World.cell?, h1] at hc
      simpa using hc
    have hne : j ≠ i := fun e => by subst e; rw [hei] at hj; simp at hj
    refine heap_cell hes2 j _ ?_
    rw [Array.getElem?_setIfInBounds, if_neg (Ne.symm hne)]
    exact hj
  · intro j y v hy hv
    rcases hcell j v hv with ⟨rfl, rfl⟩ | ⟨hne, hv'⟩
    · exact .inr ⟨w.heap.size, rs, rfl, .inr rfl, by omega, (ho2 _ (by omega)).trans hr, hz, fun f u hu => .inl (hn f u hu)⟩
    · have hro := h3 j y v hy hv'
      rcases hro with e | ⟨rb, rs', e1, e2, e3, e4, e5, e6⟩
      · exact .inl e
      · exact .inr ⟨rb, rs', e1, .inl e2, e3, (ho2 _ e3).trans ((hw1 _ (h.out _ e2).2).trans e4), e5, e6⟩
  · intro j k rb n1 c1 n2 c2 hj hk
    have hold : ∀ (j n c : Nat), es[j]? = some (Value.slice (some ⟨w.heap.size, 0, none⟩) n c) → False := by
      intro j n c hj
      have hjx : ∃ y, (flatC T.c)[j]? = some y := by
        have := (Array.getElem?_eq_some_iff.1 hj).1
        exact ⟨_, List.getElem?_eq_getElem (by rw [flatC_len]; omega)⟩
      obtain ⟨y, hy⟩ := hjx
      rcases h3 j y _ hy hj with e | ⟨rb, rs', e1, e2, _⟩
      · simp at e
      · simp at e1
        obtain ⟨⟨rfl, _⟩, _⟩ := e1
        have := (h.out _ e2).2
        omega
    rcases hcell j _ hj with ⟨e, e1⟩ | ⟨hne, hj'⟩ <;> rcases hcell k _ hk with ⟨f, f1⟩ | ⟨hne', hk'⟩
    · omega
    · simp at e1
      obtain ⟨rfl, _⟩ := e1
      exact (hold _ _ _ hk').elim
    · simp at f1
      obtain ⟨rfl, _⟩ := f1
      exact (hold _ _ _ hj').elim
    · exact h4 j k rb n1 c1 n2 c2 hj' hk'
  · have hsz : w2.heap.size = w1.heap.size := by rw [← hw2]; simp
    rintro b (hb | rfl)
    · have := h.out b hb
      exact ⟨this.1, by omega⟩
    · exact ⟨hf.none_of_size (Nat.le_refl _), by omega⟩
  · refine heap_cell hes2 i _ ?_
    rw [Array.getElem?_setIfInBounds, if_pos rfl, if_pos (by omega)]

/-- An entry of a row becomes what it is to be. -/
theorem TabM.store {g : G} {M : Nat → Prop} {T : Tab} {w : World} (h : TabM g M T w) {i : Nat} {x : Core} (hx : (flatC T.c)[i]? = some x) {rb : Nat}
    (h0 : w.cell? ⟨T.eb, i, none⟩ = some (.slice (some ⟨rb, 0, none⟩) (T.s.length + 1) (T.s.length + 1))) {f pb : Nat} {p : Nat → Nat} (hp : w.heap[pb]? = some (.cells (placesV p) 136)) (hpn : g.blk pb = none) (hpM : ¬ M pb)
    (hR : PlacesRep p (endsF T.s x.re f)) {w0 : World} {M0 : Nat → Prop} {g0 : G} (hpw : w0.heap.size ≤ pb) (hst : TStep T g0 w0 M0 g w M) :
    TStep T g0 w0 M0 (g.add pb (.cells (placesV p) 136)) (w.setCell ⟨rb, f, none⟩ (.pointer (some ⟨pb, 0, none⟩))) M ∧ TabM (g.add pb (.cells (placesV p) 136)) M T (w.setCell ⟨rb, f, none⟩ (.pointer (some ⟨pb, 0, none⟩))) := by
  obtain ⟨es, h1, h2, h3, h4⟩ := h.ends
  have hi := flat_lt hx
  have hei : es[i]? = some (.slice (some ⟨rb, 0, none⟩) (T.s.length + 1) (T.s.length + 1)) := by
    simp only [World.cell?, h1] at h0
    simpa using h0
  obtain ⟨rs, e2, e3, e4, e5, e6⟩ : ∃ rs, M rb ∧ rb ≠ T.eb ∧ w.heap[rb]? = some (.cells rs 109) ∧ rs.size = T.s.length + 1 ∧ ∀ (f : Nat) (u : Value), rs[f]? = some u → EntryOK g T x f u := by
    rcases h3 i x _ hx hei with e | ⟨rb', rs, e1, e2, e3, e4, e5, e6⟩
    · simp at e
    · simp at e1
      subst e1
      exact ⟨rs, e2, e3, e4, e5, e6⟩
  have hle : g.Le (g.add pb (.cells (placesV p) 136)) := G.le_add hpn
  have hpr : pb ≠ rb := fun e => hpM (e ▸ e2)
  have ho : ∀ b, b ≠ rb → (w.setCell ⟨rb, f, none⟩ (.pointer (some ⟨pb, 0, none⟩))).heap[b]? = w.heap[b]? := fun b hb => Below.heap_setCell _ _ _ _ hb
  have hrs2 := heap_setCell_same (i := f) e4 (.pointer (some ⟨pb, 0, none⟩))
  have hMr : M0 rb ∨ w0.heap.size ≤ rb := hst.sub rb e2
  have hstep : Step M0 g0 w0 (g.add pb (.cells (placesV p) 136)) (w.setCell ⟨rb, f, none⟩ (.pointer (some ⟨pb, 0, none⟩))) :=
    (hst.step.setCell (a := ⟨rb, f, none⟩) (h.out _ e2).1 hMr _).keep ((ho pb hpr).trans hp) hpw hpn
  have hent : ∀ y f v, EntryOK g T y f v → EntryOK (g.add pb (.cells (placesV p) 136)) T y f v := by
    rintro y f v (e | ⟨pb', p', a1, a2, a3⟩)
    · exact .inl e
    · exact .inr ⟨pb', p', a1, hle.blk _ _ a2, a3⟩
  refine ⟨⟨hstep, hst.sub, hst.sup, ?_⟩, ⟨⟨es, (ho _ (Ne.symm e3)).trans h1, h2, ?_, h4⟩, h.eb, ?_⟩⟩
  · intro j a n c hc
    exact (World.cell?_of_block (w := w) (a := ⟨T.eb, j, none⟩) (ho _ (Ne.symm e3))).trans (hst.stay j a n c hc)
  · intro j y v hy hv
    rcases h3 j y v hy hv with e | ⟨rb', rs', a1, a2, a3, a4, a5, a6⟩
    · exact .inl e
    · by_cases e : rb' = rb
      · subst e
        have hji : j = i := h4 j i rb' _ _ _ _ (by rw [hv, a1]) hei
        subst hji
        have hxy : y = x := by rw [hy] at hx; exact Option.some.inj hx
        subst hxy
        have : rs' = rs := by rw [e4] at a4; simp at a4; exact a4.symm
        subst this
        refine .inr ⟨rb', _, a1, a2, a3, hrs2, by simpa using a5, fun f' u hu => ?_⟩
        rw [Array.getElem?_setIfInBounds] at hu
        by_cases ef : f = f'
        · subst ef
          rw [if_pos rfl] at hu
          split at hu
          · exact .inr ⟨pb, p, (Option.some.inj hu).symm, G.add_same _ _ _, hR⟩
          · cases hu
        · rw [if_neg ef] at hu
          exact hent _ _ _ (a6 f' u hu)
      · exact .inr ⟨rb', rs', a1, a2, a3, (ho _ e).trans a4, a5, fun f' u hu => hent _ _ _ (a6 f' u hu)⟩
  · intro b hb
    have := h.out b hb
    have hne : b ≠ pb := fun e => hpM (e ▸ hb)
    exact ⟨by simp [G.add, hne, this.1], by simpa using this.2⟩

theorem TStep.drew {T : Tab} {g g' : G} {w w' : World} {M M' : Nat → Prop} (h : TStep T g w M g' w' M') : TStep T g w M g' w'.drew M' := ⟨h.step.drew, h.sub, h.sup, h.stay⟩
theorem TabM.drew {g : G} {M : Nat → Prop} {T : Tab} {w : World} (h : TabM g M T w) : TabM g M T w.drew := ⟨h.ends, h.eb, h.out⟩

/-- An entry of a part's row. -/
theorem TabM.cell {g : G} {M : Nat → Prop} {T : Tab} {w : World} (h : TabM g M T w) {i : Nat} {x : Core} (hx : (flatC T.c)[i]? = some x) {rb : Nat}
    (h0 : w.cell? ⟨T.eb, i, none⟩ = some (.slice (some ⟨rb, 0, none⟩) (T.s.length + 1) (T.s.length + 1))) {f : Nat} (hf : f ≤ T.s.length) :
    ∃ u, w.cell? ⟨rb, f, none⟩ = some u ∧ w.frozen? ⟨rb, f, none⟩ = false ∧ EntryOK g T x f u ∧ M rb := by
  obtain ⟨v, hv, _, hro⟩ := h.entry hx
  rw [h0] at hv
  obtain rfl := Option.some.inj hv
  rcases hro with e | ⟨rb', rs, e1, e2, e3, e4, e5, e6⟩
  · simp at e
  · simp at e1
    subst e1
    have hu : rs[f]? = some rs[f] := Array.getElem?_eq_getElem (by omega)
    exact ⟨rs[f], heap_cell e4 f _ hu, heap_free e4 f, e6 f _ hu, e2⟩

def RowPost (g : G) (w : World) (M : Nat → Prop) (T : Tab) (x : Core) (f : Nat) (e : Ending) (w' : World) : Prop :=
  ∃ g' M' pb p, e = .returned (.pointer (some ⟨pb, 0, none⟩)) ∧ TStep T g w M g' w' M' ∧ TabM g' M' T w' ∧ g'.blk pb = some (.cells (placesV p) 136) ∧ PlacesRep p (endsF T.s x.re f)

/-- The places that row gathers, in a block of its own, while the table goes on. -/
structure Acc (T : Tab) (g : G) (wc : World) (M1 : Nat → Prop) (pk : Nat) (S : Nat → Bool) (g2 : G) (M2 : Nat → Prop) (wd : World) : Prop where
  st : TStep T g wc M1 g2 wd M2
  tab : TabM g2 M2 T wd
  pl : ∃ p, wd.heap[pk]? = some (.cells (placesV p) 136) ∧ PlacesRep p S
  nm : ¬ M2 pk
  ng : g2.blk pk = none
  old : wc.heap.size ≤ pk

section
variable {T : Tab} {g g2 g3 : G} {wc wd we : World} {M1 M2 M3 : Nat → Prop} {pk : Nat} {S R : Nat → Bool}

theorem Acc.of (h : Acc T g wc M1 pk S g2 M2 wd) (e : ∀ i, S i = R i) : Acc T g wc M1 pk R g2 M2 wd := by
  have : S = R := funext e
  rw [← this]; exact h
theorem Acc.fut (h : Acc T g wc M1 pk S g2 M2 wd) : Fut g wd := h.st.step.fut.le h.st.step.le

/-- The walk's own memory beside. -/
theorem Acc.own (h : Acc T g wc M1 pk S g2 M2 wd) (hs : Step (fun b => b = pk) g2 wd g2 we) (hp : ∃ p, we.heap[pk]? = some (.cells (placesV p) 136) ∧ PlacesRep p R) : Acc T g wc M1 pk R g2 M2 we := by
  have hM : ∀ b, M2 b → ¬ b = pk := fun b hb e => h.nm (e ▸ hb)
  have heb := (h.tab.out _ h.tab.eb).2
  refine ⟨⟨h.st.step.trans hs (fun b hb => .inr (by rw [hb]; exact h.old)), h.st.sub, h.st.sup, fun i a n c hc => ?_⟩, h.tab.le hs hM, hp, h.nm, h.ng, h.old⟩
  exact (World.cell?_of_block (w := wd) (a := ⟨T.eb, i, none⟩) (hs.old T.eb heb (hM _ h.tab.eb))).trans (h.st.stay i a n c hc)

theorem Acc.post {e : Ending} (h : Acc T g wc M1 pk S g2 M2 wd) (hp : PlPost wd pk 136 R e we) : Acc T g wc M1 pk R g2 M2 we := by
  obtain ⟨-, p, h1, h2, h3⟩ := hp
  exact h.own ((Step.refl _ h.st.step.fut).grown h2 (fun k hk => by obtain rfl := Option.some.inj hk; exact ⟨.inl rfl, h.ng⟩)) ⟨p, h1, h3⟩

theorem Acc.drewN (h : Acc T g wc M1 pk S g2 M2 wd) (n : Nat) : Acc T g wc M1 pk S g2 M2 (wd.drewN n) := h.own ((Step.refl _ h.st.step.fut).drewN n) h.pl
theorem Acc.grow (h : Acc T g wc M1 pk S g2 M2 wd) (hg : Grow g wd g we) : Acc T g wc M1 pk S g2 M2 we := by
  have hlt : pk < wd.heap.size := by obtain ⟨p, hp, _⟩ := h.pl; exact lt_of_block hp
  refine h.own ⟨G.Le.refl _, ⟨hg.fut.os.trans h.st.step.le.os.symm, hg.fut.out.trans h.st.step.le.out.symm, fun b o hb => ?_⟩, hg.size, fun b hb _ => hg.old b hb, fun _ hb _ => hb⟩ ?_
  · exact (hg.old b (h.st.step.fut.lt hb)).trans (h.st.step.fut.blk b o hb)
  · obtain ⟨p, h1, h2⟩ := h.pl
    exact ⟨p, (hg.old _ hlt).trans h1, h2⟩

theorem Acc.call {y : Core} {f : Nat} {e : Ending} (h : Acc T g wc M1 pk S g2 M2 wd) (hr : RowPost g2 wd M2 T y f e we) :
    ∃ g3 M3 pb q, e = .returned (.pointer (some ⟨pb, 0, none⟩)) ∧ Acc T g wc M1 pk S g3 M3 we ∧ g3.blk pb = some (.cells (placesV q) 136) ∧ PlacesRep q (endsF T.s y.re f) ∧ pb ≠ pk ∧ g2.Le g3 := by
  obtain ⟨g3, M3, pb, q, he, hst, htab, hb, hq⟩ := hr
  obtain ⟨p, h1, h2⟩ := h.pl
  have hlt := lt_of_block h1
  have hn : g3.blk pk = none := hst.step.new pk h.ng hlt
  refine ⟨g3, M3, pb, q, he, ⟨h.st.trans hst, htab, ⟨p, (hst.step.old pk hlt h.nm).trans h1, h2⟩, fun hm => ?_, hn, h.old⟩, hb, hq, fun e => ?_, hst.step.le⟩
  · rcases hst.sub pk hm with e | e
    · exact h.nm e
    · omega
  · rw [e, hn] at hb; cases hb
end

theorem rep_zero : PlacesRep (fun _ => 0) (fun _ => false) := ⟨fun _ _ => by decide, fun i _ => by simp [hasP]⟩

def bothUpto (A : Nat → Bool) (E : Nat → Nat → Bool) (f k : Nat) : Nat → Bool := (List.range' f (k - f)).foldl (bothStep A E) (fun _ => false)
theorem bothUpto_succ (A : Nat → Bool) (E : Nat → Nat → Bool) {f k : Nat} (h : f ≤ k) : bothUpto A E f (k + 1) = bothStep A E (bothUpto A E f k) k := by
  unfold bothUpto
  rw [show k + 1 - f = (k - f) + 1 by omega, List.range'_1_concat, List.foldl_append, show f + (k - f) = k by omega]
  rfl
def starUpto (E : Nat → Nat → Bool) (f k : Nat) : Nat → Bool := (List.range' f (k - f)).foldl (starStep E) (fun j => j == f)
theorem starUpto_succ (E : Nat → Nat → Bool) {f k : Nat} (h : f ≤ k) : starUpto E f (k + 1) = starStep E (starUpto E f k) k := by
  unfold starUpto
  rw [show k + 1 - f = (k - f) + 1 by omega, List.range'_1_concat, List.foldl_append, show f + (k - f) = k by omega]
  rfl

theorem SliceV.get {g : G} {a : Option Addr} {n c : Nat} {vs : List Value} (h : SliceV g a n c vs) {i : Nat} (hi : i < vs.length) : ∃ b off, a = some ⟨b, off, none⟩ ∧ ∀ j v, vs[j]? = some v → ∀ w, Fut g w → w.cell? ⟨b, off + j, none⟩ = some v := by
  cases h with
  | nil => simp at hi
  | row b off _ _ hcap hm hc => exact ⟨b, off, rfl, fun j v hv w hw => hc w hw j v hv⟩

end Go.Proofs.Ytjodmimnbpgfcaa

/- Row0 -/
namespace Go.Proofs.Ytjodmimnbpgfcaa
open Go.RowKit Go.IntWalk

theorem eql_nil134 (a : Option Addr) (n c : Nat) (w : World) : (binOp .eql 134 (.slice a n c) (.slice none 0 0)).run Try.prog w = .ok (.bool a.isNone) w := by
  simp only [binOp]
  simp [Op.equal, Op.maxDepth, Lib.run_equalIn_slice_nil (P := Try.prog) w 9999 134 109 a n c 0 0 Try.underlying134]

theorem make_row (n : Nat) (h : n ≤ 256) (W : World) : (Instr.makeSlice 134 (.int .i64 ((n : Int) + 1)) (.int .i64 ((n : Int) + 1))).run Try.prog W = .ok (.slice (some ⟨W.heap.size, 0, none⟩) (n + 1) (n + 1)) (W.alloc (.cells (madeCells #[.pointer none] (n + 1)) 109)) := by
  obtain ⟨i1, hi1, hy0, hy1, hy2⟩ := info_parts Try.info109
  have := run_make (P := Try.prog) W 134 109 i1 (.pointer none) Try.underlying134 hi1 hy0 .i64 .i64 ((n : Int) + 1) ((n : Int) + 1) (by omega) (by omega) (by rw [hy2]; omega) (by omega)
  rw [hy1, show ((n : Int) + 1).toNat = n + 1 by omega, Nat.mul_one] at this
  exact this
theorem made_nil (n f : Nat) (u : Value) (h : (madeCells #[.pointer none] n)[f]? = some u) : u = .pointer none := by
  simp [madeCells] at h
  obtain ⟨a, _, h8⟩ := h
  rw [Nat.mod_one] at h8
  exact h8.symm

end Go.Proofs.Ytjodmimnbpgfcaa
