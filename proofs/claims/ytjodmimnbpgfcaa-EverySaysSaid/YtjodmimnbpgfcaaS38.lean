/- each, walked: another ground. A library text: no claim is stated here. each: all its kinds. A library text: no claim is stated here. The state that some turns: a table, and the list in its box. A library text: no claim is stated here. -/
import Derived.Test.YtjodmimnbpgfcaaS36
import Derived.Test.YtjodmimnbpgfcaaS37

/- Each7 -/
namespace Go.Proofs.Ytjodmimnbpgfcaa
open Go.RowKit Go.IntWalk

set_option maxRecDepth 100000 in
set_option maxHeartbeats 4000000 in
theorem each_7 {σ : Type} {I : Inv σ} {live : σ → Prop} {T : Tab} {g0 : G} {mb i : Nat} {x y : Core} (hS : Sys T g0 mb I) (hx : (flatC T.c)[i]? = some x) (hk : x.kind = 7) (hl : x.l = [y]) (hre : x.re = .anew y.re) (IH : ∀ (y : Core) (j : Nat), nodes y < nodes x → (flatC T.c)[j]? = some y → EachSpec I live T mb g0 j y.re) : EachSpec I live T mb g0 i x.re := by
  intro g M s w f okv tkv ok tk D hle0 hI hlive hf ho h hD
  have hw := hS.fut hI
  have ho0 := ho
  have h0 := h
  obtain ⟨Fo, co, rfl, hFo, hoc⟩ := ho
  obtain ⟨Ft, ct, rfl, hFt, htc⟩ := h
  obtain ⟨r, ka, kn, kcap, hpm⟩ := hS.tab.parts i x hx
  obtain ⟨g1, hg1, e1, e2, e3, e4⟩ := box4 hw (.cells #[.pointer (some ⟨mb, 0, none⟩)] 111) (.cells #[.func (.func Fo) #[] co] 140) (.cells #[.func (.func Ft) #[] ct] 141) (.cells #[.int .i64 7, .int .u64 r.s.a, .int .u64 r.s.b, .int .u64 r.s.c, .int .u64 r.s.d, .int .i64 r.n, .slice r.a r.len r.cap, .slice ka kn kcap] 133)
  have k1 := fut_cell e1 0 _ rfl
  have k2 := fut_cell e2 0 _ rfl
  have k3 := fut_cell e3 0 _ rfl
  have k5 := fut_cell e4 7 _ rfl
  have m1 := fut_cell (hle0.blk _ _ hS.maker) 0 _ rfl
  have m2 := fut_cell (hle0.blk _ _ hS.maker) 1 _ rfl
  have t0 := fut_cell (hle0.blk _ _ hS.tab.tab) 0 _ rfl
  have hfew := hS.tab.few
  have hshort := hS.tab.short
  have hin := flat_lt hx
  have hii : (i : Int) < (nodes T.c : Int) := by omega
  have hpc := hpm.c.le hle0
  obtain ⟨q0, q1, q2, q3, q4, q5, q6⟩ := hpc
  have q7 := fun w (hw : Fut g w) => hpm.c7 w (hw.le hle0)
  rw [hpm.k, hk] at q0
  have fa := fun o => hw.alloc o
  have fa2 := fun o o2 => (hw.alloc o).alloc o2
  have fa3 := fun o o2 o3 => ((hw.alloc o).alloc o2).alloc o3
  have fa4 := fun o o2 o3 o4 => (((hw.alloc o).alloc o2).alloc o3).alloc o4
  have HPM := hid hpm
  have HG1 := hid hg1
  have HI := hid hI
  have HI1 := hid (hS.grow hI hg1)
  have HOC := hid hoc
  have HTC := hid htc
  have HX := hid hx
  have HRE := hid hre
  have HD := hid hD
  have HO0 := hid (ho0.le hg1.le)
  have HT0 := hid (h0.le hg1.le)
  have HLE0 := hid (hle0.trans hg1.le)
  have HE := hid (And.intro e1 (And.intro e2 (And.intro e3 e4)))
  have hf1 := hg1.fut
  have hlg : ∀ w', Fut g1 w' → Fut g w' := fun w' h => h.le hg1.le
  clear hpm hI hoc htc hx hg1 e1 e2 e3 e4 hre hD hk ho0 h0 hle0
  unfold Callable at hFo hFt
  have hny : nodes y < nodes x := by
    cases x with
    | mk k s n l =>
      have := hl
      simp only [Core.l] at this
      subst this
      simp only [nodes, nodesL]; omega
  have hkids := HPM.out.kids.le HLE0.out
  rw [hl] at hkids
  obtain ⟨kb, koff, hka, hkc⟩ := hkids.get (i := 0) (by simp [kidIdx])
  have hkn := hkids.length
  simp only [List.length_map, kidIdx_len, List.length_cons, List.length_nil, Nat.zero_add] at hkn
  obtain ⟨rfl, hkn2, hkn3⟩ := hkn
  have hk0 : ∀ w, Fut g1 w → w.cell? ⟨kb, koff, none⟩ = some (.int .i64 ((i + 1 : Nat) : Int)) := hkc 0 (natV (i + 1)) rfl
  obtain ⟨j, hj1, hj2, -⟩ := flat_kid HX.out (j := 0) (y := y) (by rw [hl]; rfl)
  rw [hl] at hj1
  simp only [kidIdx, List.getElem?_cons_zero, Option.some.injEq] at hj1
  subst hj1
  obtain ⟨ki0, hki0⟩ : ∃ ki0, ki0 = i + 1 := ⟨_, rfl⟩
  rw [← hki0] at hk0 hj2
  have IHy := IH y ki0 hny hj2
  have HJ2 := hid hj2
  subst hka
  clear hkids hkc hny hj2 hkn2 hkn3 hki0 IH hl
  have hcall := IHy g1 M s ((((w.alloc (.cells #[.pointer (some ⟨mb, 0, none⟩)] 111)).alloc (.cells #[.func (.func Fo) #[] co] 140)).alloc (.cells #[.func (.func Ft) #[] ct] 141)).alloc (.cells #[.int .i64 7, .int .u64 r.s.a, .int .u64 r.s.b, .int .u64 r.s.c, .int .u64 r.s.d, .int .i64 r.n, .slice r.a r.len r.cap, .slice (some ⟨kb, koff, none⟩) 1 kcap] 133)).drew f _ _ _ _ D HLE0.out (hS.grow HI.out HG1.out.drew) hlive hf HO0.out HT0.out HD.out
  have fin : runT tk (ways T.s x.re f ok) s = runT tk (ways T.s y.re f ok) s := by
    rw [HRE.out, ways]
  have HF := hid fin
  have HCALL := hid hcall
  clear IHy fin hcall
  go_enter Try.func57, Try.ntmps57
  go_wp2_with fail
  go_region_held3 (fun w' => Fut g1 w') (first | exact Fut.drew (by assumption) | exact Fut.alloc (by assumption) _ | assumption) (first | (go_at_call 57; refine HCALL.out.mono ?_; rintro e w6 hp; have HP := hid hp; have hf6 : Fut g1 w6 := (by obtain ⟨-, g6, M6, h6, -⟩ := hp; exact h6.step.fut.le h6.le); obtain ⟨rfl, -⟩ := hp) | fail)
  all_goals go_wp2_with fail
  all_goals go_ret
  all_goals rw [HF.out]
  all_goals exact HP.out.pre (HG1.out.drew.istep M)

end Go.Proofs.Ytjodmimnbpgfcaa

/- Each -/
namespace Go.Proofs.Ytjodmimnbpgfcaa
open Go.RowKit Go.IntWalk

theorem each_upto {σ : Type} {I : Inv σ} {live : σ → Prop} {T : Tab} {g0 : G} {mb : Nat} (hS : Sys T g0 mb I) : ∀ (n : Nat) (x : Core) (i : Nat), nodes x ≤ n → (flatC T.c)[i]? = some x → EachSpec I live T mb g0 i x.re
  | 0, x, i, hn, hx => by have := nodes_pos x; omega
  | n + 1, x, i, hn, hx => by
    have IH : ∀ (y : Core) (j : Nat), nodes y < nodes x → (flatC T.c)[j]? = some y → EachSpec I live T mb g0 j y.re := fun y j hy hj => each_upto hS n y j (by omega) hj
    have hw : wfC x = true := wf_flat _ hS.tab.wf _ _ hx
    rcases kids_cases hw with ⟨h1, h2, h3⟩ | ⟨h1, h2, h3⟩ | ⟨h1, h2, h3⟩ | ⟨a, b, h1, h2, h3⟩ | ⟨a, b, h1, h2, h3⟩ | ⟨a, h1, h2, h3⟩ | ⟨a, h1, h2, h3⟩ | ⟨a, h1, h2, h3⟩
    · exact each_0 hS hx h1 h3
    · exact each_1 hS hx h1 h3
    · exact each_2 hS hx h1 h3
    · exact each_3 hS hx h1 h2 h3 IH
    · exact each_4 hS hx h1 h2 h3 IH
    · exact each_5 hS hx h1 h2 h3 IH
    · exact each_6 hS hx h1 h2 h3 IH
    · exact each_7 hS hx h1 h2 h3 IH

theorem each_any {σ : Type} {I : Inv σ} {live : σ → Prop} {T : Tab} {g0 : G} {mb : Nat} (hS : Sys T g0 mb I) {x : Core} {i : Nat} (hx : (flatC T.c)[i]? = some x) : EachSpec I live T mb g0 i x.re :=
  each_upto hS _ x i (Nat.le_refl _) hx
end Go.Proofs.Ytjodmimnbpgfcaa

/- SomeA -/
namespace Go.Proofs.Ytjodmimnbpgfcaa
open Go.RowKit Go.IntWalk

theorem TabM.keep {g : G} {M : Nat → Prop} {T : Tab} {w : World} (h : TabM g M T w) {b : Nat} {o : Obj} (hg : g.blk b = none) (hM : ¬ M b) : TabM (g.add b o) M T w := by
  obtain ⟨es, h1, h2, h3, h4⟩ := h.ends
  refine ⟨⟨es, h1, h2, fun i x v hx hv => (h3 i x v hx hv).le (G.le_add hg) (fun _ h => h) (fun _ _ => rfl), h4⟩, h.eb, fun c hc => ⟨?_, (h.out c hc).2⟩⟩
  have : c ≠ b := fun e => hM (e ▸ hc)
  simp [G.add, this, (h.out c hc).1]

/-- A table, and a list of values in box lb. M1: the table's own blocks. -/
structure LI0 (T : Tab) (lb : Nat) (g : G) (M : Nat → Prop) (l : List Val) (w : World) (M1 : Nat → Prop) (v : Value) (rs : List VRow) : Prop where
  fut : Fut g w
  tab : TabM g M1 T w
  box : w.heap[lb]? = some (.cells #[v] 41)
  own : w.ownsRow 0 48 3 v l.length (rowsCells rs)
  rows : RowsV g rs l
  mem : ∀ b, M b ↔ M1 b ∨ b = lb ∨ v.ownBlock = some b
  nlb : ¬ M1 lb
  nown : ∀ b, v.ownBlock = some b → ¬ M1 b ∧ b ≠ lb
  out : ∀ b, M b → g.blk b = none ∧ b < w.heap.size
  nil : l = [] → v = .slice none 0 0

def LI (T : Tab) (lb : Nat) : Inv (List Val) := fun g M l w => ∃ M1 v rs, LI0 T lb g M l w M1 v rs

theorem LI0.step {T : Tab} {lb : Nat} {g : G} {M : Nat → Prop} {l : List Val} {w : World} {M1 : Nat → Prop} {v : Value} {rs : List VRow} (h : LI0 T lb g M l w M1 v rs) {g' : G} {w' : World} {N : Nat → Prop} (hs : Step N g w g' w') (hN : ∀ b, M b → ¬ N b) : LI0 T lb g' M l w' M1 v rs := by
  have hb : ∀ b, M b → w'.heap[b]? = w.heap[b]? := fun b hb => hs.old b (h.out b hb).2 (hN b hb)
  exact ⟨hs.fut, h.tab.le hs (fun b hb => hN b ((h.mem b).2 (.inl hb))), (hb lb ((h.mem lb).2 (.inr (.inl rfl)))).trans h.box, ownsRow_same h.own (fun k hk => hb k ((h.mem k).2 (.inr (.inr hk)))), h.rows.le hs.le, h.mem, h.nlb, h.nown,
    fun b hb => ⟨hs.new b (h.out b hb).1 (h.out b hb).2, Nat.lt_of_lt_of_le (h.out b hb).2 hs.size⟩, h.nil⟩

theorem LI0.keep {T : Tab} {lb : Nat} {g : G} {M : Nat → Prop} {l : List Val} {w : World} {M1 : Nat → Prop} {v : Value} {rs : List VRow} (h : LI0 T lb g M l w M1 v rs) {b : Nat} {o : Obj} (hb : w.heap[b]? = some o) (hg : g.blk b = none) (hM : ¬ M b) : LI0 T lb (g.add b o) M l w M1 v rs :=
  ⟨h.fut.add hb, h.tab.keep hg (fun h1 => hM ((h.mem b).2 (.inl h1))), h.box, h.own, h.rows.le (G.le_add hg), h.mem, h.nlb, h.nown,
    fun c hc => ⟨by have : c ≠ b := fun e => hM (e ▸ hc)
                    simp [G.add, this, (h.out c hc).1], (h.out c hc).2⟩, h.nil⟩

theorem LI0.says {T : Tab} {lb : Nat} {g : G} {M : Nat → Prop} {l : List Val} {w : World} {M1 : Nat → Prop} {v : Value} {rs : List VRow} (h : LI0 T lb g M l w M1 v rs) {g' : G} {M1' : Nat → Prop} {w' : World} (hs : TStep T g w M1 g' w' M1') (ht : TabM g' M1' T w') :
    ∃ M', IStep g M w g' M' w' ∧ LI T lb g' M' l w' := by
  have hlb := h.out lb ((h.mem lb).2 (.inr (.inl rfl)))
  have hown : ∀ k, v.ownBlock = some k → w'.heap[k]? = w.heap[k]? := fun k hk => hs.step.old k (h.out k ((h.mem k).2 (.inr (.inr hk)))).2 (h.nown k hk).1
  have hno : ∀ b, b < w.heap.size → ¬ M1 b → ¬ M1' b := fun b hb h1 h2 => by
    rcases hs.sub b h2 with h3 | h3
    · exact h1 h3
    · omega
  refine ⟨fun b => M1' b ∨ b = lb ∨ v.ownBlock = some b, ⟨hs.step.mono (fun b hb => (h.mem b).2 (.inl hb)), ?_⟩, M1', v, rs, hs.step.fut, ht, (hs.step.old lb hlb.2 h.nlb).trans h.box, ownsRow_same h.own hown, h.rows.le hs.step.le, fun _ => Iff.rfl, hno lb hlb.2 h.nlb, ?_, ?_, h.nil⟩
  · rintro b (hb | hb | hb)
    · rcases hs.sub b hb with h1 | h1
      · exact .inl ((h.mem b).2 (.inl h1))
      · exact .inr h1
    · exact .inl ((h.mem b).2 (.inr (.inl hb)))
    · exact .inl ((h.mem b).2 (.inr (.inr hb)))
  · intro b hb
    have := h.out b ((h.mem b).2 (.inr (.inr hb)))
    exact ⟨hno b this.2 (h.nown b hb).1, (h.nown b hb).2⟩
  · intro b hb
    have key : ∀ b, M b → g'.blk b = none ∧ b < w'.heap.size := fun b hb => ⟨hs.step.new b (h.out b hb).1 (h.out b hb).2, Nat.lt_of_lt_of_le (h.out b hb).2 hs.step.size⟩
    rcases hb with hb | hb | hb
    · exact ht.out b hb
    · exact key b ((h.mem b).2 (.inr (.inl hb)))
    · exact key b ((h.mem b).2 (.inr (.inr hb)))

theorem li_sys {T : Tab} {lb : Nat} {g0 : G} {mb : Nat} (hP : TabP g0 T) (hm : g0.blk mb = some (.cells #[.pointer (some ⟨T.tb, 0, none⟩), .int .i64 (T.s.length : Nat)] 113)) : Sys T g0 mb (LI T lb) where
  fut := fun ⟨_, _, _, h⟩ => h.fut
  step := fun ⟨M1, v, rs, h⟩ hs hN => ⟨M1, v, rs, h.step hs hN⟩
  keep := fun ⟨M1, v, rs, h⟩ hb hg hM => ⟨M1, v, rs, h.keep hb hg hM⟩
  foot := fun ⟨_, _, _, h⟩ => h.out
  tab := hP
  maker := hm
  says := by
    intro g M s w i x f t hle hI hx hf ht
    obtain ⟨M1, v, rs, h⟩ := hI
    have hP' := hP.le hle
    have hshort := hP.short
    refine (says_any hx hf (by omega) hP' w h.fut h.tab).mono ?_
    rintro e w' ⟨he, g', M1', h1, h2⟩
    obtain ⟨M', h3, h4⟩ := h.says h1 h2
    exact ⟨he, g', M', h3, h4⟩
end Go.Proofs.Ytjodmimnbpgfcaa
