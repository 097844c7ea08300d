/- The function values that often makes. A library text: no claim is stated here. often, walked. A library text: no claim is stated here. -/
import Derived.Test.YtjodmimnbpgfcaaM23
import Derived.Test.YtjodmimnbpgfcaaM11
import Derived.Deep.RegionHeld3

/- OftA -/
namespace Go.Proofs.Ytjodmimnbpgfcaa
open Go.RowKit Go.IntWalk

def boolsV (n : Nat) (may : Nat → Bool) : List Value := (List.range n).map fun i => .bool (may i)

set_option maxHeartbeats 1000000 in
theorem often1_impl {σ : Type} {I : Inv σ} {T : Tab} {g0 g : G} {mb : Nat} {f : Nat} (hS : Sys T g0 mb I) {ma : Option Addr} {mn mc : Nat} {may : Nat → Bool} (hm : SliceV g ma mn mc (boolsV (T.s.length + 1) may))
    {b1 b2 : Nat} (hb1 : g.blk b1 = some (.cells #[.int .i64 (f : Nat)] 3)) (hb2 : g.blk b2 = some (.cells #[.slice ma mn mc] 97)) :
    ImplOk I T.s.length g (.func (.func 88) #[] #[.pointer (some ⟨b1, 0, none⟩), .pointer (some ⟨b2, 0, none⟩)]) (fun t => decide (f < t) && may t) := by
  refine ⟨88, _, rfl, Try.call88, fun g' M s w k hle hI hk => ?_⟩
  have hw := hS.fut hI
  have k1 := fut_cell (hle.blk _ _ hb1) 0 _ rfl
  have k2 := fut_cell (hle.blk _ _ hb2) 0 _ rfl
  have hlen := hm.length.1
  simp only [boolsV, List.length_map, List.length_range] at hlen
  subst hlen
  obtain ⟨mbk, moff, rfl, hc⟩ := (hm.le hle).get (i := k) (by simp [boolsV]; omega)
  have hck := hc k (.bool (may k)) (by simp [boolsV, List.getElem?_range (show k < T.s.length + 1 by omega)])
  have HI := hid hI
  clear hb1 hb2 hm hc hI
  simp only [List.append_toArray, List.cons_append, List.nil_append]
  by_cases hlt : f < k
  · simp only [hlt, decide_true, Bool.true_and]
    go_enter Try.func88, Try.ntmps88
    go_wp2_with fail
    go_ret
    exact ⟨rfl, _, _, (Grow.refl hw).istep M, HI.out⟩
  · simp only [hlt, decide_false, Bool.false_and]
    go_enter Try.func88, Try.ntmps88
    go_wp2_with fail
    go_ret
    exact ⟨rfl, _, _, (Grow.refl hw).istep M, HI.out⟩

theorem ownsRow_base {w : World} {base base' : Nat} {e : TypeId} {size : Nat} {v : Value} {n : Nat} {xs : List Value} (h : w.ownsRow base e size v n xs) (hb : base' ≤ base) : w.ownsRow base' e size v n xs := by
  refine ⟨h.1, ?_⟩
  rcases h.2 with h2 | ⟨k, cap, cur, h1, h2, h3⟩
  · exact .inl h2
  · exact .inr ⟨k, cap, cur, h1, Nat.le_trans hb h2, h3⟩

theorem heap_alloc2 (w : World) (a b : Obj) : ((w.alloc a).alloc b).drew.heap[w.heap.size + 1]? = some b := by
  have := heap_alloc_new (w.alloc a) b
  rw [World.size_alloc] at this
  exact this

theorem oft_app {g1 : G} {W0 w2 w3 : World} {had : List Val} {v : Val} {r : VRow} {crs : List VRow} {cv : Value} {kb kcap : Nat} {xs : List Value} (hf0 : Fut g1 W0) (h2 : Grow g1 W0 g1 w2) (ho2 : w2.ownsRow W0.heap.size 48 3 cv had.length xs) (hg : w2.grownBy w3 cv.ownBlock)
    (ho : w3.ownsRow W0.heap.size 48 3 (.slice (some ⟨kb, 0, none⟩) (had.length + 1) kcap) (had.length + 1) (rowsCells crs ++ r.cells)) (hr : RowsV g1 crs had) (hv : ValV g1 r v) :
    ∃ g3, Grow g1 W0 g3 w3 ∧ ValsV g3 (some ⟨kb, 0, none⟩) (had.length + 1) kcap (had ++ [v]) := by
  have h3 : Grow g1 W0 g1 w3 := h2.grown hg (fun k hk => ⟨(ho2.lt k hk).1, hf0.none_of_size (ho2.lt k hk).1⟩)
  have e : rowsCells crs ++ r.cells = rowsCells (crs ++ [r]) := by rw [rowsCells_append]; simp [rowsCells]
  rw [e] at ho
  obtain ⟨g3, a, cap, e3, h4, -, h5, -⟩ := vals_keep (h3.step (fun _ => False)) ho (fun k hk => ⟨(ho.lt k hk).1, hf0.none_of_size (ho.lt k hk).1⟩) (hr.snoc hv) (by simp)
  simp only [Value.slice.injEq] at e3
  obtain ⟨rfl, -, rfl⟩ := e3
  refine ⟨g3, h4.grow, ?_⟩
  simpa using h5

/-- What often is to do at d places behind. -/
def OftenSpec {σ : Type} (I : Inv σ) (live : σ → Prop) (T : Tab) (mb : Nat) (g0 : G) (p : Nat) (x : Re) (may : Nat → Bool) (d : Nat) : Prop :=
  ∀ g M s w f had a c okv tkv ok tk (D : Nat → Prop) ma mc, g0.Le g → I g M s w → live s → f ≤ T.s.length → T.s.length + 1 - f ≤ d → had.length ≤ f → ValsV g a had.length c had → SliceV g ma (T.s.length + 1) mc (boolsV (T.s.length + 1) may) →
    ImplOk I T.s.length g okv ok → ImplTake I live D g tkv tk → (∀ t, t ≤ T.s.length → ok t = true → D t) →
    Calls Try.prog 80 #[.pointer (some ⟨mb, 0, none⟩), .int .i64 (p : Nat), .int .i64 (f : Nat), .slice a had.length c, .slice ma (T.s.length + 1) mc, okv, tkv] w (TPost I live g M w (runT tk (oftenW (ways T.s x) may ok d f had) s))

set_option maxHeartbeats 1000000 in
theorem often2_impl {σ : Type} {I : Inv σ} {live : σ → Prop} {T : Tab} {g0 g : G} {mb p d f : Nat} {x : Re} {may : Nat → Bool} (hS : Sys T g0 mb I) (hle0 : g0.Le g) (hshort : T.s.length ≤ 65536) (hE : OftenSpec I live T mb g0 p x may d) {had : List Val} {a : Option Addr} {c : Nat} {okv fv : Value} {ok : Nat → Bool} {tk : Val → Nat → σ → Bool × σ} {D : Nat → Prop} {ma : Option Addr} {mc : Nat}
    (hd : T.s.length - f ≤ d) (hl : had.length ≤ f) (hf : f ≤ T.s.length) (hv : ValsV g a had.length c had) (hm : SliceV g ma (T.s.length + 1) mc (boolsV (T.s.length + 1) may))
    (ho : ImplOk I T.s.length g okv ok) (h : ImplTake I live D g fv tk) (hD : ∀ t, t ≤ T.s.length → ok t = true → D t) {b1 b2 b3 b4 b5 b6 : Nat}
    (hb1 : g.blk b1 = some (.cells #[.pointer (some ⟨mb, 0, none⟩)] 111)) (hb2 : g.blk b2 = some (.cells #[.int .i64 (p : Nat)] 3)) (hb3 : g.blk b3 = some (.cells #[.slice a had.length c] 41)) (hb4 : g.blk b4 = some (.cells #[.slice ma (T.s.length + 1) mc] 97))
    (hb5 : g.blk b5 = some (.cells #[okv] 140)) (hb6 : g.blk b6 = some (.cells #[fv] 141)) :
    ImplTake I live (fun t => f < t ∧ t ≤ T.s.length) g (.func (.func 89) #[] #[.pointer (some ⟨b1, 0, none⟩), .pointer (some ⟨b2, 0, none⟩), .pointer (some ⟨b3, 0, none⟩), .pointer (some ⟨b4, 0, none⟩), .pointer (some ⟨b5, 0, none⟩), .pointer (some ⟨b6, 0, none⟩)])
      (fun v t s => runT tk (oftenW (ways T.s x) may ok d t (had ++ [v])) s) := by
  refine ⟨89, _, rfl, Try.call89, fun g' M s w r v t hle hI hlive hvr ht => ?_⟩
  have hw := hS.fut hI
  obtain ⟨g1, hg1, eb, c0, c1, c2⟩ := box_val hw r
  have k1 := fut_cell (hg1.le.blk _ _ (hle.blk _ _ hb1)) 0 _ rfl
  have k2 := fut_cell (hg1.le.blk _ _ (hle.blk _ _ hb2)) 0 _ rfl
  have k3 := fut_cell (hg1.le.blk _ _ (hle.blk _ _ hb3)) 0 _ rfl
  have k4 := fut_cell (hg1.le.blk _ _ (hle.blk _ _ hb4)) 0 _ rfl
  have k5 := fut_cell (hg1.le.blk _ _ (hle.blk _ _ hb5)) 0 _ rfl
  have k6 := fut_cell (hg1.le.blk _ _ (hle.blk _ _ hb6)) 0 _ rfl
  have hW1 := hg1.fut
  have hvl := hv.le (hle.trans hg1.le)
  have hs5 : had.length ≤ 100000 := by omega
  have HI := hid hI
  have HG1 := hid hg1
  clear hI hb1 hb2 hb3 hb4 hb5 hb6 eb hg1
  unfold VRow.val at *
  simp only [List.append_toArray, List.cons_append, List.nil_append]
  have hcall : ∀ g3 w3 kb kcap, Grow g1 (w.alloc (.cells #[.int .i64 r.k, .int .u8 r.b, .slice r.a r.len r.cap] 48)) g3 w3 → ValsV g3 (some ⟨kb, 0, none⟩) (had.length + 1) kcap (had ++ [v]) →
      Calls Try.prog 80 #[.pointer (some ⟨mb, 0, none⟩), .int .i64 (p : Nat), .int .i64 (t : Nat), .slice (some ⟨kb, 0, none⟩) (had.length + 1) kcap, .slice ma (T.s.length + 1) mc, okv, fv] w3 (TPost I live g1 M (w.alloc (.cells #[.int .i64 r.k, .int .u8 r.b, .slice r.a r.len r.cap] 48)) (runT tk (oftenW (ways T.s x) may ok d t (had ++ [v])) s)) := by
    intro g3 w3 kb kcap hg3 hv3
    have hG := HG1.out.trans hg3
    have hh := hE g3 M s w3 t (had ++ [v]) (some ⟨kb, 0, none⟩) kcap okv fv ok tk D ma mc ((hle0.trans hle).trans hG.le) (hS.grow HI.out hG) hlive ht.2 (by omega) (by simp; omega) (by simpa using hv3) (hm.le (hle.trans hG.le)) (ho.le (hle.trans hG.le)) (h.le (hle.trans hG.le)) hD
    simp only [List.length_append, List.length_cons, List.length_nil, Nat.zero_add] at hh
    exact hh.mono fun e w' hp => hp.pre (hg3.istep M)
  have HCALL := hid hcall
  have HVR := hid (hvr.le HG1.out.le)
  clear hcall hE hv hm ho h hD hvr
  obtain ⟨i0, hi, hz0, hz1, hz2⟩ := info_parts Try.info48
  go_enter Try.func89, Try.ntmps89
  go_wp2_with fail
  go_region_held3 (fun w' => Fut g1 w') (first | exact Fut.drew (by assumption) | exact Fut.alloc (by assumption) _ | assumption) (first | (go_at_call 90; refine (clone_vals hvl hs5 _ (by assumption)).mono ?_; rintro e w2 ⟨cv, crs, rfl, hg2, ho2, hr2, hz2⟩; have hf2 := hg2.fut; have HG2 := hid hg2; have HO2 := hid ho2; have HR2 := hid hr2; have HZ2 := hid hz2; clear hg2 ho2 hr2 hz2) | (refine step_append_lies _ rfl (.tmp 15) (.tmp 17) 41 rfl _ 48 i0 (.agg #[.int .i64 0, .int .u8 0, .slice none 0 0]) 3 40 Try.underlying41 hi hz0 hz1 hz2 rfl (by decide) _ had.length (rowsCells crs) rfl (HO2.out.alloc _) ⟨w2.heap.size, 0, none⟩ 1 1 r.cells rfl rfl (World.news_of_block (heap_alloc_new w2 _)) (by simp [VRow.cells, Value.oneCell']) (by decide) (by unfold maxLen; omega) (by omega) (by have := HG2.out.size; simp at this ⊢; omega) _ rfl ?_; intro kb kcap w3 hown3 hgrow3 hat3 hlt3; obtain ⟨g3, hg3, hv3⟩ := oft_app hW1.drew (HG2.out.alloc _) (HO2.out.alloc _) hgrow3 hown3 HR2.out HVR.out; have hf3 := hg3.fut.le hg3.le; have HCC := hid (HCALL.out _ _ _ _ ((Grow.refl hW1).drew.trans hg3) hv3); clear hown3 hgrow3 hat3 hlt3 hg3 hv3) | (refine step_append_lies _ rfl (.tmp 15) (.tmp 17) 41 rfl _ 48 i0 (.agg #[.int .i64 0, .int .u8 0, .slice none 0 0]) 3 40 Try.underlying41 hi hz0 hz1 hz2 rfl (by decide) _ had.length (rowsCells crs) rfl HO2.out ⟨w.heap.size + 1, 0, none⟩ 1 1 r.cells rfl rfl (World.news_of_block ((HG2.out.old _ (by simp)).trans (heap_alloc2 w _ _))) (by simp [VRow.cells, Value.oneCell']) (by decide) (by unfold maxLen; omega) (by omega) HG2.out.size _ rfl ?_; intro kb kcap w3 hown3 hgrow3 hat3 hlt3; obtain ⟨g3, hg3, hv3⟩ := oft_app (hW1.alloc _).drew HG2.out HO2.out hgrow3 hown3 HR2.out HVR.out; have hf3 := hg3.fut.le hg3.le; have HCC := hid (HCALL.out _ _ _ _ (((Grow.refl hW1).alloc _).drew.trans hg3) hv3); clear hown3 hgrow3 hat3 hlt3 hg3 hv3) | (go_at_call 80; refine HCC.out.mono ?_; rintro e w4 hp; have HP := hid hp; have hf4 : Fut g1 w4 := (by obtain ⟨-, g5, M5, h5, -⟩ := hp; exact h5.step.fut.le h5.le); obtain ⟨rfl, -⟩ := hp))
  all_goals go_wp2_with fail
  all_goals go_ret
  all_goals exact HP.out.pre (HG1.out.istep M)
end Go.Proofs.Ytjodmimnbpgfcaa

/- Often -/
namespace Go.Proofs.Ytjodmimnbpgfcaa
open Go.RowKit Go.IntWalk

theorem box7 {g : G} {w : World} (hw : Fut g w) (o1 o2 o3 o4 o5 o6 o7 : Obj) : ∃ g1, Grow g w g1 (((((((w.alloc o1).alloc o2).alloc o3).alloc o4).alloc o5).alloc o6).alloc o7) ∧ g1.blk w.heap.size = some o1 ∧ g1.blk (w.heap.size + 1) = some o2 ∧ g1.blk (w.heap.size + 1 + 1) = some o3 ∧
    g1.blk (w.heap.size + 1 + 1 + 1) = some o4 ∧ g1.blk (w.heap.size + 1 + 1 + 1 + 1) = some o5 ∧ g1.blk (w.heap.size + 1 + 1 + 1 + 1 + 1) = some o6 ∧ g1.blk (w.heap.size + 1 + 1 + 1 + 1 + 1 + 1) = some o7 := by
  obtain ⟨g1, h1, e1, e2⟩ := box2 hw o1 o2
  obtain ⟨g2, h2, f1, f2⟩ := box2 h1.fut o3 o4
  obtain ⟨g3, h3, d1, d2, d3⟩ := box3 h2.fut o5 o6 o7
  simp only [World.size_alloc] at f1 f2 d1 d2 d3
  exact ⟨g3, (h1.trans h2).trans h3, h3.le.blk _ _ (h2.le.blk _ _ e1), h3.le.blk _ _ (h2.le.blk _ _ e2), h3.le.blk _ _ f1, h3.le.blk _ _ f2, d1, d2, d3⟩

set_option maxHeartbeats 1000000 in
theorem often_step {σ : Type} {I : Inv σ} {live : σ → Prop} {T : Tab} {g0 : G} {mb p d : Nat} {x : Re} {may : Nat → Bool} (hS : Sys T g0 mb I) (hshort : T.s.length ≤ 65536) (hE : EachSpec I live T mb g0 p x) (IH : OftenSpec I live T mb g0 p x may d) : OftenSpec I live T mb g0 p x may (d + 1) := by
  intro g M s w f had a c okv tkv ok tk D ma mc hle0 hI hlive hf hd hl hv hm ho h hD
  have hw := hS.fut hI
  have ho' := ho
  have h' := h
  obtain ⟨Fo, co, rfl, hFo, hoc⟩ := ho'
  obtain ⟨Ft, ct, rfl, hFt, htc⟩ := h'
  obtain ⟨g1, hg1, e1, e2, e3, e4, e5, e6, e7⟩ := box7 hw (.cells #[.pointer (some ⟨mb, 0, none⟩)] 111) (.cells #[.int .i64 (p : Nat)] 3) (.cells #[.int .i64 (f : Nat)] 3) (.cells #[.slice a had.length c] 41) (.cells #[.slice ma (T.s.length + 1) mc] 97) (.cells #[.func (.func Fo) #[] co] 140) (.cells #[.func (.func Ft) #[] ct] 141)
  have k1 := fut_cell e1 0 _ rfl
  have k2 := fut_cell e2 0 _ rfl
  have k3 := fut_cell e3 0 _ rfl
  have k4 := fut_cell e4 0 _ rfl
  have k5 := fut_cell e5 0 _ rfl
  have k6 := fut_cell e6 0 _ rfl
  have k7 := fut_cell e7 0 _ rfl
  have i1 := often1_impl hS (hm.le hg1.le) e3 e5
  have i2 := often2_impl hS (hle0.trans hg1.le) hshort IH (by omega) hl hf (hv.le hg1.le) (hm.le hg1.le) (ho.le hg1.le) (h.le hg1.le) hD e1 e2 e4 e5 e6 e7
  have hcall := hE g1 M s _ f _ _ _ _ _ (hle0.trans hg1.le) (hS.grow hI hg1) hlive hf i1 i2 (fun t h1 h2 => by simp at h2; exact ⟨h2.1, h1⟩)
  have hW1 := hg1.fut
  have fin : runT tk (oftenW (ways T.s x) may ok (d + 1) f had) s = if (runT (fun v t s => runT tk (oftenW (ways T.s x) may ok d t (had ++ [v])) s) (ways T.s x f fun t => decide (f < t) && may t) s).1 = true then runT tk (if ok f = true then [(.mk 6 0 had, f)] else []) (runT (fun v t s => runT tk (oftenW (ways T.s x) may ok d t (had ++ [v])) s) (ways T.s x f fun t => decide (f < t) && may t) s).2 else runT (fun v t s => runT tk (oftenW (ways T.s x) may ok d t (had ++ [v])) s) (ways T.s x f fun t => decide (f < t) && may t) s := by
    rw [oftenW, runT_append, runT_flatMap]
  generalize runT (fun v t s => runT tk (oftenW (ways T.s x) may ok d t (had ++ [v])) s) (ways T.s x f fun t => decide (f < t) && may t) s = R at hcall fin
  have HG1 := hid hg1
  have HI := hid hI
  have HOC := hid hoc
  have HTC := hid htc
  have HV := hid (hv.le hg1.le)
  have HF := hid fin
  have HD := hid hD
  clear hI hg1 e1 e2 e3 e4 e5 e6 e7 i1 i2 ho h hv hm hE IH fin hoc htc hD
  have hs5 : had.length ≤ 100000 := by omega
  obtain ⟨b, s1⟩ := R
  unfold Callable at hFo hFt
  cases b with
  | false =>
    go_enter Try.func80, Try.ntmps80
    go_wp2_with (first | (go_at_call 57; refine hcall.mono ?_; rintro e w2 hp; have HP := hid hp; obtain ⟨rfl, -⟩ := hp; clear hcall))
    go_ret
    have := HF.out
    rw [this]
    exact HP.out.pre (HG1.out.istep M)
  | true =>
    cases hok : ok f with
    | false =>
      go_enter Try.func80, Try.ntmps80
      go_wp2_with (first | (go_at_call 57; refine hcall.mono ?_; rintro e w2 hp; obtain ⟨rfl, g2, M2, h2, h3, h4⟩ := hp; have hf2 : Fut g1 w2 := h2.step.fut.le h2.le; have H2 := hid h2; have H3 := hid h3; have H4 := hid h4; clear h2 h3 h4 hcall))
      have hoc2 := HOC.out g2 M2 s1 w2 f (HG1.out.le.trans H2.out.le) H3.out hf
      rw [hok] at hoc2
      refine hoc2.mono ?_
      rintro e w3 hp
      have HP := hid hp
      obtain ⟨rfl, -⟩ := hp
      clear hoc2
      go_wp2_with fail
      go_ret
      obtain ⟨-, g3, M3, h3, h4⟩ := HP.out
      have := HF.out
      rw [this, hok]
      exact ⟨rfl, g3, M3, (HG1.out.istep M).trans (H2.out.trans h3), h4, fun _ => H4.out trivial⟩
    | true =>
      go_enter Try.func80, Try.ntmps80
      go_wp2_with (first | (go_at_call 57; refine hcall.mono ?_; rintro e w2 hp; obtain ⟨rfl, g2, M2, h2, h3, h4⟩ := hp; have hf2 : Fut g1 w2 := h2.step.fut.le h2.le; have H2 := hid h2; have H3 := hid h3; have H4 := hid h4; clear h2 h3 h4 hcall))
      have hoc2 := HOC.out g2 M2 s1 w2 f (HG1.out.le.trans H2.out.le) H3.out hf
      rw [hok] at hoc2
      refine hoc2.mono ?_
      rintro e w3 hp
      obtain ⟨rfl, g3, M3, h3, h4⟩ := hp
      have hf3 := h3.step.fut
      have hf3' := hf3.le (H2.out.le.trans h3.le)
      have hv3 := (HV.out.le (H2.out.le.trans h3.le))
      have HG3 := hid h3
      have HI3 := hid h4
      clear hoc2 h3 h4 hf2
      go_wp2_with fail
      go_region_held3 (fun w' => Fut g1 w') (first | exact Fut.drew (by assumption) | exact Fut.alloc (by assumption) _ | assumption) (first | (go_at_call 90; refine (clone_vals hv3 hs5 _ hf3.drew).mono ?_; rintro e w4 ⟨cv, crs, rfl, hg4, ho4, hr4, hz4⟩; obtain ⟨g5, a5, c5, rfl, h5, hle5, hv5, -⟩ := vals_keep (hg4.step fun _ => False) ho4 (fun k hk => ⟨(ho4.lt k hk).1, hf3.drew.none_of_size (ho4.lt k hk).1⟩) hr4 hz4; have H5 := hid ((Grow.refl hf3).drew.trans h5.grow); have HV5 := hid hv5; have hf5 := h5.fut.le (((H2.out.le.trans HG3.out.le)).trans h5.le); clear hg4 ho4 hr4 hz4 h5 hle5 hv5) | (refine (HTC.out g5 M3 s1 w4 ⟨6, 0, a5, had.length, c5⟩ (.mk 6 0 had) f (HG1.out.le.trans (H2.out.le.trans (HG3.out.le.trans H5.out.le))) (hS.grow HI3.out H5.out) (H4.out trivial) (ValV.head HV5.out) (HD.out f hf hok)).mono ?_; rintro e w6 hp; have HP := hid hp; have hf6 : Fut g1 w6 := (by obtain ⟨-, g6, M6, h6, -⟩ := hp; exact h6.step.fut.le ((H2.out.le.trans (HG3.out.le.trans H5.out.le)).trans h6.le)); obtain ⟨rfl, -⟩ := hp))
      all_goals go_wp2_with fail
      all_goals go_ret
      all_goals have hfin := HF.out
      all_goals rw [hfin, hok]
      all_goals simp only [if_true, runT_single]
      all_goals exact HP.out.pre ((HG1.out.istep M).trans (H2.out.trans (HG3.out.trans (H5.out.istep M3))))

theorem often_any {σ : Type} {I : Inv σ} {live : σ → Prop} {T : Tab} {g0 : G} {mb p : Nat} {x : Re} {may : Nat → Bool} (hS : Sys T g0 mb I) (hshort : T.s.length ≤ 65536) (hE : EachSpec I live T mb g0 p x) : ∀ d, OftenSpec I live T mb g0 p x may d
  | 0 => by
    intro g M s w f had a c okv tkv ok tk D ma mc hle0 hI hlive hf hd
    omega
  | d + 1 => often_step hS hshort hE (often_any hS hshort hE d)
end Go.Proofs.Ytjodmimnbpgfcaa
