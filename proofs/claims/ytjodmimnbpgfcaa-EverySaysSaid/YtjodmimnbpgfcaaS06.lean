/- lang's row, walked. A library text: no claim is stated here. -/
import Derived.Test.YtjodmimnbpgfcaaS05
import Derived.Deep.CutBlock
import Derived.Deep.RegionLaw
import Derived.WalkSpells

/- RowA -/
namespace Go.Proofs.Ytjodmimnbpgfcaa
open Go.RowKit Go.IntWalk

set_option maxRecDepth 100000 in
set_option maxHeartbeats 4000000 in
theorem row_0 {g : G} {M : Nat → Prop} {T : Tab} {x : Core} {i f : Nat} (hx : (flatC T.c)[i]? = some x) (hf : f ≤ T.s.length) (hcase : (x.kind = 0 ∧ x.l = [] ∧ x.re = .none)) (hP : TabP g T) (w : World) (hw : Fut g w) (hM : TabM g M T w)
    (IH : ∀ (y : Core) (j f' : Nat), nodes y < nodes x → (flatC T.c)[j]? = some y → f' ≤ T.s.length → ∀ (g' : G) (M' : Nat → Prop) (w' : World), g.Le g' → Fut g' w' → TabM g' M' T w' → Calls Try.prog 55 [Value.pointer (some ⟨T.tb, 0, none⟩), .int .i64 j, .int .i64 f'].toArray w' (RowPost g' w' M' T y f')) :
    Calls Try.prog 55 #[.pointer (some ⟨T.tb, 0, none⟩), .int .i64 i, .int .i64 f] w (RowPost g w M T x f) := by
  have HCASE := hid hcase
  clear hcase
  have t0 := fut_cell hP.tab 0 _ rfl
  have t1 := fut_cell hP.tab 1 _ rfl
  have t2 := fut_cell hP.tab 2 _ rfl
  have hlen := hP.s.length
  simp only [List.length_map] at hlen
  have hsl : T.slen = T.s.length := hlen.1
  rw [hsl] at t1
  obtain ⟨v, hv, hvf, hro⟩ := hM.entry hx
  have hin := flat_lt hx
  have hfew := hP.few
  have hshort := hP.short
  have hii : (i : Int) < (nodes T.c : Int) := by omega
  have hff : (f : Int) < (T.s.length : Int) + 1 := by omega
  have HP := hid hP
  have HM := hid hM
  have HX := hid hx
  have HIH := hid IH
  have HRO := hid hro
  have HLEN := hid hlen
  have HSL := hid hsl
  clear hP hM hx IH hro hlen hsl
  obtain ⟨va, vn, vc, rfl⟩ : ∃ va vn vc, v = .slice va vn vc := by
    rcases HRO.out with h | ⟨_, _, h, _⟩ <;> exact ⟨_, _, _, h⟩
  have hnil := eql_nil134 va vn vc
  go_enter Try.func55, Try.ntmps55
  go_upto_if 20 with fail
  have HS0 := hid hw
  go_cut [] from 13 (fun wc => ∃ M1 rb, Hid (TStep T g w M g wc M1) ∧ Hid (TabM g M1 T wc) ∧ Hid (wc.cell? ⟨T.eb, i, none⟩ = some (.slice (some ⟨rb, 0, none⟩) (T.s.length + 1) (T.s.length + 1))))
  case first =>
    rcases HRO.out with hr | ⟨rb, rs, hr, -⟩
    · simp only [Value.slice.injEq] at hr
      obtain ⟨rfl, rfl, rfl⟩ := hr
      go_wp2_with fail
      have hsum : IntKind.i64.wrap ((T.s.length : Int) + 1) = (T.s.length : Int) + 1 := IntWalk.i64_in _ (by omega)
      have hmk := make_row T.s.length hshort
      have fa := fun o => hw.alloc o
      have hebl := (HM.out.out _ HM.out.eb).2
      have hvA : ∀ o, (w.alloc o).cell? ⟨T.eb, i, none⟩ = some (.slice none 0 0) := fun o => (World.cell?_alloc_lt _ _ _ hebl).trans hv
      have hvfA : ∀ o, (w.alloc o).frozen? ⟨T.eb, i, none⟩ = false := fun o => (World.frozen?_alloc_old _ _ _ (Nat.ne_of_lt hebl)).trans hvf
      go_region
      go_wp2_with fail
      go_meet
      case rel =>
        have R := HM.out.newRow hw HX.out hv (World.grownBy_alloc w _ none) (heap_alloc_new w (.cells (madeCells #[.pointer none] (T.s.length + 1)) 109)) (by simp [madeCells]) (made_nil _)
        have e : (w.setCell ⟨T.eb, i, none⟩ (.slice (some ⟨w.heap.size, 0, none⟩) (T.s.length + 1) (T.s.length + 1))).alloc (.cells (madeCells #[.pointer none] (T.s.length + 1)) 109) = (w.alloc (.cells (madeCells #[.pointer none] (T.s.length + 1)) 109)).setCell ⟨T.eb, i, none⟩ (.slice (some ⟨w.heap.size, 0, none⟩) (T.s.length + 1) (T.s.length + 1)) := (World.setCell_alloc_past _ _ _ _ hebl).symm
        rw [e]
        exact ⟨_, _, R.1.drew, R.2.1.drew, R.2.2⟩
    · simp only [Value.slice.injEq] at hr
      obtain ⟨rfl, rfl, rfl⟩ := hr
      go_wp2_with fail
      go_meet
      case rel => exact ⟨M, rb, TStep.refl M hw, HM.out, hv⟩
  case rest =>
    obtain ⟨M1, rb, HT1, HM1, HV1⟩ := hcut
    obtain ⟨u, hu, huf, hent, -⟩ := HM1.out.cell HX.out HV1.out hf
    have hv1 := HV1.out
    have HENT := hid hent
    have hf1 := HT1.out.step.fut
    clear hv hvf hnil hw hent
    rcases HENT.out with rfl | ⟨pb, p, rfl, hpb, hpr⟩
    · obtain ⟨r, ka, kn, kcap, hpm⟩ := HP.out.parts i x HX.out
      have k0 := hpm.c.c0
      rw [hpm.k] at k0
      have fa1 := fun o => hf1.alloc o
      have HPM := hid hpm
      clear hpm
      go_upto_block 0 with fail
      change Code.wp _ _ _ _ (wc.alloc (.cells (placesV fun _ => 0) 136))
      generalize hpk : wc.heap.size = pk
      have hz0 := heap_alloc_new wc (.cells (placesV fun _ => 0) 136)
      rw [hpk] at hz0
      have hs1 : Step (fun _ => False) g wc g (wc.alloc (.cells (placesV fun _ => 0) 136)) := (Step.refl _ hf1).alloc _
      have hpkM : ¬ M1 pk := fun h => by have := (HM1.out.out _ h).2; omega
      have hpkg : g.blk pk = none := hf1.none_of_size (by omega)
      generalize wc.alloc (.cells (placesV fun _ => 0) 136) = W1 at hz0 hs1 ⊢
      have HZ0 : Hid (W1.heap[pk]? = some (.cells (placesV fun _ => 0) 136)) := hz0
      have hT2 : TStep T g wc M1 g W1 M1 := TStep.of_step hs1 (HM1.out.out _ HM1.out.eb).2
      have HT2 := hid hT2
      have HM2 := hid (HM1.out.le hs1 (fun _ _ => id))
      have HPK := hid hpkM
      have HPG := hid hpkg
      have HPS := hid hpk
      have hfW := hT2.step.fut
      clear hz0 hs1 hT2 hpkM hpkg hpk fa1 hu huf hv1 hf1
      have HA0 : Hid (Acc T g wc M1 pk (fun _ => false) g M1 W1) := ⟨HT2.out, HM2.out, ⟨_, HZ0.out, rep_zero⟩, HPK.out, HPG.out, Nat.le_of_eq HPS.out⟩
      go_cut [] from 10 (fun wd => ∃ g2 M2, Hid (Acc T g wc M1 pk (endsF T.s x.re f) g2 M2 wd))
      case first =>
        obtain ⟨hk, hl, hre⟩ := HCASE.out
        have HRE := hid hre
        have HLL := hid hl
        clear hre hl
        rw [hk] at *
        go_wp2_with fail
        go_meet
        case rel => exact ⟨g, M1, HA0.out.of (fun i => by rw [HRE.out]; rfl)⟩
      case rest =>
        obtain ⟨g2, M2, HAC⟩ := hcut
        obtain ⟨p, hp3, hr3⟩ := HAC.out.pl
        have HT3 := hid HAC.out.st
        have HM3 := hid HAC.out.tab
        have HP3 := hid hp3
        have HR3 := hid hr3
        clear hp3 hr3
        have hv3 := HT3.out.stay _ _ _ _ HV1.out
        obtain ⟨u3, hu3, huf3, -, -⟩ := HM3.out.cell HX.out hv3 hf
        have hf3 := HT3.out.step.fut.le HT3.out.step.le
        go_wp2_with fail
        go_ret
        have hsz := HT1.out.step.size
        have hps := HPS.out
        have R := HM3.out.store HX.out hv3 HP3.out HAC.out.ng HAC.out.nm HR3.out (w0 := w) (M0 := M) (by omega) (HT1.out.trans HT3.out)
        exact ⟨_, _, pk, p, rfl, R.1, R.2, G.add_same _ _ _, HR3.out⟩
    · have HPB := hid hpb
      have HPR := hid hpr
      clear hpb hpr
      go_wp2_with fail
      go_ret
      exact ⟨g, M1, pb, p, rfl, HT1.out, HM1.out, HPB.out, HPR.out⟩
set_option maxRecDepth 100000 in
set_option maxHeartbeats 4000000 in
theorem row_1 {g : G} {M : Nat → Prop} {T : Tab} {x : Core} {i f : Nat} (hx : (flatC T.c)[i]? = some x) (hf : f ≤ T.s.length) (hcase : (x.kind = 1 ∧ x.l = [] ∧ x.re = .empty)) (hP : TabP g T) (w : World) (hw : Fut g w) (hM : TabM g M T w)
    (IH : ∀ (y : Core) (j f' : Nat), nodes y < nodes x → (flatC T.c)[j]? = some y → f' ≤ T.s.length → ∀ (g' : G) (M' : Nat → Prop) (w' : World), g.Le g' → Fut g' w' → TabM g' M' T w' → Calls Try.prog 55 [Value.pointer (some ⟨T.tb, 0, none⟩), .int .i64 j, .int .i64 f'].toArray w' (RowPost g' w' M' T y f')) :
    Calls Try.prog 55 #[.pointer (some ⟨T.tb, 0, none⟩), .int .i64 i, .int .i64 f] w (RowPost g w M T x f) := by
  have HCASE := hid hcase
  clear hcase
  have t0 := fut_cell hP.tab 0 _ rfl
  have t1 := fut_cell hP.tab 1 _ rfl
  have t2 := fut_cell hP.tab 2 _ rfl
  have hlen := hP.s.length
  simp only [List.length_map] at hlen
  have hsl : T.slen = T.s.length := hlen.1
  rw [hsl] at t1
  obtain ⟨v, hv, hvf, hro⟩ := hM.entry hx
  have hin := flat_lt hx
  have hfew := hP.few
  have hshort := hP.short
  have hii : (i : Int) < (nodes T.c : Int) := by omega
  have hff : (f : Int) < (T.s.length : Int) + 1 := by omega
  have HP := hid hP
  have HM := hid hM
  have HX := hid hx
  have HIH := hid IH
  have HRO := hid hro
  have HLEN := hid hlen
  have HSL := hid hsl
  clear hP hM hx IH hro hlen hsl
  obtain ⟨va, vn, vc, rfl⟩ : ∃ va vn vc, v = .slice va vn vc := by
    rcases HRO.out with h | ⟨_, _, h, _⟩ <;> exact ⟨_, _, _, h⟩
  have hnil := eql_nil134 va vn vc
  go_enter Try.func55, Try.ntmps55
  go_upto_if 20 with fail
  have HS0 := hid hw
  go_cut [] from 13 (fun wc => ∃ M1 rb, Hid (TStep T g w M g wc M1) ∧ Hid (TabM g M1 T wc) ∧ Hid (wc.cell? ⟨T.eb, i, none⟩ = some (.slice (some ⟨rb, 0, none⟩) (T.s.length + 1) (T.s.length + 1))))
  case first =>
    rcases HRO.out with hr | ⟨rb, rs, hr, -⟩
    · simp only [Value.slice.injEq] at hr
      obtain ⟨rfl, rfl, rfl⟩ := hr
      go_wp2_with fail
      have hsum : IntKind.i64.wrap ((T.s.length : Int) + 1) = (T.s.length : Int) + 1 := IntWalk.i64_in _ (by omega)
      have hmk := make_row T.s.length hshort
      have fa := fun o => hw.alloc o
      have hebl := (HM.out.out _ HM.out.eb).2
      have hvA : ∀ o, (w.alloc o).cell? ⟨T.eb, i, none⟩ = some (.slice none 0 0) := fun o => (World.cell?_alloc_lt _ _ _ hebl).trans hv
      have hvfA : ∀ o, (w.alloc o).frozen? ⟨T.eb, i, none⟩ = false := fun o => (World.frozen?_alloc_old _ _ _ (Nat.ne_of_lt hebl)).trans hvf
      go_region
      go_wp2_with fail
      go_meet
      case rel =>
        have R := HM.out.newRow hw HX.out hv (World.grownBy_alloc w _ none) (heap_alloc_new w (.cells (madeCells #[.pointer none] (T.s.length + 1)) 109)) (by simp [madeCells]) (made_nil _)
        have e : (w.setCell ⟨T.eb, i, none⟩ (.slice (some ⟨w.heap.size, 0, none⟩) (T.s.length + 1) (T.s.length + 1))).alloc (.cells (madeCells #[.pointer none] (T.s.length + 1)) 109) = (w.alloc (.cells (madeCells #[.pointer none] (T.s.length + 1)) 109)).setCell ⟨T.eb, i, none⟩ (.slice (some ⟨w.heap.size, 0, none⟩) (T.s.length + 1) (T.s.length + 1)) := (World.setCell_alloc_past _ _ _ _ hebl).symm
        rw [e]
        exact ⟨_, _, R.1.drew, R.2.1.drew, R.2.2⟩
    · simp only [Value.slice.injEq] at hr
      obtain ⟨rfl, rfl, rfl⟩ := hr
      go_wp2_with fail
      go_meet
      case rel => exact ⟨M, rb, TStep.refl M hw, HM.out, hv⟩
  case rest =>
    obtain ⟨M1, rb, HT1, HM1, HV1⟩ := hcut
    obtain ⟨u, hu, huf, hent, -⟩ := HM1.out.cell HX.out HV1.out hf
    have hv1 := HV1.out
    have HENT := hid hent
    have hf1 := HT1.out.step.fut
    clear hv hvf hnil hw hent
    rcases HENT.out with rfl | ⟨pb, p, rfl, hpb, hpr⟩
    · obtain ⟨r, ka, kn, kcap, hpm⟩ := HP.out.parts i x HX.out
      have k0 := hpm.c.c0
      rw [hpm.k] at k0
      have fa1 := fun o => hf1.alloc o
      have HPM := hid hpm
      clear hpm
      go_upto_block 0 with fail
      change Code.wp _ _ _ _ (wc.alloc (.cells (placesV fun _ => 0) 136))
      generalize hpk : wc.heap.size = pk
      have hz0 := heap_alloc_new wc (.cells (placesV fun _ => 0) 136)
      rw [hpk] at hz0
      have hs1 : Step (fun _ => False) g wc g (wc.alloc (.cells (placesV fun _ => 0) 136)) := (Step.refl _ hf1).alloc _
      have hpkM : ¬ M1 pk := fun h => by have := (HM1.out.out _ h).2; omega
      have hpkg : g.blk pk = none := hf1.none_of_size (by omega)
      generalize wc.alloc (.cells (placesV fun _ => 0) 136) = W1 at hz0 hs1 ⊢
      have HZ0 : Hid (W1.heap[pk]? = some (.cells (placesV fun _ => 0) 136)) := hz0
      have hT2 : TStep T g wc M1 g W1 M1 := TStep.of_step hs1 (HM1.out.out _ HM1.out.eb).2
      have HT2 := hid hT2
      have HM2 := hid (HM1.out.le hs1 (fun _ _ => id))
      have HPK := hid hpkM
      have HPG := hid hpkg
      have HPS := hid hpk
      have hfW := hT2.step.fut
      clear hz0 hs1 hT2 hpkM hpkg hpk fa1 hu huf hv1 hf1
      have HA0 : Hid (Acc T g wc M1 pk (fun _ => false) g M1 W1) := ⟨HT2.out, HM2.out, ⟨_, HZ0.out, rep_zero⟩, HPK.out, HPG.out, Nat.le_of_eq HPS.out⟩
      go_cut [] from 10 (fun wd => ∃ g2 M2, Hid (Acc T g wc M1 pk (endsF T.s x.re f) g2 M2 wd))
      case first =>
        obtain ⟨hk, hl, hre⟩ := HCASE.out
        have HRE := hid hre
        have HLL := hid hl
        clear hre hl
        rw [hk] at *
        go_wp2_with (go_at_call 73; refine (pput_any _ HZ0.out rep_zero (by omega)).mono ?_; rintro e w3 hp3; have HP3 := hid hp3; obtain ⟨rfl, -⟩ := hp3)
        go_meet
        case rel => exact ⟨g, M1, (HA0.out.post HP3.out).of (fun i => by rw [HRE.out]; rfl)⟩
      case rest =>
        obtain ⟨g2, M2, HAC⟩ := hcut
        obtain ⟨p, hp3, hr3⟩ := HAC.out.pl
        have HT3 := hid HAC.out.st
        have HM3 := hid HAC.out.tab
        have HP3 := hid hp3
        have HR3 := hid hr3
        clear hp3 hr3
        have hv3 := HT3.out.stay _ _ _ _ HV1.out
        obtain ⟨u3, hu3, huf3, -, -⟩ := HM3.out.cell HX.out hv3 hf
        have hf3 := HT3.out.step.fut.le HT3.out.step.le
        go_wp2_with fail
        go_ret
        have hsz := HT1.out.step.size
        have hps := HPS.out
        have R := HM3.out.store HX.out hv3 HP3.out HAC.out.ng HAC.out.nm HR3.out (w0 := w) (M0 := M) (by omega) (HT1.out.trans HT3.out)
        exact ⟨_, _, pk, p, rfl, R.1, R.2, G.add_same _ _ _, HR3.out⟩
    · have HPB := hid hpb
      have HPR := hid hpr
      clear hpb hpr
      go_wp2_with fail
      go_ret
      exact ⟨g, M1, pb, p, rfl, HT1.out, HM1.out, HPB.out, HPR.out⟩
set_option maxRecDepth 100000 in
set_option maxHeartbeats 4000000 in
theorem row_2 {g : G} {M : Nat → Prop} {T : Tab} {x : Core} {i f : Nat} (hx : (flatC T.c)[i]? = some x) (hf : f ≤ T.s.length) (hcase : (x.kind = 2 ∧ x.l = [] ∧ x.re = .byte x.set)) (hP : TabP g T) (w : World) (hw : Fut g w) (hM : TabM g M T w)
    (IH : ∀ (y : Core) (j f' : Nat), nodes y < nodes x → (flatC T.c)[j]? = some y → f' ≤ T.s.length → ∀ (g' : G) (M' : Nat → Prop) (w' : World), g.Le g' → Fut g' w' → TabM g' M' T w' → Calls Try.prog 55 [Value.pointer (some ⟨T.tb, 0, none⟩), .int .i64 j, .int .i64 f'].toArray w' (RowPost g' w' M' T y f')) :
    Calls Try.prog 55 #[.pointer (some ⟨T.tb, 0, none⟩), .int .i64 i, .int .i64 f] w (RowPost g w M T x f) := by
  have HCASE := hid hcase
  clear hcase
  have t0 := fut_cell hP.tab 0 _ rfl
  have t1 := fut_cell hP.tab 1 _ rfl
  have t2 := fut_cell hP.tab 2 _ rfl
  have hlen := hP.s.length
  simp only [List.length_map] at hlen
  have hsl : T.slen = T.s.length := hlen.1
  rw [hsl] at t1
  obtain ⟨v, hv, hvf, hro⟩ := hM.entry hx
  have hin := flat_lt hx
  have hfew := hP.few
  have hshort := hP.short
  have hii : (i : Int) < (nodes T.c : Int) := by omega
  have hff : (f : Int) < (T.s.length : Int) + 1 := by omega
  have HP := hid hP
  have HM := hid hM
  have HX := hid hx
  have HIH := hid IH
  have HRO := hid hro
  have HLEN := hid hlen
  have HSL := hid hsl
  clear hP hM hx IH hro hlen hsl
  obtain ⟨va, vn, vc, rfl⟩ : ∃ va vn vc, v = .slice va vn vc := by
    rcases HRO.out with h | ⟨_, _, h, _⟩ <;> exact ⟨_, _, _, h⟩
  have hnil := eql_nil134 va vn vc
  go_enter Try.func55, Try.ntmps55
  go_upto_if 20 with fail
  have HS0 := hid hw
  go_cut [] from 13 (fun wc => ∃ M1 rb, Hid (TStep T g w M g wc M1) ∧ Hid (TabM g M1 T wc) ∧ Hid (wc.cell? ⟨T.eb, i, none⟩ = some (.slice (some ⟨rb, 0, none⟩) (T.s.length + 1) (T.s.length + 1))))
  case first =>
    rcases HRO.out with hr | ⟨rb, rs, hr, -⟩
    · simp only [Value.slice.injEq] at hr
      obtain ⟨rfl, rfl, rfl⟩ := hr
      go_wp2_with fail
      have hsum : IntKind.i64.wrap ((T.s.length : Int) + 1) = (T.s.length : Int) + 1 := IntWalk.i64_in _ (by omega)
      have hmk := make_row T.s.length hshort
      have fa := fun o => hw.alloc o
      have hebl := (HM.out.out _ HM.out.eb).2
      have hvA : ∀ o, (w.alloc o).cell? ⟨T.eb, i, none⟩ = some (.slice none 0 0) := fun o => (World.cell?_alloc_lt _ _ _ hebl).trans hv
      have hvfA : ∀ o, (w.alloc o).frozen? ⟨T.eb, i, none⟩ = false := fun o => (World.frozen?_alloc_old _ _ _ (Nat.ne_of_lt hebl)).trans hvf
      go_region
      go_wp2_with fail
      go_meet
      case rel =>
        have R := HM.out.newRow hw HX.out hv (World.grownBy_alloc w _ none) (heap_alloc_new w (.cells (madeCells #[.pointer none] (T.s.length + 1)) 109)) (by simp [madeCells]) (made_nil _)
        have e : (w.setCell ⟨T.eb, i, none⟩ (.slice (some ⟨w.heap.size, 0, none⟩) (T.s.length + 1) (T.s.length + 1))).alloc (.cells (madeCells #[.pointer none] (T.s.length + 1)) 109) = (w.alloc (.cells (madeCells #[.pointer none] (T.s.length + 1)) 109)).setCell ⟨T.eb, i, none⟩ (.slice (some ⟨w.heap.size, 0, none⟩) (T.s.length + 1) (T.s.length + 1)) := (World.setCell_alloc_past _ _ _ _ hebl).symm
        rw [e]
        exact ⟨_, _, R.1.drew, R.2.1.drew, R.2.2⟩
    · simp only [Value.slice.injEq] at hr
      obtain ⟨rfl, rfl, rfl⟩ := hr
      go_wp2_with fail
      go_meet
      case rel => exact ⟨M, rb, TStep.refl M hw, HM.out, hv⟩
  case rest =>
    obtain ⟨M1, rb, HT1, HM1, HV1⟩ := hcut
    obtain ⟨u, hu, huf, hent, -⟩ := HM1.out.cell HX.out HV1.out hf
    have hv1 := HV1.out
    have HENT := hid hent
    have hf1 := HT1.out.step.fut
    clear hv hvf hnil hw hent
    rcases HENT.out with rfl | ⟨pb, p, rfl, hpb, hpr⟩
    · obtain ⟨r, ka, kn, kcap, hpm⟩ := HP.out.parts i x HX.out
      have k0 := hpm.c.c0
      rw [hpm.k] at k0
      have fa1 := fun o => hf1.alloc o
      have HPM := hid hpm
      clear hpm
      go_upto_block 0 with fail
      change Code.wp _ _ _ _ (wc.alloc (.cells (placesV fun _ => 0) 136))
      generalize hpk : wc.heap.size = pk
      have hz0 := heap_alloc_new wc (.cells (placesV fun _ => 0) 136)
      rw [hpk] at hz0
      have hs1 : Step (fun _ => False) g wc g (wc.alloc (.cells (placesV fun _ => 0) 136)) := (Step.refl _ hf1).alloc _
      have hpkM : ¬ M1 pk := fun h => by have := (HM1.out.out _ h).2; omega
      have hpkg : g.blk pk = none := hf1.none_of_size (by omega)
      generalize wc.alloc (.cells (placesV fun _ => 0) 136) = W1 at hz0 hs1 ⊢
      have HZ0 : Hid (W1.heap[pk]? = some (.cells (placesV fun _ => 0) 136)) := hz0
      have hT2 : TStep T g wc M1 g W1 M1 := TStep.of_step hs1 (HM1.out.out _ HM1.out.eb).2
      have HT2 := hid hT2
      have HM2 := hid (HM1.out.le hs1 (fun _ _ => id))
      have HPK := hid hpkM
      have HPG := hid hpkg
      have HPS := hid hpk
      have hfW := hT2.step.fut
      clear hz0 hs1 hT2 hpkM hpkg hpk fa1 hu huf hv1 hf1
      have HA0 : Hid (Acc T g wc M1 pk (fun _ => false) g M1 W1) := ⟨HT2.out, HM2.out, ⟨_, HZ0.out, rep_zero⟩, HPK.out, HPG.out, Nat.le_of_eq HPS.out⟩
      go_cut [] from 10 (fun wd => ∃ g2 M2, Hid (Acc T g wc M1 pk (endsF T.s x.re f) g2 M2 wd))
      case first =>
        obtain ⟨hk, hl, hre⟩ := HCASE.out
        have HRE := hid hre
        have HLL := hid hl
        clear hre hl
        rw [hk] at *
        have k1 := HPM.out.c.c1
        have k2 := HPM.out.c.c2
        have k3 := HPM.out.c.c3
        have k4 := HPM.out.c.c4
        rw [HPM.out.s] at k1 k2 k3 k4
        have hwfs := HP.out.sets _ _ HX.out
        have hx1 : ∀ v : Wg g W1, Fut g v.w := fun v => v.h.fut
        have hx2 : Nonempty (Wg g W1) := ⟨⟨W1, Grow.refl hfW⟩⟩
        by_cases hlt : f < T.s.length
        · have hltb : decide (f < T.s.length) = true := by simpa using hlt
          have hlti : (f : Int) < (T.s.length : Int) := by omega
          obtain ⟨sb, soff, hsa, hsc⟩ := HP.out.s.get (i := f) (by simpa using hlt)
          have hs1 := hsc f (byteV T.s[f]) (by simp [hlt])
          unfold byteV at hs1
          have HSC := hid hsc
          clear hsc
          rw [hsa] at t1
          have hbx := (T.s[f]).toNat_lt
          generalize hxe : (T.s[f]).toNat = bx at *
          have HXE := hid hxe
          clear hxe
          go_wp2_with fail
          refine wp_region_cls (g := g) (w0 := W1) (by kernel_rfl) (by kernel_rfl) (Grow.refl hfW) ?_
          repeat (go_big_quiet_step ((go_at_call 52; exact quiet_grow (has_any _ _ _ (hx1 _) (by omega) hwfs))))
          refine wpQuiet_nil ?_
          rintro _ ⟨⟨w2, hg2⟩, rfl⟩
          have HG2 := hid hg2
          clear hg2 hx1 hx2
          have HA2 := hid (HA0.out.grow HG2.out)
          obtain ⟨p2, hp2, hr2⟩ := HA2.out.pl
          have HP2 := hid hp2
          have HR2 := hid hr2
          clear hp2 hr2
          have hend : ∀ j, endsF T.s x.re f j = (x.set.has bx && j == f + 1) := by
            intro j
            rw [HRE.out, endsF, List.getElem?_eq_getElem hlt]
            show (x.set.has (T.s[f]).toNat && j == f + 1) = _
            rw [HXE.out]
          have HE := hid hend
          clear hend
          cases hh : x.set.has bx with
          | true =>
            have HH := hid hh
            clear hh
            go_wp2_with (go_at_call 73; go_loud (refine (pput_at (i := f + 1) (by omega) _ HP2.out HR2.out (by omega)).mono ?_); rintro e w3 hp3; have HP3 := hid hp3; obtain ⟨rfl, -⟩ := hp3)
            go_meet
            case rel => exact ⟨g, M1, (HA2.out.post HP3.out).of (fun i => by rw [HE.out, HH.out]; rfl)⟩
          | false =>
            have HH := hid hh
            clear hh
            go_wp2_with fail
            go_meet
            case rel => exact ⟨g, M1, HA2.out.of (fun i => by rw [HE.out, HH.out]; rfl)⟩
        · have hltb : decide (f < T.s.length) = false := by simpa using hlt
          have hlti : ¬ (f : Int) < (T.s.length : Int) := by omega
          go_wp2_with fail
          refine wp_region_cls (g := g) (w0 := W1) (by kernel_rfl) (by kernel_rfl) (Grow.refl hfW) ?_
          repeat (go_big_quiet_step ((go_at_call 52; exact quiet_grow (has_any _ _ _ (hx1 _) (by omega) hwfs))))
          refine wpQuiet_nil ?_
          rintro _ ⟨⟨w2, hg2⟩, rfl⟩
          go_wp2_with fail
          go_meet
          case rel => exact ⟨g, M1, (HA0.out.grow hg2).of (fun i => by rw [HRE.out, endsF, List.getElem?_eq_none (by omega)])⟩
      case rest =>
        obtain ⟨g2, M2, HAC⟩ := hcut
        obtain ⟨p, hp3, hr3⟩ := HAC.out.pl
        have HT3 := hid HAC.out.st
        have HM3 := hid HAC.out.tab
        have HP3 := hid hp3
        have HR3 := hid hr3
        clear hp3 hr3
        have hv3 := HT3.out.stay _ _ _ _ HV1.out
        obtain ⟨u3, hu3, huf3, -, -⟩ := HM3.out.cell HX.out hv3 hf
        have hf3 := HT3.out.step.fut.le HT3.out.step.le
        go_wp2_with fail
        go_ret
        have hsz := HT1.out.step.size
        have hps := HPS.out
        have R := HM3.out.store HX.out hv3 HP3.out HAC.out.ng HAC.out.nm HR3.out (w0 := w) (M0 := M) (by omega) (HT1.out.trans HT3.out)
        exact ⟨_, _, pk, p, rfl, R.1, R.2, G.add_same _ _ _, HR3.out⟩
    · have HPB := hid hpb
      have HPR := hid hpr
      clear hpb hpr
      go_wp2_with fail
      go_ret
      exact ⟨g, M1, pb, p, rfl, HT1.out, HM1.out, HPB.out, HPR.out⟩
end Go.Proofs.Ytjodmimnbpgfcaa
