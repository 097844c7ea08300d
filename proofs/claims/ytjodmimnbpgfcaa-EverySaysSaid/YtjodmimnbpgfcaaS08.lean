/- lang's row, walked. A library text: no claim is stated here. -/
import Derived.Test.YtjodmimnbpgfcaaS05
import Derived.Deep.CutBlock
import Derived.Deep.RegionLaw
import Derived.WalkSpells

/- RowC -/
namespace Go.Proofs.Ytjodmimnbpgfcaa
open Go.RowKit Go.IntWalk

set_option maxRecDepth 100000 in
set_option maxHeartbeats 4000000 in
theorem row_4 {g : G} {M : Nat → Prop} {T : Tab} {x : Core} {i f : Nat} (hx : (flatC T.c)[i]? = some x) (hf : f ≤ T.s.length) (hcase : (∃ y z, x.kind = 4 ∧ x.l = [y, z] ∧ x.re = .or y.re z.re)) (hP : TabP g T) (w : World) (hw : Fut g w) (hM : TabM g M T w)
    (IH : ∀ (y : Core) (j f' : Nat), nodes y < nodes x → (flatC T.c)[j]? = some y → f' ≤ T.s.length → ∀ (g' : G) (M' : Nat → Prop) (w' : World), g.Le g' → Fut g' w' → TabM g' M' T w' → Calls Try.prog 55 [Value.pointer (some ⟨T.tb, 0, none⟩), .int .i64 j, .int .i64 f'].toArray w' (RowPost g' w' M' T y f')) :
    Calls Try.prog 55 #[.pointer (some ⟨T.tb, 0, none⟩), .int .i64 i, .int .i64 f] w (RowPost g w M T x f) := by
  have HCASE := hid hcase
  clear hcase
  have t0 := fut_cell hP.tab 0 _ rfl
  have t1 := fut_cell hP.tab 1 _ rfl
  have t2 := fut_cell hP.tab 2 _ rfl
  have hlen := hP.s.length
  simp only [List.length_map] at hlen
  have hsl : T.slen = T.s.length := hlen.1
  rw [hsl] at t1
  obtain ⟨v, hv, hvf, hro⟩ := hM.entry hx
  have hin := flat_lt hx
  have hfew := hP.few
  have hshort := hP.short
  have hii : (i : Int) < (nodes T.c : Int) := by omega
  have hff : (f : Int) < (T.s.length : Int) + 1 := by omega
  have HP := hid hP
  have HM := hid hM
  have HX := hid hx
  have HIH := hid IH
  have HRO := hid hro
  have HLEN := hid hlen
  have HSL := hid hsl
  clear hP hM hx IH hro hlen hsl
  obtain ⟨va, vn, vc, rfl⟩ : ∃ va vn vc, v = .slice va vn vc := by
    rcases HRO.out with h | ⟨_, _, h, _⟩ <;> exact ⟨_, _, _, h⟩
  have hnil := eql_nil134 va vn vc
  go_enter Try.func55, Try.ntmps55
  go_upto_if 20 with fail
  have HS0 := hid hw
  go_cut [] from 13 (fun wc => ∃ M1 rb, Hid (TStep T g w M g wc M1) ∧ Hid (TabM g M1 T wc) ∧ Hid (wc.cell? ⟨T.eb, i, none⟩ = some (.slice (some ⟨rb, 0, none⟩) (T.s.length + 1) (T.s.length + 1))))
  case first =>
    rcases HRO.out with hr | ⟨rb, rs, hr, -⟩
    · simp only [Value.slice.injEq] at hr
      obtain ⟨rfl, rfl, rfl⟩ := hr
      go_wp2_with fail
      have hsum : IntKind.i64.wrap ((T.s.length : Int) + 1) = (T.s.length : Int) + 1 := IntWalk.i64_in _ (by omega)
      have hmk := make_row T.s.length hshort
      have fa := fun o => hw.alloc o
      have hebl := (HM.out.out _ HM.out.eb).2
      have hvA : ∀ o, (w.alloc o).cell? ⟨T.eb, i, none⟩ = some (.slice none 0 0) := fun o => (World.cell?_alloc_lt _ _ _ hebl).trans hv
      have hvfA : ∀ o, (w.alloc o).frozen? ⟨T.eb, i, none⟩ = false := fun o => (World.frozen?_alloc_old _ _ _ (Nat.ne_of_lt hebl)).trans hvf
      go_region
      go_wp2_with fail
      go_meet
      case rel =>
        have R := HM.out.newRow hw HX.out hv (World.grownBy_alloc w _ none) (heap_alloc_new w (.cells (madeCells #[.pointer none] (T.s.length + 1)) 109)) (by simp [madeCells]) (made_nil _)
        have e : (w.setCell ⟨T.eb, i, none⟩ (.slice (some ⟨w.heap.size, 0, none⟩) (T.s.length + 1) (T.s.length + 1))).alloc (.cells (madeCells #[.pointer none] (T.s.length + 1)) 109) = (w.alloc (.cells (madeCells #[.pointer none] (T.s.length + 1)) 109)).setCell ⟨T.eb, i, none⟩ (.slice (some ⟨w.heap.size, 0, none⟩) (T.s.length + 1) (T.s.length + 1)) := (World.setCell_alloc_past _ _ _ _ hebl).symm
        rw [e]
        exact ⟨_, _, R.1.drew, R.2.1.drew, R.2.2⟩
    · simp only [Value.slice.injEq] at hr
      obtain ⟨rfl, rfl, rfl⟩ := hr
      go_wp2_with fail
      go_meet
      case rel => exact ⟨M, rb, TStep.refl M hw, HM.out, hv⟩
  case rest =>
    obtain ⟨M1, rb, HT1, HM1, HV1⟩ := hcut
    obtain ⟨u, hu, huf, hent, -⟩ := HM1.out.cell HX.out HV1.out hf
    have hv1 := HV1.out
    have HENT := hid hent
    have hf1 := HT1.out.step.fut
    clear hv hvf hnil hw hent
    rcases HENT.out with rfl | ⟨pb, p, rfl, hpb, hpr⟩
    · obtain ⟨r, ka, kn, kcap, hpm⟩ := HP.out.parts i x HX.out
      have k0 := hpm.c.c0
      rw [hpm.k] at k0
      have fa1 := fun o => hf1.alloc o
      have HPM := hid hpm
      clear hpm
      go_upto_block 0 with fail
      change Code.wp _ _ _ _ (wc.alloc (.cells (placesV fun _ => 0) 136))
      generalize hpk : wc.heap.size = pk
      have hz0 := heap_alloc_new wc (.cells (placesV fun _ => 0) 136)
      rw [hpk] at hz0
      have hs1 : Step (fun _ => False) g wc g (wc.alloc (.cells (placesV fun _ => 0) 136)) := (Step.refl _ hf1).alloc _
      have hpkM : ¬ M1 pk := fun h => by have := (HM1.out.out _ h).2; omega
      have hpkg : g.blk pk = none := hf1.none_of_size (by omega)
      generalize wc.alloc (.cells (placesV fun _ => 0) 136) = W1 at hz0 hs1 ⊢
      have HZ0 : Hid (W1.heap[pk]? = some (.cells (placesV fun _ => 0) 136)) := hz0
      have hT2 : TStep T g wc M1 g W1 M1 := TStep.of_step hs1 (HM1.out.out _ HM1.out.eb).2
      have HT2 := hid hT2
      have HM2 := hid (HM1.out.le hs1 (fun _ _ => id))
      have HPK := hid hpkM
      have HPG := hid hpkg
      have HPS := hid hpk
      have hfW := hT2.step.fut
      clear hz0 hs1 hT2 hpkM hpkg hpk fa1 hu huf hv1 hf1
      have HA0 : Hid (Acc T g wc M1 pk (fun _ => false) g M1 W1) := ⟨HT2.out, HM2.out, ⟨_, HZ0.out, rep_zero⟩, HPK.out, HPG.out, Nat.le_of_eq HPS.out⟩
      go_cut [] from 10 (fun wd => ∃ g2 M2, Hid (Acc T g wc M1 pk (endsF T.s x.re f) g2 M2 wd))
      case first =>
        obtain ⟨y, z, hk, hl, hre⟩ := HCASE.out
        have HRE := hid hre
        have HLL := hid hl
        clear hre hl
        rw [hk] at *
        have hkids := HPM.out.kids
        have h7 := HPM.out.c7
        rw [HLL.out] at hkids
        obtain ⟨kb, koff, hka, hkc⟩ := hkids.get (i := 0) (by simp [kidIdx])
        have hkn := hkids.length
        simp only [List.length_map, kidIdx_len, List.length_cons, List.length_nil] at hkn
        obtain ⟨rfl, hkn2, hkn3⟩ := hkn
        have hk0 : ∀ w, Fut g w → w.cell? ⟨kb, koff, none⟩ = some (.int .i64 ((i + 1 : Nat) : Int)) := hkc 0 (natV (i + 1)) rfl
        have hk1 : ∀ w, Fut g w → w.cell? ⟨kb, koff + 1, none⟩ = some (.int .i64 ((i + 1 + nodes y : Nat) : Int)) := hkc 1 (natV (i + 1 + nodes y)) rfl
        obtain ⟨j, hj1, hj2, -⟩ := flat_kid HX.out (j := 0) (y := y) (by rw [HLL.out]; rfl)
        rw [HLL.out] at hj1
        simp only [kidIdx, List.getElem?_cons_zero, Option.some.injEq] at hj1
        subst hj1
        obtain ⟨j, hj1, hj3, -⟩ := flat_kid HX.out (j := 1) (y := z) (by rw [HLL.out]; rfl)
        rw [HLL.out] at hj1
        simp only [kidIdx, List.getElem?_cons_succ, List.getElem?_cons_zero, Option.some.injEq] at hj1
        subst hj1
        have hny : nodes y < nodes x ∧ nodes z < nodes x := by
          cases x with
          | mk k s n l =>
            have := HLL.out
            simp only [Core.l] at this
            subst this
            simp only [nodes, nodesL]; omega
        obtain ⟨ki0, hki0⟩ : ∃ ki0, ki0 = i + 1 := ⟨_, rfl⟩
        obtain ⟨ki1, hki1⟩ : ∃ ki1, ki1 = i + 1 + nodes y := ⟨_, rfl⟩
        rw [← hki0] at hk0 hj2
        rw [← hki1] at hk1 hj3
        clear hki0 hki1
        have HNY := hid hny
        have HJ2 := hid hj2
        have HJ3 := hid hj3
        clear hkids hkc hny hj2 hj3 hkn2 hkn3
        subst hka
        have IHy := HIH.out y ki0 f HNY.out.1 HJ2.out hf g M1 W1 (G.Le.refl g) hfW HM2.out
        have IHz := fun g' M' w' h1 h2 h3 => HIH.out z ki1 f HNY.out.2 HJ3.out hf g' M' w' h1 h2 h3
        go_wp2_with (first | (go_at_call 55; refine (Calls.mono (P := Try.prog) (by simpa using IHy) ?_); rintro e w3 hr3; obtain ⟨g3, M3, pb3, q3, rfl, hac3, hpb3, hq3, hne3, hle3⟩ := HA0.out.call hr3; obtain ⟨p4, hp4, hr4⟩ := hac3.pl; have HAC3 := hid hac3; have HP4 := hid hp4; have HR4 := hid hr4; have HQ3 := hid hq3; have HB3 := hid (hac3.st.step.fut.blk _ _ hpb3); have HNE3 := hid hne3; have HLE3 := hid hle3; have hf3 := hac3.fut; clear IHy hr3 hac3 hpb3 hq3 hne3 hle3 hp4 hr4) | (go_at_call 74; refine (por_any _ HP4.out HR4.out HB3.out HQ3.out HNE3.out).mono ?_; rintro e w4 hp5; have HAC4 := hid (HAC3.out.post hp5); have hf4 := HAC4.out.fut; obtain ⟨rfl, -⟩ := hp5; clear HP4) | (go_at_call 55; refine (Calls.mono (P := Try.prog) (by simpa using IHz _ _ _ HLE3.out HAC4.out.st.step.fut HAC4.out.tab) ?_); rintro e w5 hr5; obtain ⟨g5, M5, pb5, q5, rfl, hac5, hpb5, hq5, hne5, hle5⟩ := HAC4.out.call hr5; obtain ⟨p6, hp6, hr6⟩ := hac5.pl; have HAC5 := hid hac5; have HP6 := hid hp6; have HR6 := hid hr6; have HQ5 := hid hq5; have HB5 := hid (hac5.st.step.fut.blk _ _ hpb5); have HNE5 := hid hne5; have hf5 := hac5.fut; clear hr5 hac5 hpb5 hq5 hne5 hle5 hp6 hr6) | (go_at_call 74; refine (por_any _ HP6.out HR6.out HB5.out HQ5.out HNE5.out).mono ?_; rintro e w6 hp7; have HP7 := hid hp7; obtain ⟨rfl, -⟩ := hp7))
        go_meet
        case rel => exact ⟨g5, M5, (HAC5.out.post HP7.out).of (fun i => by rw [HRE.out, endsF, Bool.false_or])⟩
      case rest =>
        obtain ⟨g2, M2, HAC⟩ := hcut
        obtain ⟨p, hp3, hr3⟩ := HAC.out.pl
        have HT3 := hid HAC.out.st
        have HM3 := hid HAC.out.tab
        have HP3 := hid hp3
        have HR3 := hid hr3
        clear hp3 hr3
        have hv3 := HT3.out.stay _ _ _ _ HV1.out
        obtain ⟨u3, hu3, huf3, -, -⟩ := HM3.out.cell HX.out hv3 hf
        have hf3 := HT3.out.step.fut.le HT3.out.step.le
        go_wp2_with fail
        go_ret
        have hsz := HT1.out.step.size
        have hps := HPS.out
        have R := HM3.out.store HX.out hv3 HP3.out HAC.out.ng HAC.out.nm HR3.out (w0 := w) (M0 := M) (by omega) (HT1.out.trans HT3.out)
        exact ⟨_, _, pk, p, rfl, R.1, R.2, G.add_same _ _ _, HR3.out⟩
    · have HPB := hid hpb
      have HPR := hid hpr
      clear hpb hpr
      go_wp2_with fail
      go_ret
      exact ⟨g, M1, pb, p, rfl, HT1.out, HM1.out, HPB.out, HPR.out⟩
set_option maxRecDepth 100000 in
set_option maxHeartbeats 4000000 in
theorem row_6 {g : G} {M : Nat → Prop} {T : Tab} {x : Core} {i f : Nat} (hx : (flatC T.c)[i]? = some x) (hf : f ≤ T.s.length) (hcase : (∃ y, x.kind = 6 ∧ x.l = [y] ∧ x.re = .group y.re)) (hP : TabP g T) (w : World) (hw : Fut g w) (hM : TabM g M T w)
    (IH : ∀ (y : Core) (j f' : Nat), nodes y < nodes x → (flatC T.c)[j]? = some y → f' ≤ T.s.length → ∀ (g' : G) (M' : Nat → Prop) (w' : World), g.Le g' → Fut g' w' → TabM g' M' T w' → Calls Try.prog 55 [Value.pointer (some ⟨T.tb, 0, none⟩), .int .i64 j, .int .i64 f'].toArray w' (RowPost g' w' M' T y f')) :
    Calls Try.prog 55 #[.pointer (some ⟨T.tb, 0, none⟩), .int .i64 i, .int .i64 f] w (RowPost g w M T x f) := by
  have HCASE := hid hcase
  clear hcase
  have t0 := fut_cell hP.tab 0 _ rfl
  have t1 := fut_cell hP.tab 1 _ rfl
  have t2 := fut_cell hP.tab 2 _ rfl
  have hlen := hP.s.length
  simp only [List.length_map] at hlen
  have hsl : T.slen = T.s.length := hlen.1
  rw [hsl] at t1
  obtain ⟨v, hv, hvf, hro⟩ := hM.entry hx
  have hin := flat_lt hx
  have hfew := hP.few
  have hshort := hP.short
  have hii : (i : Int) < (nodes T.c : Int) := by omega
  have hff : (f : Int) < (T.s.length : Int) + 1 := by omega
  have HP := hid hP
  have HM := hid hM
  have HX := hid hx
  have HIH := hid IH
  have HRO := hid hro
  have HLEN := hid hlen
  have HSL := hid hsl
  clear hP hM hx IH hro hlen hsl
  obtain ⟨va, vn, vc, rfl⟩ : ∃ va vn vc, v = .slice va vn vc := by
    rcases HRO.out with h | ⟨_, _, h, _⟩ <;> exact ⟨_, _, _, h⟩
  have hnil := eql_nil134 va vn vc
  go_enter Try.func55, Try.ntmps55
  go_upto_if 20 with fail
  have HS0 := hid hw
  go_cut [] from 13 (fun wc => ∃ M1 rb, Hid (TStep T g w M g wc M1) ∧ Hid (TabM g M1 T wc) ∧ Hid (wc.cell? ⟨T.eb, i, none⟩ = some (.slice (some ⟨rb, 0, none⟩) (T.s.length + 1) (T.s.length + 1))))
  case first =>
    rcases HRO.out with hr | ⟨rb, rs, hr, -⟩
    · simp only [Value.slice.injEq] at hr
      obtain ⟨rfl, rfl, rfl⟩ := hr
      go_wp2_with fail
      have hsum : IntKind.i64.wrap ((T.s.length : Int) + 1) = (T.s.length : Int) + 1 := IntWalk.i64_in _ (by omega)
      have hmk := make_row T.s.length hshort
      have fa := fun o => hw.alloc o
      have hebl := (HM.out.out _ HM.out.eb).2
      have hvA : ∀ o, (w.alloc o).cell? ⟨T.eb, i, none⟩ = some (.slice none 0 0) := fun o => (World.cell?_alloc_lt _ _ _ hebl).trans hv
      have hvfA : ∀ o, (w.alloc o).frozen? ⟨T.eb, i, none⟩ = false := fun o => (World.frozen?_alloc_old _ _ _ (Nat.ne_of_lt hebl)).trans hvf
      go_region
      go_wp2_with fail
      go_meet
      case rel =>
        have R := HM.out.newRow hw HX.out hv (World.grownBy_alloc w _ none) (heap_alloc_new w (.cells (madeCells #[.pointer none] (T.s.length + 1)) 109)) (by simp [madeCells]) (made_nil _)
        have e : (w.setCell ⟨T.eb, i, none⟩ (.slice (some ⟨w.heap.size, 0, none⟩) (T.s.length + 1) (T.s.length + 1))).alloc (.cells (madeCells #[.pointer none] (T.s.length + 1)) 109) = (w.alloc (.cells (madeCells #[.pointer none] (T.s.length + 1)) 109)).setCell ⟨T.eb, i, none⟩ (.slice (some ⟨w.heap.size, 0, none⟩) (T.s.length + 1) (T.s.length + 1)) := (World.setCell_alloc_past _ _ _ _ hebl).symm
        rw [e]
        exact ⟨_, _, R.1.drew, R.2.1.drew, R.2.2⟩
    · simp only [Value.slice.injEq] at hr
      obtain ⟨rfl, rfl, rfl⟩ := hr
      go_wp2_with fail
      go_meet
      case rel => exact ⟨M, rb, TStep.refl M hw, HM.out, hv⟩
  case rest =>
    obtain ⟨M1, rb, HT1, HM1, HV1⟩ := hcut
    obtain ⟨u, hu, huf, hent, -⟩ := HM1.out.cell HX.out HV1.out hf
    have hv1 := HV1.out
    have HENT := hid hent
    have hf1 := HT1.out.step.fut
    clear hv hvf hnil hw hent
    rcases HENT.out with rfl | ⟨pb, p, rfl, hpb, hpr⟩
    · obtain ⟨r, ka, kn, kcap, hpm⟩ := HP.out.parts i x HX.out
      have k0 := hpm.c.c0
      rw [hpm.k] at k0
      have fa1 := fun o => hf1.alloc o
      have HPM := hid hpm
      clear hpm
      go_upto_block 0 with fail
      change Code.wp _ _ _ _ (wc.alloc (.cells (placesV fun _ => 0) 136))
      generalize hpk : wc.heap.size = pk
      have hz0 := heap_alloc_new wc (.cells (placesV fun _ => 0) 136)
      rw [hpk] at hz0
      have hs1 : Step (fun _ => False) g wc g (wc.alloc (.cells (placesV fun _ => 0) 136)) := (Step.refl _ hf1).alloc _
      have hpkM : ¬ M1 pk := fun h => by have := (HM1.out.out _ h).2; omega
      have hpkg : g.blk pk = none := hf1.none_of_size (by omega)
      generalize wc.alloc (.cells (placesV fun _ => 0) 136) = W1 at hz0 hs1 ⊢
      have HZ0 : Hid (W1.heap[pk]? = some (.cells (placesV fun _ => 0) 136)) := hz0
      have hT2 : TStep T g wc M1 g W1 M1 := TStep.of_step hs1 (HM1.out.out _ HM1.out.eb).2
      have HT2 := hid hT2
      have HM2 := hid (HM1.out.le hs1 (fun _ _ => id))
      have HPK := hid hpkM
      have HPG := hid hpkg
      have HPS := hid hpk
      have hfW := hT2.step.fut
      clear hz0 hs1 hT2 hpkM hpkg hpk fa1 hu huf hv1 hf1
      have HA0 : Hid (Acc T g wc M1 pk (fun _ => false) g M1 W1) := ⟨HT2.out, HM2.out, ⟨_, HZ0.out, rep_zero⟩, HPK.out, HPG.out, Nat.le_of_eq HPS.out⟩
      go_cut [] from 10 (fun wd => ∃ g2 M2, Hid (Acc T g wc M1 pk (endsF T.s x.re f) g2 M2 wd))
      case first =>
        obtain ⟨y, hk, hl, hre⟩ := HCASE.out
        have HRE := hid hre
        have HLL := hid hl
        clear hre hl
        rw [hk] at *
        have hkids := HPM.out.kids
        have h7 := HPM.out.c7
        rw [HLL.out] at hkids
        obtain ⟨kb, koff, hka, hkc⟩ := hkids.get (i := 0) (by simp [kidIdx])
        have hkn := hkids.length
        simp only [List.length_map, kidIdx_len, List.length_cons, List.length_nil] at hkn
        obtain ⟨rfl, hkn2, hkn3⟩ := hkn
        have hk0 : ∀ w, Fut g w → w.cell? ⟨kb, koff, none⟩ = some (.int .i64 ((i + 1 : Nat) : Int)) := hkc 0 (natV (i + 1)) rfl
        simp only [Int.natCast_add, Int.cast_ofNat_Int] at hk0
        obtain ⟨j, hj1, hj2, hj3⟩ := flat_kid HX.out (j := 0) (y := y) (by rw [HLL.out]; rfl)
        rw [HLL.out] at hj1
        simp only [kidIdx, List.getElem?_cons_zero, Option.some.injEq] at hj1
        subst hj1
        have hny : nodes y < nodes x := by
          cases x with
          | mk k s n l =>
            have := HLL.out
            simp only [Core.l] at this
            subst this
            simp only [nodes, nodesL]; omega
        have IHy := HIH.out y (i + 1) f hny hj2 hf g M1 W1 (G.Le.refl g) hfW HM2.out
        have hNY := hid hny
        have hJ2 := hid hj2
        clear hkids hkc hny hj2 hj3 hkn2 hkn3
        subst hka
        go_wp2_with (first | (go_at_call 55; refine (Calls.mono (P := Try.prog) (by simpa using IHy) ?_); rintro e w3 hr3; obtain ⟨g3, M3, pb3, q3, rfl, hac3, hpb3, hq3, hne3, hle3⟩ := HA0.out.call hr3; obtain ⟨p4, hp4, hr4⟩ := hac3.pl; have HAC3 := hid hac3; have HP4 := hid hp4; have HR4 := hid hr4; have HQ3 := hid hq3; have HB3 := hid (hac3.st.step.fut.blk _ _ hpb3); have HNE3 := hid hne3; have hf3 := hac3.fut; clear hr3 hac3 hpb3 hq3 hne3 hle3 hp4 hr4) | (go_at_call 74; refine (por_any _ HP4.out HR4.out HB3.out HQ3.out HNE3.out).mono ?_; rintro e w4 hp5; have HP5 := hid hp5; obtain ⟨rfl, -⟩ := hp5))
        go_meet
        case rel => exact ⟨g3, M3, (HAC3.out.post HP5.out).of (fun i => by rw [HRE.out, endsF, Bool.false_or])⟩
      case rest =>
        obtain ⟨g2, M2, HAC⟩ := hcut
        obtain ⟨p, hp3, hr3⟩ := HAC.out.pl
        have HT3 := hid HAC.out.st
        have HM3 := hid HAC.out.tab
        have HP3 := hid hp3
        have HR3 := hid hr3
        clear hp3 hr3
        have hv3 := HT3.out.stay _ _ _ _ HV1.out
        obtain ⟨u3, hu3, huf3, -, -⟩ := HM3.out.cell HX.out hv3 hf
        have hf3 := HT3.out.step.fut.le HT3.out.step.le
        go_wp2_with fail
        go_ret
        have hsz := HT1.out.step.size
        have hps := HPS.out
        have R := HM3.out.store HX.out hv3 HP3.out HAC.out.ng HAC.out.nm HR3.out (w0 := w) (M0 := M) (by omega) (HT1.out.trans HT3.out)
        exact ⟨_, _, pk, p, rfl, R.1, R.2, G.add_same _ _ _, HR3.out⟩
    · have HPB := hid hpb
      have HPR := hid hpr
      clear hpb hpr
      go_wp2_with fail
      go_ret
      exact ⟨g, M1, pb, p, rfl, HT1.out, HM1.out, HPB.out, HPR.out⟩
set_option maxRecDepth 100000 in
set_option maxHeartbeats 4000000 in
theorem row_7 {g : G} {M : Nat → Prop} {T : Tab} {x : Core} {i f : Nat} (hx : (flatC T.c)[i]? = some x) (hf : f ≤ T.s.length) (hcase : (∃ y, x.kind = 7 ∧ x.l = [y] ∧ x.re = .anew y.re)) (hP : TabP g T) (w : World) (hw : Fut g w) (hM : TabM g M T w)
    (IH : ∀ (y : Core) (j f' : Nat), nodes y < nodes x → (flatC T.c)[j]? = some y → f' ≤ T.s.length → ∀ (g' : G) (M' : Nat → Prop) (w' : World), g.Le g' → Fut g' w' → TabM g' M' T w' → Calls Try.prog 55 [Value.pointer (some ⟨T.tb, 0, none⟩), .int .i64 j, .int .i64 f'].toArray w' (RowPost g' w' M' T y f')) :
    Calls Try.prog 55 #[.pointer (some ⟨T.tb, 0, none⟩), .int .i64 i, .int .i64 f] w (RowPost g w M T x f) := by
  have HCASE := hid hcase
  clear hcase
  have t0 := fut_cell hP.tab 0 _ rfl
  have t1 := fut_cell hP.tab 1 _ rfl
  have t2 := fut_cell hP.tab 2 _ rfl
  have hlen := hP.s.length
  simp only [List.length_map] at hlen
  have hsl : T.slen = T.s.length := hlen.1
  rw [hsl] at t1
  obtain ⟨v, hv, hvf, hro⟩ := hM.entry hx
  have hin := flat_lt hx
  have hfew := hP.few
  have hshort := hP.short
  have hii : (i : Int) < (nodes T.c : Int) := by omega
  have hff : (f : Int) < (T.s.length : Int) + 1 := by omega
  have HP := hid hP
  have HM := hid hM
  have HX := hid hx
  have HIH := hid IH
  have HRO := hid hro
  have HLEN := hid hlen
  have HSL := hid hsl
  clear hP hM hx IH hro hlen hsl
  obtain ⟨va, vn, vc, rfl⟩ : ∃ va vn vc, v = .slice va vn vc := by
    rcases HRO.out with h | ⟨_, _, h, _⟩ <;> exact ⟨_, _, _, h⟩
  have hnil := eql_nil134 va vn vc
  go_enter Try.func55, Try.ntmps55
  go_upto_if 20 with fail
  have HS0 := hid hw
  go_cut [] from 13 (fun wc => ∃ M1 rb, Hid (TStep T g w M g wc M1) ∧ Hid (TabM g M1 T wc) ∧ Hid (wc.cell? ⟨T.eb, i, none⟩ = some (.slice (some ⟨rb, 0, none⟩) (T.s.length + 1) (T.s.length + 1))))
  case first =>
    rcases HRO.out with hr | ⟨rb, rs, hr, -⟩
    · simp only [Value.slice.injEq] at hr
      obtain ⟨rfl, rfl, rfl⟩ := hr
      go_wp2_with fail
      have hsum : IntKind.i64.wrap ((T.s.length : Int) + 1) = (T.s.length : Int) + 1 := IntWalk.i64_in _ (by omega)
      have hmk := make_row T.s.length hshort
      have fa := fun o => hw.alloc o
      have hebl := (HM.out.out _ HM.out.eb).2
      have hvA : ∀ o, (w.alloc o).cell? ⟨T.eb, i, none⟩ = some (.slice none 0 0) := fun o => (World.cell?_alloc_lt _ _ _ hebl).trans hv
      have hvfA : ∀ o, (w.alloc o).frozen? ⟨T.eb, i, none⟩ = false := fun o => (World.frozen?_alloc_old _ _ _ (Nat.ne_of_lt hebl)).trans hvf
      go_region
      go_wp2_with fail
      go_meet
      case rel =>
        have R := HM.out.newRow hw HX.out hv (World.grownBy_alloc w _ none) (heap_alloc_new w (.cells (madeCells #[.pointer none] (T.s.length + 1)) 109)) (by simp [madeCells]) (made_nil _)
        have e : (w.setCell ⟨T.eb, i, none⟩ (.slice (some ⟨w.heap.size, 0, none⟩) (T.s.length + 1) (T.s.length + 1))).alloc (.cells (madeCells #[.pointer none] (T.s.length + 1)) 109) = (w.alloc (.cells (madeCells #[.pointer none] (T.s.length + 1)) 109)).setCell ⟨T.eb, i, none⟩ (.slice (some ⟨w.heap.size, 0, none⟩) (T.s.length + 1) (T.s.length + 1)) := (World.setCell_alloc_past _ _ _ _ hebl).symm
        rw [e]
        exact ⟨_, _, R.1.drew, R.2.1.drew, R.2.2⟩
    · simp only [Value.slice.injEq] at hr
      obtain ⟨rfl, rfl, rfl⟩ := hr
      go_wp2_with fail
      go_meet
      case rel => exact ⟨M, rb, TStep.refl M hw, HM.out, hv⟩
  case rest =>
    obtain ⟨M1, rb, HT1, HM1, HV1⟩ := hcut
    obtain ⟨u, hu, huf, hent, -⟩ := HM1.out.cell HX.out HV1.out hf
    have hv1 := HV1.out
    have HENT := hid hent
    have hf1 := HT1.out.step.fut
    clear hv hvf hnil hw hent
    rcases HENT.out with rfl | ⟨pb, p, rfl, hpb, hpr⟩
    · obtain ⟨r, ka, kn, kcap, hpm⟩ := HP.out.parts i x HX.out
      have k0 := hpm.c.c0
      rw [hpm.k] at k0
      have fa1 := fun o => hf1.alloc o
      have HPM := hid hpm
      clear hpm
      go_upto_block 0 with fail
      change Code.wp _ _ _ _ (wc.alloc (.cells (placesV fun _ => 0) 136))
      generalize hpk : wc.heap.size = pk
      have hz0 := heap_alloc_new wc (.cells (placesV fun _ => 0) 136)
      rw [hpk] at hz0
      have hs1 : Step (fun _ => False) g wc g (wc.alloc (.cells (placesV fun _ => 0) 136)) := (Step.refl _ hf1).alloc _
      have hpkM : ¬ M1 pk := fun h => by have := (HM1.out.out _ h).2; omega
      have hpkg : g.blk pk = none := hf1.none_of_size (by omega)
      generalize wc.alloc (.cells (placesV fun _ => 0) 136) = W1 at hz0 hs1 ⊢
      have HZ0 : Hid (W1.heap[pk]? = some (.cells (placesV fun _ => 0) 136)) := hz0
      have hT2 : TStep T g wc M1 g W1 M1 := TStep.of_step hs1 (HM1.out.out _ HM1.out.eb).2
      have HT2 := hid hT2
      have HM2 := hid (HM1.out.le hs1 (fun _ _ => id))
      have HPK := hid hpkM
      have HPG := hid hpkg
      have HPS := hid hpk
      have hfW := hT2.step.fut
      clear hz0 hs1 hT2 hpkM hpkg hpk fa1 hu huf hv1 hf1
      have HA0 : Hid (Acc T g wc M1 pk (fun _ => false) g M1 W1) := ⟨HT2.out, HM2.out, ⟨_, HZ0.out, rep_zero⟩, HPK.out, HPG.out, Nat.le_of_eq HPS.out⟩
      go_cut [] from 10 (fun wd => ∃ g2 M2, Hid (Acc T g wc M1 pk (endsF T.s x.re f) g2 M2 wd))
      case first =>
        obtain ⟨y, hk, hl, hre⟩ := HCASE.out
        have HRE := hid hre
        have HLL := hid hl
        clear hre hl
        rw [hk] at *
        have hkids := HPM.out.kids
        have h7 := HPM.out.c7
        rw [HLL.out] at hkids
        obtain ⟨kb, koff, hka, hkc⟩ := hkids.get (i := 0) (by simp [kidIdx])
        have hkn := hkids.length
        simp only [List.length_map, kidIdx_len, List.length_cons, List.length_nil] at hkn
        obtain ⟨rfl, hkn2, hkn3⟩ := hkn
        have hk0 : ∀ w, Fut g w → w.cell? ⟨kb, koff, none⟩ = some (.int .i64 ((i + 1 : Nat) : Int)) := hkc 0 (natV (i + 1)) rfl
        simp only [Int.natCast_add, Int.cast_ofNat_Int] at hk0
        obtain ⟨j, hj1, hj2, hj3⟩ := flat_kid HX.out (j := 0) (y := y) (by rw [HLL.out]; rfl)
        rw [HLL.out] at hj1
        simp only [kidIdx, List.getElem?_cons_zero, Option.some.injEq] at hj1
        subst hj1
        have hny : nodes y < nodes x := by
          cases x with
          | mk k s n l =>
            have := HLL.out
            simp only [Core.l] at this
            subst this
            simp only [nodes, nodesL]; omega
        have IHy := HIH.out y (i + 1) f hny hj2 hf g M1 W1 (G.Le.refl g) hfW HM2.out
        have hNY := hid hny
        have hJ2 := hid hj2
        clear hkids hkc hny hj2 hj3 hkn2 hkn3
        subst hka
        go_wp2_with (first | (go_at_call 55; refine (Calls.mono (P := Try.prog) (by simpa using IHy) ?_); rintro e w3 hr3; obtain ⟨g3, M3, pb3, q3, rfl, hac3, hpb3, hq3, hne3, hle3⟩ := HA0.out.call hr3; obtain ⟨p4, hp4, hr4⟩ := hac3.pl; have HAC3 := hid hac3; have HP4 := hid hp4; have HR4 := hid hr4; have HQ3 := hid hq3; have HB3 := hid (hac3.st.step.fut.blk _ _ hpb3); have HNE3 := hid hne3; have hf3 := hac3.fut; clear hr3 hac3 hpb3 hq3 hne3 hle3 hp4 hr4) | (go_at_call 74; refine (por_any _ HP4.out HR4.out HB3.out HQ3.out HNE3.out).mono ?_; rintro e w4 hp5; have HP5 := hid hp5; obtain ⟨rfl, -⟩ := hp5))
        go_meet
        case rel => exact ⟨g3, M3, (HAC3.out.post HP5.out).of (fun i => by rw [HRE.out, endsF, Bool.false_or])⟩
      case rest =>
        obtain ⟨g2, M2, HAC⟩ := hcut
        obtain ⟨p, hp3, hr3⟩ := HAC.out.pl
        have HT3 := hid HAC.out.st
        have HM3 := hid HAC.out.tab
        have HP3 := hid hp3
        have HR3 := hid hr3
        clear hp3 hr3
        have hv3 := HT3.out.stay _ _ _ _ HV1.out
        obtain ⟨u3, hu3, huf3, -, -⟩ := HM3.out.cell HX.out hv3 hf
        have hf3 := HT3.out.step.fut.le HT3.out.step.le
        go_wp2_with fail
        go_ret
        have hsz := HT1.out.step.size
        have hps := HPS.out
        have R := HM3.out.store HX.out hv3 HP3.out HAC.out.ng HAC.out.nm HR3.out (w0 := w) (M0 := M) (by omega) (HT1.out.trans HT3.out)
        exact ⟨_, _, pk, p, rfl, R.1, R.2, G.add_same _ _ _, HR3.out⟩
    · have HPB := hid hpb
      have HPR := hid hpr
      clear hpb hpr
      go_wp2_with fail
      go_ret
      exact ⟨g, M1, pb, p, rfl, HT1.out, HM1.out, HPB.out, HPR.out⟩
end Go.Proofs.Ytjodmimnbpgfcaa
