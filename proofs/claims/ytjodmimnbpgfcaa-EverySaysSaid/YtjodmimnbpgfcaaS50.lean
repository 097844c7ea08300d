/- EveryTexts, walked. A library text: no claim is stated here. -/
import Derived.Test.YtjodmimnbpgfcaaS42
import Derived.Test.YtjodmimnbpgfcaaS49
import Derived.Laws.BytesArg
import Derived.Laws.Cover1

/- LawT -/
namespace Go.Proofs.Ytjodmimnbpgfcaa
open Go.RowKit Go.IntWalk

def inF (s : List UInt8) (N q : Nat) : Bool := decide (s.length ≤ N) && (s.take q).all fun b => decide ((97 : Int) ≤ (b.toNat : Nat)) && decide (((b.toNat : Nat) : Int) ≤ 99)

theorem inF_step {s : List UInt8} (N : Nat) {q : Nat} {b : UInt8} (hb : s[q]? = some b) : inF s N (q + 1) = (inF s N q && (decide ((97 : Int) ≤ (b.toNat : Nat)) && decide (((b.toNat : Nat) : Int) ≤ 99))) := by
  obtain ⟨hq, rfl⟩ := List.getElem?_eq_some_iff.1 hb
  unfold inF
  rw [List.take_succ_eq_append_getElem hq, List.all_append]
  simp [Bool.and_assoc]
theorem inF_full (s : List UInt8) (N : Nat) : inF s N s.length = (decide (s.length ≤ N) && s.all fun b => decide (97 ≤ b) && decide (b ≤ 99)) := by
  unfold inF
  rw [List.take_length]
  congr 2
  funext b
  rw [Bool.eq_iff_iff]
  simp only [Bool.and_eq_true, decide_eq_true_eq, UInt8.le_iff_toNat_le]
  have e1 : (97 : UInt8).toNat = 97 := rfl
  have e2 : (99 : UInt8).toNat = 99 := rfl
  omega

theorem sorted_at {T : List (List UInt8)} (h : T.Pairwise Before) {p : Nat} {u v : List UInt8} (hu : T[p]? = some u) (hv : T[p + 1]? = some v) : Before u v := by
  obtain ⟨h1, rfl⟩ := List.getElem?_eq_some_iff.1 hu
  obtain ⟨h2, rfl⟩ := List.getElem?_eq_some_iff.1 hv
  exact List.pairwise_iff_getElem.1 h p (p + 1) h1 h2 (Nat.lt_succ_self _)

set_option maxRecDepth 100000 in
theorem conv_strN {g : G} {a : Option Addr} {n c : Nat} {u : List UInt8} (h : SliceV g a n c (u.map byteV)) {w : World} (hw : Fut g w) : (convert 28 9 (.slice a n c)).run Try.prog w = .ok (.string ⟨u.toArray⟩) w := by
  generalize hv : u.map byteV = vs at h
  cases h with
  | nil =>
    obtain rfl : u = [] := by simpa using hv
    exact run_convert_bytes_nil w 28 5 Try.underlying28 Try.underlying5 0 0 9 Try.underlying9
  | row b off _ _ hcap hm hc =>
    subst hv
    have h2 := run_convert_bytes_arg (P := Try.prog) w 28 5 Try.underlying28 Try.underlying5 b off (u.map byteV).length c (u.map fun x => ((x.toNat : Nat) : Int)) (by simp) (fun i hi => by
      rw [List.length_map] at hi
      rw [hc w hw i (byteV u[i]) (by simp [hi])]
      simp [byteV, List.getD, hi]) 9 Try.underlying9
    rw [h2]
    congr 2
    apply ByteArray.ext
    apply Array.toList_inj.1
    have h3 := Lib.strOfNums_toList (u.map fun x => ((x.toNat : Nat) : Int))
    rw [ByteArray.toList_eq, bytesOf_nat] at h3
    simpa using h3
theorem conv_str {g : G} {a : Option Addr} {c : Nat} {u : List UInt8} (h : SliceV g a u.length c (u.map byteV)) {w : World} (hw : Fut g w) : (convert 28 9 (.slice a u.length c)).run Try.prog w = .ok (.string ⟨u.toArray⟩) w := conv_strN h hw

/-- A text of the slice of texts. -/
theorem tx_at {g : G} {a : Option Addr} {n c : Nat} {vals : List Value} {T : List (List UInt8)} (h : SliceV g a n c vals) (hl : vals.length = T.length) (hr : ∀ (i : Nat) (u : List UInt8) (x : Value), T[i]? = some u → vals[i]? = some x → ∃ a c, x = .slice a u.length c ∧ SliceV g a u.length c (u.map byteV)) {i : Nat} {u : List UInt8} (hu : T[i]? = some u) :
    ∃ tb toff ta tc, a = some ⟨tb, toff, none⟩ ∧ (∀ w, Fut g w → w.cell? ⟨tb, toff + i, none⟩ = some (.slice ta u.length tc)) ∧ (∀ w, Fut g w → (convert 28 9 (.slice ta u.length tc)).run Try.prog w = .ok (.string ⟨u.toArray⟩) w) := by
  have hi := (List.getElem?_eq_some_iff.1 hu).1
  obtain ⟨tb, toff, ha, hc⟩ := h.get (i := i) (by omega)
  have hv : vals[i]? = some (vals[i]'(by omega)) := List.getElem?_eq_getElem (by omega)
  obtain ⟨ta, tc, e, hs⟩ := hr i u _ hu hv
  rw [e] at hv
  exact ⟨tb, toff, ta, tc, ha, hc i _ hv, fun w hw => conv_str hs hw⟩

set_option maxRecDepth 100000 in
set_option maxHeartbeats 8000000 in
theorem everyTexts_any {g : G} {r : CRow} {c : Core} (h : CoreV g r c) (n : Int) (hn : i64 n) {s : List UInt8} {sa : Option Addr} {sc : Nat} (hs : SliceV g sa s.length sc (s.map byteV)) (w : World) (hw : Fut g w) :
    Calls Try.prog 3 #[r.val, .int .i64 n, .slice sa s.length sc] w fun e w' => e = .returned (.bool true) ∧ Grow g w g w' := by
  obtain ⟨g1, hg1, c0, c1, c2, c3, c4, c5, c6⟩ := box_core hw r
  have haw := awake_any _ hg1.fut
  have hh := h.le hg1.le
  have hbig := fun w' (hf : Fut g1 w') => big_any hh g1 (G.Le.refl _) 20 (by omega) w' hf
  have hsize := fun w' (hf : Fut g1 w') => size_any hh w' hf
  have hgood := fun w' (hf : Fut g1 w') => Good_any hh w' hf
  have HG := hid hg1
  have HH := hid hh
  have HS := hid (hs.le hg1.le)
  have hf1 := hg1.fut
  have hsz := sizeF_bd c
  unfold CRow.val at *
  have HAW := hid haw
  clear hg1 hh h hs haw
  cases hb : bigF c 20 with
  | true =>
    rw [hb] at hbig
    have HB := hid hbig
    clear hb hbig hsize hgood
    go_enter Try.func3, Try.ntmps3
    go_wp2_with (first | (go_at_call 6; refine HAW.out.mono ?_; rintro e w2 ⟨rfl, hg2⟩; have HG2 := hid hg2; have hf2 := hg2.fut; clear hg2 HAW) | (go_at_call 7; refine (HB.out _ hf2).mono ?_; rintro e w3 ⟨rfl, hg3⟩; have HG3 := hid hg3; clear hg3) | fail)
    go_ret
    exact ⟨rfl, ((HG.out.trans HG2.out).trans HG3.out).forget⟩
  | false =>
    rw [hb] at hbig
    have HB := hid hbig
    have HSI := hid hsize
    clear hb hbig hsize
    by_cases hs30 : sizeF c ≤ 30
    · by_cases hn0 : 0 ≤ n
      · by_cases hn4 : n ≤ 4
        · by_cases hs4 : s.length ≤ 4
          · cases hgo : GoodF c with
            | false =>
              rw [hgo] at hgood
              have HGO := hid hgood
              clear hgo hgood
              have d0 : decide (sizeF c > 30) = false := by simp; omega
              have d1 : decide (n < 0) = false := by simp; omega
              have d2 : decide (n > 4) = false := by simp; omega
              have d3 : decide ((s.length : Int) > 4) = false := by simp; omega
              go_enter Try.func3, Try.ntmps3
              go_wp2_with (first | (go_at_call 6; refine HAW.out.mono ?_; rintro e w2 ⟨rfl, hg2⟩; have HG2 := hid hg2; have hf2 := hg2.fut; clear hg2 HAW) | (go_at_call 7; refine (HB.out _ hf2).mono ?_; rintro e w3 ⟨rfl, hg3⟩; have HG3 := hid hg3; have hf3 := hg3.fut; clear hg3) | (go_at_call 8; refine (HSI.out _ hf3).mono ?_; rintro e w4 ⟨rfl, hg4⟩; have HG4 := hid hg4; have hf4 := hg4.fut; clear hg4) | (go_at_call 9; refine (HGO.out _ hf4).mono ?_; rintro e w5 ⟨rfl, hg5⟩; have HG5 := hid hg5; have hf5 := hg5.fut; clear hg5) | fail)
              go_ret
              exact ⟨rfl, (((((HG.out.trans HG2.out).trans HG3.out).trans HG4.out).trans HG5.out)).forget⟩
            | true =>
              rw [hgo] at hgood
              have HGO := hid hgood
              obtain ⟨N, rfl⟩ : ∃ N : Nat, n = N := ⟨n.toNat, by omega⟩
              have hN : N ≤ 4 := by omega
              have hco := core_ok HH.out
              have hlt := law_texts hgo hN
              have hth := law_there (n := N) (s := s) hgo hs4
              have hsort := textsL_sorted c (S := [97, 98, 99]) (by decide) N
              have hfew := textsL_few c hN
              have htx := fun (g' : G) (w' : World) (sa' : Option Addr) (sc' : Nat) (hl : g1.Le g') (hs' : SliceV g' sa' 3 sc' (([97, 98, 99] : List UInt8).map byteV)) (hf : Fut g' w') => texts_any (S := [97, 98, 99]) (HH.out.le hl) hs' (by simp) hco (N : Nat) 400 (by unfold i64; omega) w' hf
              rw [hlt] at htx
              have hsay := fun (g' : G) (w' : World) (hl : g1.Le g') (hf : Fut g' w') => langSays_any (HH.out.le hl) (HS.out.le hl) (fun hg => by obtain ⟨a, b, -, -⟩ := hco hg; exact ⟨a, by omega⟩) w' hf
              generalize textsL c [97, 98, 99] N = T at *
              generalize langSaysF c s = sy at *
              unfold CRow.val at htx hsay
              have HTX := hid htx
              have HSY := hid hsay
              have HTH := hid hth
              have HSO := hid hsort
              have HCO := hid hco
              clear hgo hgood hlt hth hsort htx hsay hco
              have d0 : decide (sizeF c > 30) = false := by simp; omega
              have d1 : decide ((N : Int) < 0) = false := by simp
              have d2 : decide ((N : Int) > 4) = false := by simp; omega
              have d3 : decide ((s.length : Int) > 4) = false := by simp; omega
              go_enter Try.func3, Try.ntmps3
              go_wp2_with (first | (go_at_call 6; refine HAW.out.mono ?_; rintro e w2 ⟨rfl, hg2⟩; have HG2 := hid hg2; have hf2 := hg2.fut; clear hg2 HAW) | (go_at_call 7; refine (HB.out _ hf2).mono ?_; rintro e w3 ⟨rfl, hg3⟩; have HG3 := hid hg3; have hf3 := hg3.fut; clear hg3) | (go_at_call 8; refine (HSI.out _ hf3).mono ?_; rintro e w4 ⟨rfl, hg4⟩; have HG4 := hid hg4; have hf4 := hg4.fut; clear hg4) | (go_at_call 9; refine (HGO.out _ hf4).mono ?_) | fail)
              rintro e w5 ⟨rfl, hg5⟩
              have hf5 := hg5.fut
              obtain ⟨g6, hg6, hs6⟩ := sl_marked hg5.fut [97, 98, 99] (by simp)
              have kc := conv_const w5 #[.int .u8 97, .int .u8 98, .int .u8 99] 3 3
              have hcall := HTX.out g6 _ _ _ hg6.le hs6 hg6.fut
              simp only [List.map_cons, List.map_nil, byteV, List.length_cons, List.length_nil, Nat.zero_add, Nat.reduceAdd] at hg6 hcall
              have HCALL := hid hcall
              have HG6 := hid (((((HG.out.trans HG2.out).trans HG3.out).trans HG4.out).trans hg5).trans hg6)
              have HL6 := hid (hg5.le.trans hg6.le)
              clear hcall hg6 hs6 hg5 HTX HG2 HG3 HG4
              have hl16 : ∀ w', Fut g6 w' → Fut g1 w' := fun w' h => h.le HL6.out
              have hf6 := HG6.out.fut
              go_wp2_with (first | (go_at_call 10; refine HCALL.out.mono ?_) | fail)
              rintro e w7 ⟨g7, ta, tc, vals, rfl, hg7, hts, htl, htr⟩
              have HG7 := hid (HG6.out.trans hg7)
              have HTS := hid hts
              have HTL := hid htl
              have HTR := hid htr
              have HL7 := hid (HL6.out.trans hg7.le)
              have hf7 := hg7.fut
              have hlt7 : T.length ≤ 121 := hfew
              clear hg7 hts htl htr HCALL hfew hl16 hf6
              simp only
              go_wp2_with fail
              go_loopg [9, 10] s.length (fun rem iv i wr => ∃ q, q + rem = s.length ∧ i = .int .i64 (q : Nat) ∧ iv = .bool (inF s N q) ∧ Hid (Grow g7 w7 g7 wr))
              case atStart => exact ⟨0, by omega, rfl, by simp [inF], Grow.refl hf7⟩
              case round =>
                obtain ⟨q, hq, rfl, rfl, HGr⟩ := hrel
                have hfr := HGr.out.fut
                by_cases hql : q < s.length
                · obtain ⟨bb, hbb⟩ : ∃ bb, s[q]? = some bb := ⟨_, List.getElem?_eq_getElem hql⟩
                  obtain ⟨sb, so, hsa, hso⟩ := HS.out.get (i := q) (by simpa using hql)
                  subst hsa
                  have hcell := fun w' (h : Fut g7 w') => hso q (.int .u8 (bb.toNat : Nat)) (by simp [byteV, hbb]) w' (h.le HL7.out)
                  have hqi : (q : Int) < (s.length : Int) := by omega
                  have hstep := inF_step N hbb
                  have HSTP := hid hstep
                  have HQ := hid hq
                  have HQL := hid hql
                  clear hso hbb hstep
                  cases hi : inF s N q with
                  | false =>
                    rw [hi] at HSTP
                    clear hi
                    go_wp2_with fail
                    go_roundg (s.length - (q + 1))
                    case measure => have h1 := HQL.out; have h2 := HQ.out; omega
                    case rel => exact ⟨q + 1, by omega, by go_num, by rw [HSTP.out]; rfl, HGr⟩
                  | true =>
                    rw [hi] at HSTP
                    clear hi
                    by_cases h97 : (97 : Int) ≤ (bb.toNat : Nat)
                    · by_cases h99 : ((bb.toNat : Nat) : Int) ≤ 99
                      · have e1 : decide (((bb.toNat : Nat) : Int) ≥ 97) = true := by simp; omega
                        have e2 : decide (((bb.toNat : Nat) : Int) ≤ 99) = true := by simp; omega
                        go_wp2_with fail
                        go_roundg (s.length - (q + 1))
                        case measure => have h1 := HQL.out; have h2 := HQ.out; omega
                        case rel => exact ⟨q + 1, by omega, by go_num, by rw [HSTP.out]; simp; omega, HGr⟩
                      · have e1 : decide (((bb.toNat : Nat) : Int) ≥ 97) = true := by simp; omega
                        have e2 : decide (((bb.toNat : Nat) : Int) ≤ 99) = false := by simp; omega
                        go_wp2_with fail
                        go_roundg (s.length - (q + 1))
                        case measure => have h1 := HQL.out; have h2 := HQ.out; omega
                        case rel => exact ⟨q + 1, by omega, by go_num, by rw [HSTP.out]; simp; omega, HGr⟩
                    · have e1 : decide (((bb.toNat : Nat) : Int) ≥ 97) = false := by simp; omega
                      go_wp2_with fail
                      go_roundg (s.length - (q + 1))
                      case measure => have h1 := HQL.out; have h2 := HQ.out; omega
                      case rel => exact ⟨q + 1, by omega, by go_num, by rw [HSTP.out]; simp; omega, HGr⟩
                · obtain rfl : q = s.length := by omega
                  go_wp2_with fail
                  go_loopg [11, 12] T.length (fun rem tv i wr => ∃ q, q + rem = T.length ∧ i = .int .i64 (q : Nat) ∧ tv = .bool ((T.take q).any fun u => u == s) ∧ Hid (Grow g7 w7 g7 wr))
                  case atStart => exact ⟨0, by omega, rfl, by simp, HGr⟩
                  case round =>
                    obtain ⟨q, hq, rfl, rfl, HGt⟩ := hrel
                    have hft := HGt.out.fut
                    by_cases hqt : q < T.length
                    · obtain ⟨u, hu⟩ : ∃ u, T[q]? = some u := ⟨_, List.getElem?_eq_getElem hqt⟩
                      obtain ⟨tb, toff, ua, uc, hta, hcu, hcvu⟩ := tx_at HTS.out HTL.out HTR.out hu
                      subst hta
                      have hss := fun w' (h : Fut g7 w') => conv_str (HS.out.le HL7.out) h
                      have hstep : ((T.take (q + 1)).any fun u => u == s) = (((T.take q).any fun u => u == s) || u == s) := by
                        obtain ⟨hq', rfl⟩ := List.getElem?_eq_some_iff.1 hu
                        rw [List.take_succ_eq_append_getElem hq', List.any_append]
                        simp
                      have hqi : (q : Int) < (T.length : Int) := by omega
                      have HSTP := hid hstep
                      have HQ := hid hq
                      have HQT := hid hqt
                      have HU := hid hu
                      have HSORT := hid hqt
                      clear hstep hu
                      generalize hth : ((T.take q).any fun u => u == s) = th at *
                      clear hth
                      rcases Nat.eq_zero_or_pos q with hq0 | hq0
                      · subst hq0
                        simp only [Nat.add_zero] at hcu
                        go_wp2_with fail
                        cases th with
                        | true =>
                          refine wp_region_cls (g := g7) (w0 := wr) (by kernel_rfl) (by kernel_rfl) (Grow.refl hft) ?_
                          have hx : ∀ x : Wg g7 wr, Fut g7 x.w := fun x => x.h.fut
                          have hne : Nonempty (Wg g7 wr) := ⟨⟨wr, Grow.refl hft⟩⟩
                          repeat (go_big_quiet_step (fail))
                          refine wpQuiet_nil ?_
                          rintro wa ⟨⟨_, hga⟩, rfl⟩
                          have HGA := hid hga
                          have hfa := hga.fut
                          clear hga hx hne
                          go_wp2_with fail
                          refine wp_region_cls (g := g7) (w0 := wa) (by kernel_rfl) (by kernel_rfl) (Grow.refl hfa) ?_
                          have hx : ∀ x : Wg g7 wa, Fut g7 x.w := fun x => x.h.fut
                          have hne : Nonempty (Wg g7 wa) := ⟨⟨wa, Grow.refl hfa⟩⟩
                          repeat (go_big_quiet_step (fail))
                          refine wpQuiet_nil ?_
                          rintro wb ⟨⟨_, hgb⟩, rfl⟩
                          have HGB := hid hgb
                          have hfb := hgb.fut
                          clear hgb hx hne
                          go_wp2_with fail
                          go_roundg (T.length - 1)
                          case measure => have h1 := HQT.out; have h2 := HQ.out; omega
                          case rel => exact ⟨1, by omega, by go_num, by rw [HSTP.out]; rfl, (HGt.out.trans HGA.out).trans HGB.out⟩
                        | false =>
                          refine wp_region_cls (g := g7) (w0 := wr) (by kernel_rfl) (by kernel_rfl) (Grow.refl hft) ?_
                          have hx : ∀ x : Wg g7 wr, Fut g7 x.w := fun x => x.h.fut
                          have hne : Nonempty (Wg g7 wr) := ⟨⟨wr, Grow.refl hft⟩⟩
                          repeat (go_big_quiet_step (fail))
                          refine wpQuiet_nil ?_
                          rintro wa ⟨⟨_, hga⟩, rfl⟩
                          have HGA := hid hga
                          have hfa := hga.fut
                          clear hga hx hne
                          go_wp2_with fail
                          refine wp_region_cls (g := g7) (w0 := wa) (by kernel_rfl) (by kernel_rfl) (Grow.refl hfa) ?_
                          have hx : ∀ x : Wg g7 wa, Fut g7 x.w := fun x => x.h.fut
                          have hne : Nonempty (Wg g7 wa) := ⟨⟨wa, Grow.refl hfa⟩⟩
                          repeat (go_big_quiet_step (fail))
                          refine wpQuiet_nil ?_
                          rintro wb ⟨⟨_, hgb⟩, rfl⟩
                          have HGB := hid hgb
                          have hfb := hgb.fut
                          clear hgb hx hne
                          go_wp2_with fail
                          go_roundg (T.length - 1)
                          case measure => have h1 := HQT.out; have h2 := HQ.out; omega
                          case rel => exact ⟨1, by omega, by go_num, by rw [HSTP.out]; simp, (HGt.out.trans HGA.out).trans HGB.out⟩
                      · obtain ⟨p, rfl⟩ : ∃ p, q = p + 1 := ⟨q - 1, by omega⟩
                        obtain ⟨u2, hu2⟩ : ∃ u2, T[p]? = some u2 := ⟨_, List.getElem?_eq_getElem (by omega)⟩
                        obtain ⟨tb', toff', ua2, uc2, hta2, hcu2, hcvu2⟩ := tx_at HTS.out HTL.out HTR.out hu2
                        cases hta2
                        have hbef := sorted_at HSO.out hu2 HU.out
                        have hpi : (p : Int) < (T.length : Int) := by omega
                        have hpw : wrap64 (p : Int) = p := wrap64_in _ (by omega)
                        have hpw2 : IntKind.i64.wrap (p : Int) = p := (i64_left _).trans hpw
                        have hqz : decide (((p + 1 : Nat) : Int) > 0) = true := by simp
                        have hqz2 : (0 : Int) < (p : Int) + 1 := by omega
                        clear hq0 hu2
                        rcases hbef with hlt' | ⟨hle', hbl⟩
                        · have hd1 : decide ((u.length : Int) < (u2.length : Int)) = false := by simp; omega
                          have hd2 : ((u.length : Int) == (u2.length : Int)) = false := by simp; omega
                          have hd3 : decide (u.length < u2.length) = false := by simp; omega
                          have hd4 : (u.length == u2.length) = false := by simp; omega
                          have hd5 : decide (u.length = u2.length) = false := by simp; omega
                          have hd6 : decide ((u.length : Int) = (u2.length : Int)) = false := by simp; omega
                          go_wp2_with fail
                          cases th with
                          | true =>
                            refine wp_region_cls (g := g7) (w0 := wr) (by kernel_rfl) (by kernel_rfl) (Grow.refl hft) ?_
                            have hx : ∀ x : Wg g7 wr, Fut g7 x.w := fun x => x.h.fut
                            have hne : Nonempty (Wg g7 wr) := ⟨⟨wr, Grow.refl hft⟩⟩
                            repeat (go_big_quiet_step (fail))
                            refine wpQuiet_nil ?_
                            rintro wa ⟨⟨_, hga⟩, rfl⟩
                            have HGA := hid hga
                            have hfa := hga.fut
                            clear hga hx hne
                            go_wp2_with fail
                            refine wp_region_cls (g := g7) (w0 := wa) (by kernel_rfl) (by kernel_rfl) (Grow.refl hfa) ?_
                            have hx : ∀ x : Wg g7 wa, Fut g7 x.w := fun x => x.h.fut
                            have hne : Nonempty (Wg g7 wa) := ⟨⟨wa, Grow.refl hfa⟩⟩
                            repeat (go_big_quiet_step (fail))
                            refine wpQuiet_nil ?_
                            rintro wb ⟨⟨_, hgb⟩, rfl⟩
                            have HGB := hid hgb
                            have hfb := hgb.fut
                            clear hgb hx hne
                            go_wp2_with fail
                            go_roundg (T.length - (p + 1 + 1))
                            case measure => have h1 := HQT.out; have h2 := HQ.out; omega
                            case rel => exact ⟨p + 1 + 1, by omega, by go_num, by rw [HSTP.out]; rfl, (HGt.out.trans HGA.out).trans HGB.out⟩
                          | false =>
                            refine wp_region_cls (g := g7) (w0 := wr) (by kernel_rfl) (by kernel_rfl) (Grow.refl hft) ?_
                            have hx : ∀ x : Wg g7 wr, Fut g7 x.w := fun x => x.h.fut
                            have hne : Nonempty (Wg g7 wr) := ⟨⟨wr, Grow.refl hft⟩⟩
                            repeat (go_big_quiet_step (fail))
                            refine wpQuiet_nil ?_
                            rintro wa ⟨⟨_, hga⟩, rfl⟩
                            have HGA := hid hga
                            have hfa := hga.fut
                            clear hga hx hne
                            go_wp2_with fail
                            refine wp_region_cls (g := g7) (w0 := wa) (by kernel_rfl) (by kernel_rfl) (Grow.refl hfa) ?_
                            have hx : ∀ x : Wg g7 wa, Fut g7 x.w := fun x => x.h.fut
                            have hne : Nonempty (Wg g7 wa) := ⟨⟨wa, Grow.refl hfa⟩⟩
                            repeat (go_big_quiet_step (fail))
                            refine wpQuiet_nil ?_
                            rintro wb ⟨⟨_, hgb⟩, rfl⟩
                            have HGB := hid hgb
                            have hfb := hgb.fut
                            clear hgb hx hne
                            go_wp2_with fail
                            go_roundg (T.length - (p + 1 + 1))
                            case measure => have h1 := HQT.out; have h2 := HQ.out; omega
                            case rel => exact ⟨p + 1 + 1, by omega, by go_num, by rw [HSTP.out]; simp, (HGt.out.trans HGA.out).trans HGB.out⟩
                        · have hd1 : decide ((u.length : Int) < (u2.length : Int)) = false := by simp; omega
                          have hd2 : ((u.length : Int) == (u2.length : Int)) = true := by simp; omega
                          have hd3 : decide (u.length < u2.length) = false := by simp; omega
                          have hd4 : (u.length == u2.length) = true := by simp; omega
                          have hd5 : decide (u.length = u2.length) = true := by simp; omega
                          have hd6 : decide ((u.length : Int) = (u2.length : Int)) = true := by simp; omega
                          have hlq : (Op.bytesLess u u2 || u == u2) = false := bl_leq hbl
                          have HBL := hid hbl
                          have HLEN := hid hle'
                          clear hbl hle'
                          go_wp2_with fail
                          cases th with
                          | true =>
                            refine wp_region_cls (g := g7) (w0 := wr) (by kernel_rfl) (by kernel_rfl) (Grow.refl hft) ?_
                            have hx : ∀ x : Wg g7 wr, Fut g7 x.w := fun x => x.h.fut
                            have hne : Nonempty (Wg g7 wr) := ⟨⟨wr, Grow.refl hft⟩⟩
                            repeat (go_big_quiet_step (fail))
                            refine wpQuiet_nil ?_
                            rintro wa ⟨⟨_, hga⟩, rfl⟩
                            have HGA := hid hga
                            have hfa := hga.fut
                            clear hga hx hne
                            go_wp2_with fail
                            refine wp_region_cls (g := g7) (w0 := wa) (by kernel_rfl) (by kernel_rfl) (Grow.refl hfa) ?_
                            have hx : ∀ x : Wg g7 wa, Fut g7 x.w := fun x => x.h.fut
                            have hne : Nonempty (Wg g7 wa) := ⟨⟨wa, Grow.refl hfa⟩⟩
                            repeat (go_big_quiet_step (fail))
                            refine wpQuiet_nil ?_
                            rintro wb ⟨⟨_, hgb⟩, rfl⟩
                            have HGB := hid hgb
                            have hfb := hgb.fut
                            clear hgb hx hne
                            go_wp2_with fail
                            go_roundg (T.length - (p + 1 + 1))
                            case measure => have h1 := HQT.out; have h2 := HQ.out; omega
                            case rel => exact ⟨p + 1 + 1, by omega, by go_num, by rw [HSTP.out]; rfl, (HGt.out.trans HGA.out).trans HGB.out⟩
                          | false =>
                            refine wp_region_cls (g := g7) (w0 := wr) (by kernel_rfl) (by kernel_rfl) (Grow.refl hft) ?_
                            have hx : ∀ x : Wg g7 wr, Fut g7 x.w := fun x => x.h.fut
                            have hne : Nonempty (Wg g7 wr) := ⟨⟨wr, Grow.refl hft⟩⟩
                            repeat (go_big_quiet_step (fail))
                            refine wpQuiet_nil ?_
                            rintro wa ⟨⟨_, hga⟩, rfl⟩
                            have HGA := hid hga
                            have hfa := hga.fut
                            clear hga hx hne
                            go_wp2_with fail
                            refine wp_region_cls (g := g7) (w0 := wa) (by kernel_rfl) (by kernel_rfl) (Grow.refl hfa) ?_
                            have hx : ∀ x : Wg g7 wa, Fut g7 x.w := fun x => x.h.fut
                            have hne : Nonempty (Wg g7 wa) := ⟨⟨wa, Grow.refl hfa⟩⟩
                            repeat (go_big_quiet_step (fail))
                            refine wpQuiet_nil ?_
                            rintro wb ⟨⟨_, hgb⟩, rfl⟩
                            have HGB := hid hgb
                            have hfb := hgb.fut
                            clear hgb hx hne
                            go_wp2_with fail
                            go_roundg (T.length - (p + 1 + 1))
                            case measure => have h1 := HQT.out; have h2 := HQ.out; omega
                            case rel => exact ⟨p + 1 + 1, by omega, by go_num, by rw [HSTP.out]; simp, (HGt.out.trans HGA.out).trans HGB.out⟩
                    · obtain rfl : q = T.length := by omega
                      have hthe := HTH.out
                      rw [← inF_full] at hthe
                      rw [List.take_length]
                      have HTHE := hid hthe
                      clear hthe
                      have hsy := HSY.out g7 wr HL7.out hft
                      have HSYW := hid hsy
                      have hl17 : ∀ w', Fut g7 w' → Fut g1 w' := fun w' h => h.le HL7.out
                      clear hsy
                      cases hin : inF s N s.length with
                      | false =>
                        rw [hin] at HTHE
                        have h := HTHE.out
                        simp only [Bool.false_and] at h
                        rw [h]
                        clear hin h
                        go_wp2_with fail
                        go_ret
                        exact ⟨rfl, (HG7.out.trans HGt.out).forget⟩
                      | true =>
                        rw [hin] at HTHE
                        have h := HTHE.out
                        simp only [Bool.true_and] at h
                        rw [h]
                        clear hin h
                        go_wp2_with (first | (go_at_call 11; refine HSYW.out.mono ?_; rintro e w9 ⟨rfl, hg9⟩; have HG9 := hid hg9; clear hg9) | fail)
                        go_ret
                        exact ⟨ret_bool (by simp), ((HG7.out.trans HGt.out).trans HG9.out).forget⟩
          · have d0 : decide (sizeF c > 30) = false := by simp; omega
            have d1 : decide (n < 0) = false := by simp; omega
            have d2 : decide (n > 4) = false := by simp; omega
            have d3 : decide ((s.length : Int) > 4) = true := by simp; omega
            clear hgood
            go_enter Try.func3, Try.ntmps3
            go_wp2_with (first | (go_at_call 6; refine HAW.out.mono ?_; rintro e w2 ⟨rfl, hg2⟩; have HG2 := hid hg2; have hf2 := hg2.fut; clear hg2 HAW) | (go_at_call 7; refine (HB.out _ hf2).mono ?_; rintro e w3 ⟨rfl, hg3⟩; have HG3 := hid hg3; have hf3 := hg3.fut; clear hg3) | (go_at_call 8; refine (HSI.out _ hf3).mono ?_; rintro e w4 ⟨rfl, hg4⟩; have HG4 := hid hg4; have hf4 := hg4.fut; clear hg4) | fail)
            go_ret
            exact ⟨rfl, ((((HG.out.trans HG2.out).trans HG3.out).trans HG4.out)).forget⟩
        · have d0 : decide (sizeF c > 30) = false := by simp; omega
          have d1 : decide (n < 0) = false := by simp; omega
          have d2 : decide (n > 4) = true := by simp; omega
          clear hgood
          go_enter Try.func3, Try.ntmps3
          go_wp2_with (first | (go_at_call 6; refine HAW.out.mono ?_; rintro e w2 ⟨rfl, hg2⟩; have HG2 := hid hg2; have hf2 := hg2.fut; clear hg2 HAW) | (go_at_call 7; refine (HB.out _ hf2).mono ?_; rintro e w3 ⟨rfl, hg3⟩; have HG3 := hid hg3; have hf3 := hg3.fut; clear hg3) | (go_at_call 8; refine (HSI.out _ hf3).mono ?_; rintro e w4 ⟨rfl, hg4⟩; have HG4 := hid hg4; have hf4 := hg4.fut; clear hg4) | fail)
          go_ret
          exact ⟨rfl, ((((HG.out.trans HG2.out).trans HG3.out).trans HG4.out)).forget⟩
      · have d0 : decide (sizeF c > 30) = false := by simp; omega
        have d1 : decide (n < 0) = true := by simp; omega
        clear hgood
        go_enter Try.func3, Try.ntmps3
        go_wp2_with (first | (go_at_call 6; refine HAW.out.mono ?_; rintro e w2 ⟨rfl, hg2⟩; have HG2 := hid hg2; have hf2 := hg2.fut; clear hg2 HAW) | (go_at_call 7; refine (HB.out _ hf2).mono ?_; rintro e w3 ⟨rfl, hg3⟩; have HG3 := hid hg3; have hf3 := hg3.fut; clear hg3) | (go_at_call 8; refine (HSI.out _ hf3).mono ?_; rintro e w4 ⟨rfl, hg4⟩; have HG4 := hid hg4; have hf4 := hg4.fut; clear hg4) | fail)
        go_ret
        exact ⟨rfl, ((((HG.out.trans HG2.out).trans HG3.out).trans HG4.out)).forget⟩
    · have d0 : decide (sizeF c > 30) = true := by simp; omega
      clear hgood
      go_enter Try.func3, Try.ntmps3
      go_wp2_with (first | (go_at_call 6; refine HAW.out.mono ?_; rintro e w2 ⟨rfl, hg2⟩; have HG2 := hid hg2; have hf2 := hg2.fut; clear hg2 HAW) | (go_at_call 7; refine (HB.out _ hf2).mono ?_; rintro e w3 ⟨rfl, hg3⟩; have HG3 := hid hg3; have hf3 := hg3.fut; clear hg3) | (go_at_call 8; refine (HSI.out _ hf3).mono ?_; rintro e w4 ⟨rfl, hg4⟩; have HG4 := hid hg4; clear hg4) | fail)
      go_ret
      exact ⟨rfl, (((HG.out.trans HG2.out).trans HG3.out).trans HG4.out).forget⟩
end Go.Proofs.Ytjodmimnbpgfcaa
