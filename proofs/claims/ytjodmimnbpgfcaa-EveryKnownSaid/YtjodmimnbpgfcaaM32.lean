/- every's Texts, walked. A library text: no claim is stated here. lang.Says, walked. A library text: no claim is stated here. -/
import Derived.Test.YtjodmimnbpgfcaaM31

/- Texts -/
namespace Go.Proofs.Ytjodmimnbpgfcaa
open Go.RowKit Go.IntWalk

theorem textsF_no {c : Core} {S : List UInt8} {n most : Int} (h : textsOk c S n most = false) : textsF c S n most = ([], 1) := by
  unfold textsF
  rw [h]
  rfl
theorem textsF_yes {c : Core} {S : List UInt8} {n most : Int} (h : textsOk c S n most = true) : textsF c S n most = if ((textsL c S n.toNat).length : Int) ≤ most then (textsL c S n.toNat, 0) else ([], 6) := by
  unfold textsF
  rw [h, if_pos rfl]
theorem texts_step {g g6 g7 : G} {w w6 w7 : World} {ob : Nat} {v4 v7 : Value} {ws : List (List UInt8)} {vals : List Value} (hG : Grow g w g6 w6) (hob : w.heap.size ≤ ob) (hv : ∀ x, v4.ownBlock = some x → w.heap.size ≤ x) (h : WSt g6 w6 ob v4 (.slice none 0 0) [] ws g7 w7 v7 vals) :
    Grow g w g7 w7 ∧ ∀ x, v7.ownBlock = some x → w.heap.size ≤ x := by
  refine ⟨((hG.step fun _ => False).trans h.step (fun b hb => .inr ?_)).grow, fun x hx => ?_⟩
  · rcases hb with rfl | hb | hb
    · exact hob
    · exact hv b hb
    · simp [Value.ownBlock] at hb
  · rcases h.sub x hx with h1 | h1
    · exact hv x h1
    · exact Nat.le_trans hG.size h1
theorem hs_nil {g : G} {w : World} {ob : Nat} {v : Value} : HS g ob w v (.slice none 0 0) [] :=
  ⟨World.ownsRow_nil _ _ _ _, by simp [Value.ownBlock], fun k hk => by simp [Value.ownBlock] at hk⟩
theorem os_start {g : G} {w : World} (hf : Fut g w) : OS g w.heap.size [] (w.alloc (.cells #[.slice none 0 0] 33)) (.slice none 0 0) [] :=
  ⟨hf.alloc _, heap_alloc_new _ _, World.ownsRow_nil _ _ _ _, rfl, fun i u x hu => by simp at hu, by simp [Value.ownBlock], hf.none_of_size (Nat.le_refl _), fun k hk => by simp [Value.ownBlock] at hk, fun _ => rfl⟩

theorem texts_over {most : Int} (hm : 0 ≤ most) {k N : Nat} (hk : k < N + 1) {F : Nat → List (List UInt8)} (h : (runW most ((List.range (k + 1)).flatMap F) []).1 = false) : ¬ (((List.range (N + 1)).flatMap F).length : Int) ≤ most := by
  have h1 := runW_all most ((List.range (k + 1)).flatMap F) [] (by simpa using hm)
  have h2 : ¬ (((List.range (k + 1)).flatMap F).length : Int) ≤ most := fun hle => by
    rw [h1.1 (by simpa using hle)] at h
    cases h
  have h3 : ((List.range (k + 1)).flatMap F).length ≤ ((List.range (N + 1)).flatMap F).length := by
    have e : List.range (N + 1) = List.range (k + 1) ++ (List.range (N - k)).map (k + 1 + ·) := by
      rw [← List.range_add]
      congr 1
      omega
    rw [e, List.flatMap_append, List.length_append]
    omega
  omega
theorem texts_all {most : Int} (hm : 0 ≤ most) {T ws : List (List UInt8)} (h : runW most T [] = (true, ws)) : T = ws ∧ (T.length : Int) ≤ most := by
  have h1 := runW_all most T [] (by simpa using hm)
  have h2 : (T.length : Int) ≤ most := by
    apply Classical.byContradiction
    intro hn
    have := h1.2 (by simp; omega)
    rw [h] at this
    cases this
  have h3 := h1.1 (by simpa using h2)
  rw [h] at h3
  simp at h3
  exact ⟨h3.symm, h2⟩

set_option maxRecDepth 100000 in
set_option maxHeartbeats 8000000 in
theorem texts_any {g : G} {r : CRow} {c : Core} (h : CoreV g r c) {S : List UInt8} {sa : Option Addr} {sc : Nat} (hs : SliceV g sa S.length sc (S.map byteV)) (hS : S.length ≤ 1000) (hwf : GoodF c = true → wfC c = true ∧ nodes c ≤ 50000 ∧ WfW (addR c.re 0 [nd0]).2 ∧ (addR c.re 0 [nd0]).1 < (addR c.re 0 [nd0]).2.length) (n most : Int) (hn : i64 n) (w : World) (hw : Fut g w) :
    Calls Try.prog 10 #[r.val, .slice sa S.length sc, .int .i64 n, .int .i64 most] w (TextsP g w (textsF c S n most)) := by
  obtain ⟨g1, hg1, c0, c1, c2, c3, c4, c5, c6⟩ := box_core hw r
  obtain ⟨g2, hg2, e2⟩ := box1 hg1.fut (.cells #[.int .i64 most] 3)
  rw [World.size_alloc] at e2
  have m0 := fut_cell e2 0 _ rfl
  have hl1 : ∀ w', Fut g2 w' → Fut g1 w' := fun w' h => h.le hg2.le
  have hcv := h.le (hg1.le.trans hg2.le)
  have hmay := fun w' (hf : Fut g2 w') => may_any hcv none 0 0 most w' hf
  have HSL := hid (hs.le (hg1.le.trans hg2.le))
  have HG := hid (hg1.trans hg2)
  have HCV := hid hcv
  have HMB := hid e2
  have hf2 := hg2.fut
  unfold CRow.val at *
  generalize hW : ((w.alloc (.cells #[.int .i64 r.k, .int .u64 r.s.a, .int .u64 r.s.b, .int .u64 r.s.c, .int .u64 r.s.d, .int .i64 r.n, .slice r.a r.len r.cap] 27)).alloc (.cells #[.int .i64 most] 3)) = W at HG hf2
  have hsl := hs.length
  rw [List.length_map] at hsl
  have hsc : (S.length : Int) ≤ (sc : Int) := by omega
  have HMAY := hid hmay
  clear hg1 hg2 h hs hcv hmay e2 hsl
  go_enter Try.func10, Try.ntmps10
  go_wp2_with fail
  go_loopg [10, 18] S.length (fun rem tv i wr => ∃ q, q + rem = S.length ∧ i = .int .i64 (q : Nat) ∧ tv = .bool (dupTo S q) ∧ Hid (Grow g w g2 wr))
  case atStart => exact ⟨0, by omega, rfl, by simp [dupTo], HG⟩
  case round =>
    obtain ⟨q, hq, rfl, rfl, HGr⟩ := hrel
    have hfr := HGr.out.fut
    by_cases hlt : q < S.length
    · obtain ⟨bb, hbb⟩ : ∃ bb, S[q]? = some bb := ⟨_, List.getElem?_eq_getElem hlt⟩
      obtain ⟨sb, so, hsa, hso⟩ := HSL.out.get (i := q) (by simpa using hlt)
      subst hsa
      have hcell := hso q (.int .u8 (bb.toNat : Nat)) (by simp [byteV, hbb])
      have hqs : (q : Int) < (S.length : Int) := by omega
      have hqc : (q : Int) ≤ (sc : Int) := by omega
      have hidx := idxByte_any sb so q sc (S.take q) (by rw [List.length_take]; omega) bb wr (fun i y hi => hso i (byteV y) (by
        rw [List.getElem?_take] at hi
        split at hi
        · simp [hi]
        · cases hi) wr hfr)
      have hdup := dupTo_succ hbb
      have HD := hid hdup
      have HIDX := hid hidx
      have HQ := hid hq
      clear hso hbb hdup hidx
      cases hd : dupTo S q with
      | true =>
        have HDD := hid hd
        clear hd
        go_wp2_with fail
        go_roundg (S.length - (q + 1))
        case measure => have h2 := HQ.out; omega
        case rel => exact ⟨q + 1, by omega, by go_num, by rw [HD.out, HDD.out]; rfl, HGr⟩
      | false =>
        have HDD := hid hd
        clear hd
        go_wp2_with (first | (go_at_call 26; refine HIDX.out.mono ?_; rintro e w5 ⟨x, rfl, hx, rfl⟩; have HX := hid hx; clear hx) | fail)
        go_roundg (S.length - (q + 1))
        case measure => have h2 := HQ.out; omega
        case rel => exact ⟨q + 1, by omega, by go_num, by rw [HD.out, HDD.out, ← HX.out]; simp, HGr⟩
    · have hql : q = S.length := by omega
      subst hql
      have hdt : dupTo S S.length = decide (¬ S.Nodup) := by unfold dupTo; rw [List.take_length]
      rw [hdt]
      have hmr := HMAY.out wr hfr
      clear hdt hq hlt HMAY
      cases hma : mayB c 0 most with
      | false =>
        rw [hma] at hmr
        have HM := hid hmr
        have HNO := hid (textsF_no (c := c) (S := S) (n := n) (most := most) (by simp [textsOk, hma]))
        clear hma hmr
        go_wp2_with (first | (go_at_call 27; refine HM.out.mono ?_; rintro e w5 ⟨rfl, hg5⟩; have HG5 := hid hg5; clear hg5) | fail)
        go_ret2
        rw [HNO.out]
        exact textsP_nil 1 (HGr.out.trans HG5.out)
      | true =>
        rw [hma] at hmr
        obtain ⟨a1, a2, a3, a4⟩ := may_split hma
        obtain ⟨b1, b2, b3, b4⟩ := hwf a1
        have HM := hid hmr
        clear hmr hwf a1 a2
        by_cases hn0 : 0 ≤ n
        · by_cases hn8 : n ≤ 8
          · by_cases hS16 : S.length ≤ 16
            · by_cases hnd : S.Nodup
              · have hdd : decide (¬ S.Nodup) = false := by simp [hnd]
                have HYES := hid (textsF_yes (c := c) (S := S) (n := n) (most := most) (by simp [textsOk, hma, hn0, hn8, hS16, hnd]))
                rw [hdd]
                clear hdd
                obtain ⟨N, rfl⟩ : ∃ N : Nat, n = N := ⟨n.toNat, by omega⟩
                have hN : N ≤ 8 := by omega
                have hnw := fun w' hf => newWeb_any HCV.out b1 b2 b3 HSL.out hN w' hf
                unfold CRow.val at hnw
                have HNW := hid hnw
                have HND := hid hnd
                have HB3 := hid b3
                have d1 : decide ((N : Int) < 0) = false := by simp
                have d2 : decide ((N : Int) > 8) = false := by simp; omega
                have d3 : decide ((S.length : Int) > 16) = false := by simp; omega
                clear hnw hnd b3
                go_wp2_with (first | (go_at_call 27; refine HM.out.mono ?_; rintro e w5 ⟨rfl, hg5⟩; have HG5 := hid (HGr.out.trans hg5); have hf5 := hg5.fut; clear hg5) | (go_at_call 28; refine (HNW.out _ hf5).mono ?_) | fail)
                rintro e w6 ⟨g3, wb, b, lc, sa3, sc3, ca3, cc3, vs3, rfl, hg6, hwc, hst⟩
                have HG6 := hid (HG5.out.trans hg6)
                have HWC := hid hwc
                have HLE3 := hid hg6.le
                have hf6 := hg6.fut
                have HOS := hid (os_start hf6)
                have HGA := hid (HG6.out.alloc (.cells #[.slice none 0 0] 33))
                have HOB := hid (hg6.size)
                have hobw : w.heap.size ≤ w6.heap.size := HG6.out.size
                have HOBW := hid hobw
                clear hg6 hwc hobw HG5 hf5 HNW HM
                generalize hLL : (addR c.re 0 [nd0]).2 = L at *
                generalize hSS : (addR c.re 0 [nd0]).1 = st at *
                have hLlen : L.length ≤ 100000 := by
                  have h1 := (addR_len c.re 0 [nd0]).2
                  have h2 := reN_le _ c (Nat.le_refl _) b1
                  rw [hLL] at h1
                  simp at h1
                  omega
                have hstl : st < L.length := b4
                go_wp2_with fail
                go_loopg [15] (N + 1) (fun rem kv wr => ∃ k g4 v4 vals4 ws4, k + rem = N + 1 ∧ kv = .int .i64 (k : Nat) ∧ Hid (g3.Le g4) ∧ Hid (Grow g w g4 wr) ∧ Hid (OS g4 w6.heap.size ws4 wr v4 vals4) ∧ Hid (∀ x, v4.ownBlock = some x → w.heap.size ≤ x) ∧ Hid (runW most ((List.range k).flatMap fun k => (allWords S k).filter (AtB L [st])) [] = (true, ws4)))
                case atStart => exact ⟨0, g3, .slice none 0 0, [], [], by omega, rfl, G.Le.refl _, HGA, HOS, fun x hx => by simp [Value.ownBlock] at hx, rfl⟩
                case round =>
                  obtain ⟨k, g4, v4, vals4, ws4, hk, rfl, HL4, HG4, HO4, HV4, HRUN⟩ := hrel
                  by_cases hkn : k < N + 1
                  · have hfr4 := HO4.out.fut
                    obtain ⟨g5, hg5, hs5⟩ := one_sl hfr4 st
                    have hst4 := fun w' (hf : Fut g4 w') => hst w' (hf.le HL4.out)
                    have hl34 : ∀ w', Fut g4 w' → Fut g3 w' := fun w' h => h.le HL4.out
                    have hclo := closed_any (HWC.out.l.le (HL4.out.trans hg5.le)) HB3.out hLlen hs5 (by simp) (by simpa using hstl) _ hg5.fut
                    have hkd : decide ((k : Int) ≤ (N : Int)) = true := by simp; omega
                    have hkd2 : (k : Int) ≤ (N : Int) := by omega
                    have HCLO := hid hclo
                    have HG5 := hid hg5
                    have HK := hid hk
                    have HKN := hid hkn
                    clear hclo hs5 hg5
                    go_wp2_with (first | (go_at_call 30; refine HCLO.out.mono ?_) | fail)
                    rintro e w7 ⟨g6, oa, oc, out, rfl, hg6, hso, hcl⟩
                    have hG6 := HG5.out.trans hg6
                    have hO6 := HO4.out.kids hG6
                    have hlive := runW_live most _ [] (by simpa using a3) (by rw [HRUN.out])
                    rw [HRUN.out] at hlive
                    have hwk := walk_any k (HWC.out.le (HL4.out.trans hG6.le)) HB3.out hLlen hS (by omega) hkn hso (closed_lt HB3.out (by simpa using hstl) hcl) (closed_cl hcl) (hcl.len HB3.out (by simpa using hstl)) (hG6.le.blk _ _ (HL4.out.blk _ _ (HLE3.out.blk _ _ HMB.out))) a4 hO6 hs_nil hlive (by simp; omega) (k : Int) rfl
                    rw [wordsAt_texts hcl] at hwk
                    have HWK := hid hwk
                    have HG6' := hid (HG4.out.trans hG6)
                    have HL6 := hid hG6.le
                    clear hwk hcl hso hg6 hG6 hO6 hlive HCLO
                    go_wp2_with (first | (go_at_call 29; refine HWK.out.mono ?_) | fail)
                    rintro e w8 ⟨rfl, g7, v7, vals7, hst7⟩
                    have hts := texts_step HG6'.out HOBW.out HV4.out hst7
                    have HTS := hid hts
                    have HO7 := hid hst7.o
                    have HL7 := hid hst7.step.le
                    have hmore : runW most ((List.range (k + 1)).flatMap fun k => (allWords S k).filter (AtB L [st])) [] = runW most ((allWords S k).filter (AtB L [st])) ws4 := by
                      rw [List.range_succ, List.flatMap_append, runW_append, HRUN.out]
                      simp
                    have HMORE := hid hmore
                    clear hts hst7 hmore
                    generalize runW most ((allWords S k).filter (AtB L [st])) ws4 = r at *
                    obtain ⟨rb, rws⟩ := r
                    cases rb with
                    | false =>
                      go_wp2_with fail
                      go_ret2
                      rw [HYES.out, if_neg]
                      · exact textsP_nil 6 HTS.out.1
                      · unfold textsL
                        rw [hLL, hSS, Int.toNat_natCast]
                        exact texts_over a3 HKN.out (by rw [HMORE.out])
                    | true =>
                      go_wp2_with fail
                      go_roundg (N + 1 - (k + 1))
                      case measure => have h1 := HKN.out; have h2 := HK.out; omega
                      case rel => exact ⟨k + 1, g7, v7, vals7, rws, by have h1 := HKN.out; omega, by go_num, HL4.out.trans (HL6.out.trans HL7.out), HTS.out.1, HO7, HTS.out.2, HMORE.out⟩
                  · have hkn2 : k = N + 1 := by omega
                    have hkd : decide ((k : Int) ≤ (N : Int)) = false := by simp; omega
                    have hkd2 : ¬ (k : Int) ≤ (N : Int) := by omega
                    obtain ⟨va, vc, rfl⟩ := own_shape HO4.out.own
                    have o0 := heap_cell HO4.out.box 0 _ rfl
                    go_wp2_with fail
                    go_ret2
                    subst hkn2
                    obtain ⟨e1, e2⟩ := texts_all a3 HRUN.out
                    rw [HYES.out, if_pos]
                    · unfold textsL
                      rw [hLL, hSS, Int.toNat_natCast, e1]
                      exact HO4.out.fin HG4.out HV4.out
                    · unfold textsL
                      rw [hLL, hSS, Int.toNat_natCast]
                      exact e2
              · have HNO := hid (textsF_no (c := c) (S := S) (n := n) (most := most) (by simp [textsOk, hnd]))
                have hdd : decide (¬ S.Nodup) = true := by simp [hnd]
                rw [hdd]
                have d0 : decide (n < 0) = false := by simp; omega
                have d1 : decide (n > 8) = false := by simp; omega
                have d3 : decide ((S.length : Int) > 16) = false := by simp; omega
                clear hma
                go_wp2_with (first | (go_at_call 27; refine HM.out.mono ?_; rintro e w5 ⟨rfl, hg5⟩; have HG5 := hid hg5; clear hg5) | fail)
                go_ret2
                rw [HNO.out]
                exact textsP_nil 1 (HGr.out.trans HG5.out)
            · have HNO := hid (textsF_no (c := c) (S := S) (n := n) (most := most) (by simp [textsOk, hS16]))
              have d0 : decide (n < 0) = false := by simp; omega
              have d1 : decide (n > 8) = false := by simp; omega
              have d3 : decide ((S.length : Int) > 16) = true := by simp; omega
              clear hma
              go_wp2_with (first | (go_at_call 27; refine HM.out.mono ?_; rintro e w5 ⟨rfl, hg5⟩; have HG5 := hid hg5; clear hg5) | fail)
              go_ret2
              rw [HNO.out]
              exact textsP_nil 1 (HGr.out.trans HG5.out)
          · have HNO := hid (textsF_no (c := c) (S := S) (n := n) (most := most) (by simp [textsOk, hn8]))
            have d0 : decide (n < 0) = false := by simp; omega
            have d1 : decide (n > 8) = true := by simp; omega
            clear hma
            go_wp2_with (first | (go_at_call 27; refine HM.out.mono ?_; rintro e w5 ⟨rfl, hg5⟩; have HG5 := hid hg5; clear hg5) | fail)
            go_ret2
            rw [HNO.out]
            exact textsP_nil 1 (HGr.out.trans HG5.out)
        · have HNO := hid (textsF_no (c := c) (S := S) (n := n) (most := most) (by simp [textsOk, hn0]))
          have d0 : decide (n < 0) = true := by simp; omega
          clear hma
          go_wp2_with (first | (go_at_call 27; refine HM.out.mono ?_; rintro e w5 ⟨rfl, hg5⟩; have HG5 := hid hg5; clear hg5) | fail)
          go_ret2
          rw [HNO.out]
          exact textsP_nil 1 (HGr.out.trans HG5.out)
end Go.Proofs.Ytjodmimnbpgfcaa

/- Says -/
namespace Go.Proofs.Ytjodmimnbpgfcaa
open Go.RowKit Go.IntWalk

def langSaysF (c : Core) (s : List UInt8) : Bool := GoodF c && decide (s.length ≤ 256) && endsF s c.re 0 s.length

set_option maxRecDepth 100000 in
set_option maxHeartbeats 2000000 in
theorem langSays_any {g : G} {r : CRow} {c : Core} (h : CoreV g r c) {s : List UInt8} {sa : Option Addr} {sc : Nat} (hsl : SliceV g sa s.length sc (s.map byteV)) (hwf : GoodF c = true → wfC c = true ∧ nodes c ≤ 100000) (w : World) (hw : Fut g w) :
    Calls Try.prog 11 #[r.val, .slice sa s.length sc] w fun e w' => e = .returned (.bool (langSaysF c s)) ∧ Grow g w g w' := by
  obtain ⟨g1, hg1, c0, c1, c2, c3, c4, c5, c6⟩ := box_core hw r
  have hgood := Good_any (h.le hg1.le) _ hg1.fut
  have HG := hid hg1
  have HH := hid (h.le hg1.le)
  have HSL := hid (hsl.le hg1.le)
  have hf1 := hg1.fut
  clear hg1 h hsl
  unfold CRow.val at *
  unfold langSaysF
  cases hgo : GoodF c with
  | false =>
    rw [hgo] at hgood
    clear hgo
    go_enter Try.func11, Try.ntmps11
    go_wp2_with (first | (go_at_call 9; refine hgood.mono ?_; rintro e w2 ⟨rfl, hg2⟩; have HG2 := hid hg2; clear hg2 hgood) | fail)
    go_ret
    exact ⟨rfl, (HG.out.trans HG2.out).forget⟩
  | true =>
    rw [hgo] at hgood
    obtain ⟨hw1, hw2⟩ := hwf hgo
    clear hgo
    by_cases h1 : s.length ≤ 256
    · have d1 : decide ((s.length : Int) ≤ 256) = true := by simp; omega
      have hnew := fun w' hf' => new_any HH.out HSL.out h1 hw1 w' hf' hw2
      unfold CRow.val at hnew
      have HNEW := hid hnew
      clear hnew
      go_enter Try.func11, Try.ntmps11
      go_wp2_with (first | (go_at_call 9; refine hgood.mono ?_; rintro e w2 ⟨rfl, hg2⟩; have HG2 := hid hg2; have hf2 := hg2.fut; clear hg2 hgood) | (go_at_call 32; refine (HNEW.out _ hf2).mono ?_; rintro e w3 ⟨g3, T, M1, rfl, hg3, hTc, hTs, htp, htm, hM1⟩; have HG3 := hid hg3; subst hTc; subst hTs; have HTP := hid htp; have HTM := hid htm; have HM1 := hid hM1; have hf3 := hg3.fut; clear hg3 htp htm hM1) | (go_at_call 33; have hsay := says_any (x := T.c) (i := 0) (f := 0) (t := T.s.length) (by cases T.c; rfl) (Nat.zero_le _) (by omega) HTP.out _ hf3 HTM.out; refine Calls.mono (P := Try.prog) (by simpa using hsay) ?_; rintro e w4 ⟨rfl, g4, M4, hst4, htm4⟩; have HST4 := hid hst4; clear hst4 htm4 hsay) | fail)
      go_ret
      refine ⟨ret_bool (by simp [h1]), ?_⟩
      have hg3 := (HG.out.trans HG2.out).trans HG3.out
      have hst : Step (fun _ => False) g w g4 w4 := (hg3.step fun _ => False).trans HST4.out.step (fun b hb => .inr (by have h1 := HM1.out b hb; have h2 := (HG.out.trans HG2.out).size; omega))
      exact hst.grow.forget
    · have d1 : decide ((s.length : Int) ≤ 256) = false := by simp; omega
      go_enter Try.func11, Try.ntmps11
      go_wp2_with (first | (go_at_call 9; refine hgood.mono ?_; rintro e w2 ⟨rfl, hg2⟩; have HG2 := hid hg2; clear hg2 hgood) | fail)
      go_ret
      exact ⟨ret_bool (by simp [h1]), (HG.out.trans HG2.out).forget⟩
end Go.Proofs.Ytjodmimnbpgfcaa
