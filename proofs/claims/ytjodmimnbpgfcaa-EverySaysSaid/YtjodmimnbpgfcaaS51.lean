/- EverySays, walked. A library text: no claim is stated here. EverySays, walked: where it asks. A library text: no claim is stated here. -/
import Derived.Test.YtjodmimnbpgfcaaS47
import Derived.Test.YtjodmimnbpgfcaaS48
import Derived.Test.YtjodmimnbpgfcaaS50

/- LawS -/
namespace Go.Proofs.Ytjodmimnbpgfcaa
open Go.RowKit Go.IntWalk

theorem refAll_any {g : G} {r : CRow} {c : Core} (h : RefV g r c) (hn : nodes c ≤ 40) {u : List UInt8} {sa : Option Addr} {sc : Nat} (hsl : SliceV g sa u.length sc (u.map byteV)) (hu : u.length ≤ 6) (most : Int) (w : World) (hw : Fut g w) :
    Calls Try.prog 21 #[.agg (cellsR r), .slice sa u.length sc, .int .i64 most] w (AllPost g (refAll c u most) w) := by
  unfold refAll
  by_cases hbad : formedF c = false ∨ 256 < u.length ∨ most < 0 ∨ 2000 < most
  · rw [if_pos hbad]
    exact refAll_bad h (by omega) most hbad w hw
  · rw [if_neg hbad]
    have hf : formedF c = true := by
      cases h : formedF c with
      | true => rfl
      | false => exact absurd (.inl h) hbad
    have h0 : 0 ≤ most := by
      by_cases h : most < 0
      · exact absurd (.inr (.inr (.inl h))) hbad
      · omega
    have h2 : most ≤ 2000 := by
      by_cases h : 2000 < most
      · exact absurd (.inr (.inr (.inr h))) hbad
      · omega
    exact refAll_good h (by omega) (wf_formed hn hf) hsl most hf (by omega) h0 h2 (ev_ok (by omega) (by omega) (by omega)) w hw

theorem words_ab (k : Nat) (hk : k ≤ 3) : (wordsR [97, 98] k).length ≤ 8 ∧ ∀ u ∈ wordsR [97, 98] k, u.length ≤ 200 := by
  refine ⟨?_, fun u hu => ?_⟩
  · have : k = 0 ∨ k = 1 ∨ k = 2 ∨ k = 3 := by omega
    rcases this with rfl | rfl | rfl | rfl <;> decide
  · rw [words_same, allWords_mem] at hu
    omega
theorem texts_ab (c : Core) : ∀ k, k ≤ 4 → (textsR c [97, 98] k).length ≤ 8 * k
  | 0, _ => by simp [textsR]
  | k + 1, h => by
    have h1 := texts_ab c k (by omega)
    have h2 := (words_ab k (by omega)).1
    have h3 := List.length_filter_le (saysR c) (wordsR [97, 98] k)
    rw [textsR_succ, List.length_append]
    omega
theorem refTexts_any {g : G} {r : CRow} {c : Core} (h : RefV g r c) (hn : nodes c ≤ 40) {sa : Option Addr} {sc : Nat} (hsl : SliceV g sa 2 sc (([97, 98] : List UInt8).map byteV)) (n most : Int) (hn3 : n ≤ 3) (w : World) (hw : Fut g w) :
    Calls Try.prog 24 #[.agg (cellsR r), .slice sa 2 sc, .int .i64 n, .int .i64 most] w (TextsP g w (refTexts c [97, 98] n most)) := by
  unfold refTexts
  by_cases hbad : formedF c = false ∨ n < 0 ∨ 8 < n ∨ 16 < ([97, 98] : List UInt8).length ∨ most < 0 ∨ 2000 < most
  · rw [if_pos hbad]
    exact refTexts_bad h (S := [97, 98]) (by omega) n most (by decide) hbad w hw
  · rw [if_neg hbad]
    have hf : formedF c = true := by
      cases h : formedF c with
      | true => rfl
      | false => exact absurd (.inl h) hbad
    have h1 : 0 ≤ n := by
      by_cases h : n < 0
      · exact absurd (.inr (.inl h)) hbad
      · omega
    have h4 : 0 ≤ most := by
      by_cases h : most < 0
      · exact absurd (.inr (.inr (.inr (.inr (.inl h))))) hbad
      · omega
    have h5 : most ≤ 2000 := by
      by_cases h : 2000 < most
      · exact absurd (.inr (.inr (.inr (.inr (.inr h))))) hbad
      · omega
    obtain ⟨N, rfl⟩ : ∃ N : Nat, n = N := ⟨n.toNat, by omega⟩
    have := refTexts_good h (S := [97, 98]) (by omega) (wf_formed hn hf) hf hsl N most (by omega) (by decide) h4 h5 (fun i j hj hi => by
      have hi2 : i < 2 := hi
      obtain rfl : i = 1 := by omega
      obtain rfl : j = 0 := by omega
      show (97 : UInt8) ≠ 98
      decide) (fun k hk => ⟨Nat.le_trans (words_ab k (by omega)).1 (by omega), (words_ab k (by omega)).2⟩) (fun k hk => by have := texts_ab c k (by omega); omega) w hw
    simpa using this

mutual
theorem same_refl : ∀ (v : Val), sameF v v = true
  | .mk k b l => by simp [sameF, sameL_refl l]
theorem sameL_refl : ∀ (l : List Val), sameL l l = true
  | [] => rfl
  | x :: r => by simp [sameL, same_refl x, sameL_refl r]
end

theorem refAll_few (c : Core) (s : List UInt8) (most : Int) (hs : s.length ≤ 6) : ∀ v ∈ (refAll c s most).1, fewV v = true := by
  intro v hv
  unfold refAll at hv
  split at hv
  · simp at hv
  · split at hv
    · rename_i hfew
      have hm : (tR c.re s).length ≤ most.toNat := by
        rw [evR_take (by omega), List.length_take] at hfew
        omega
      rw [evR_take (by omega), List.take_of_length_le (by omega)] at hv
      simp only [sorted_all] at hv
      exact (((allW_mem _ _ _).1 hv).few (by omega)).1
    · simp at hv

set_option maxRecDepth 100000 in
set_option maxHeartbeats 4000000 in
theorem everySays_out {g : G} {r : CRow} {c : Core} (h : CoreV g r c) (most n : Int) {s : List UInt8} {sa : Option Addr} {sc : Nat} (hout : bigF c 30 = true ∨ 40 < sizeF c ∨ 6 < s.length ∨ 200 < most ∨ 3 < n) (w : World) (hw : Fut g w) :
    Calls Try.prog 5 #[r.val, .slice sa s.length sc, .int .i64 most, .int .i64 n] w fun e w' => e = .returned (.bool true) ∧ Grow g w g w' := by
  obtain ⟨g1, hg1, c0, c1, c2, c3, c4, c5, c6⟩ := box_core hw r
  have haw := awake_any _ hg1.fut
  have hh := h.le hg1.le
  have hbig := fun w' (hf : Fut g1 w') => big_any hh g1 (G.Le.refl _) 30 (by omega) w' hf
  have hsize := fun w' (hf : Fut g1 w') => size_any hh w' hf
  have HG := hid hg1
  have hf1 := hg1.fut
  have hsz := sizeF_bd c
  unfold CRow.val at *
  have HAW := hid haw
  clear hg1 hh h haw
  cases hb : bigF c 30 with
  | true =>
    rw [hb] at hbig
    have HB := hid hbig
    clear hb hbig hsize hout
    go_enter Try.func5, Try.ntmps5
    go_wp2_with (first | (go_at_call 6; refine HAW.out.mono ?_; rintro e w2 ⟨rfl, hg2⟩; have HG2 := hid hg2; have hf2 := hg2.fut; clear hg2 HAW) | (go_at_call 7; refine (HB.out _ hf2).mono ?_; rintro e w3 ⟨rfl, hg3⟩; have HG3 := hid hg3; clear hg3) | fail)
    go_ret
    exact ⟨rfl, ((HG.out.trans HG2.out).trans HG3.out).forget⟩
  | false =>
    rw [hb] at hbig hout
    have HB := hid hbig
    have HSI := hid hsize
    clear hb hbig hsize
    by_cases h1 : 40 < sizeF c
    · have d0 : decide (sizeF c > 40) = true := by simpa using h1
      go_enter Try.func5, Try.ntmps5
      go_wp2_with (first | (go_at_call 6; refine HAW.out.mono ?_; rintro e w2 ⟨rfl, hg2⟩; have HG2 := hid hg2; have hf2 := hg2.fut; clear hg2 HAW) | (go_at_call 7; refine (HB.out _ hf2).mono ?_; rintro e w3 ⟨rfl, hg3⟩; have HG3 := hid hg3; have hf3 := hg3.fut; clear hg3) | (go_at_call 8; refine (HSI.out _ hf3).mono ?_; rintro e w4 ⟨rfl, hg4⟩; have HG4 := hid hg4; have hf4 := hg4.fut; clear hg4) | fail)
      go_ret
      exact ⟨rfl, (((HG.out.trans HG2.out).trans HG3.out).trans HG4.out).forget⟩
    have d0 : decide (sizeF c > 40) = false := by simpa using h1
    by_cases h2 : 6 < s.length
    · have d1 : decide ((s.length : Int) > 6) = true := by simp; omega
      go_enter Try.func5, Try.ntmps5
      go_wp2_with (first | (go_at_call 6; refine HAW.out.mono ?_; rintro e w2 ⟨rfl, hg2⟩; have HG2 := hid hg2; have hf2 := hg2.fut; clear hg2 HAW) | (go_at_call 7; refine (HB.out _ hf2).mono ?_; rintro e w3 ⟨rfl, hg3⟩; have HG3 := hid hg3; have hf3 := hg3.fut; clear hg3) | (go_at_call 8; refine (HSI.out _ hf3).mono ?_; rintro e w4 ⟨rfl, hg4⟩; have HG4 := hid hg4; have hf4 := hg4.fut; clear hg4) | fail)
      go_ret
      exact ⟨rfl, (((HG.out.trans HG2.out).trans HG3.out).trans HG4.out).forget⟩
    have d1 : decide ((s.length : Int) > 6) = false := by simp; omega
    by_cases h3 : 200 < most
    · have d2 : decide (most > 200) = true := by simpa using h3
      go_enter Try.func5, Try.ntmps5
      go_wp2_with (first | (go_at_call 6; refine HAW.out.mono ?_; rintro e w2 ⟨rfl, hg2⟩; have HG2 := hid hg2; have hf2 := hg2.fut; clear hg2 HAW) | (go_at_call 7; refine (HB.out _ hf2).mono ?_; rintro e w3 ⟨rfl, hg3⟩; have HG3 := hid hg3; have hf3 := hg3.fut; clear hg3) | (go_at_call 8; refine (HSI.out _ hf3).mono ?_; rintro e w4 ⟨rfl, hg4⟩; have HG4 := hid hg4; have hf4 := hg4.fut; clear hg4) | fail)
      go_ret
      exact ⟨rfl, (((HG.out.trans HG2.out).trans HG3.out).trans HG4.out).forget⟩
    have d2 : decide (most > 200) = false := by simpa using h3
    have h4 : 3 < n := by
      rcases hout with h | h | h | h | h
      · cases h
      · exact absurd h h1
      · exact absurd h h2
      · exact absurd h h3
      · exact h
    have d3 : decide (n > 3) = true := by simpa using h4
    go_enter Try.func5, Try.ntmps5
    go_wp2_with (first | (go_at_call 6; refine HAW.out.mono ?_; rintro e w2 ⟨rfl, hg2⟩; have HG2 := hid hg2; have hf2 := hg2.fut; clear hg2 HAW) | (go_at_call 7; refine (HB.out _ hf2).mono ?_; rintro e w3 ⟨rfl, hg3⟩; have HG3 := hid hg3; have hf3 := hg3.fut; clear hg3) | (go_at_call 8; refine (HSI.out _ hf3).mono ?_; rintro e w4 ⟨rfl, hg4⟩; have HG4 := hid hg4; have hf4 := hg4.fut; clear hg4) | fail)
    go_ret
    exact ⟨rfl, (((HG.out.trans HG2.out).trans HG3.out).trans HG4.out).forget⟩
end Go.Proofs.Ytjodmimnbpgfcaa

/- LawU -/
namespace Go.Proofs.Ytjodmimnbpgfcaa
open Go.RowKit Go.IntWalk

set_option maxRecDepth 100000 in
set_option maxHeartbeats 8000000 in
theorem everySays_in {g : G} {r : CRow} {c : Core} (h : CoreV g r c) (most n : Int) (hmi : i64 most) (hni : i64 n) {s : List UInt8} {sa : Option Addr} {sc : Nat} (hs : SliceV g sa s.length sc (s.map byteV)) (hbg : bigF c 30 = false) (hsz : sizeF c ≤ 40) (hsl : s.length ≤ 6) (hmost : most ≤ 200) (hn3 : n ≤ 3) (w : World) (hw : Fut g w) :
    Calls Try.prog 5 #[r.val, .slice sa s.length sc, .int .i64 most, .int .i64 n] w fun e w' => e = .returned (.bool true) ∧ Grow g w g w' := by
  obtain ⟨hgs, hnc⟩ := good_same hsz
  obtain ⟨hall, hcnt⟩ := all_same c s most hgs (by omega)
  have htex := texts_same c n most hgs
  have hfew := refAll_few c s most hsl
  obtain ⟨g1, hg1, c0, c1, c2, c3, c4, c5, c6⟩ := box_core hw r
  have haw := awake_any _ hg1.fut
  have hh := h.le hg1.le
  have hbig := fun w' (hf : Fut g1 w') => big_any hh g1 (G.Le.refl _) 30 (by omega) w' hf
  have hsize := fun w' (hf : Fut g1 w') => size_any hh w' hf
  have hco := core_ok hh
  have hcof := fun w' (hf : Fut g1 w') => coreOf_any hh (by omega) g1 (G.Le.refl _) w' hf
  have hpa := fun (g' : G) (hle : g1.Le g') (w' : World) (hf : Fut g' w') => all_any (hh.le hle) (hs.le (hg1.le.trans hle)) (fun hg => ⟨(hco hg).1, by omega⟩) most w' hf
  have hpc := fun (g' : G) (hle : g1.Le g') (w' : World) (hf : Fut g' w') => count_any (hh.le hle) (hs.le (hg1.le.trans hle)) (fun hg => ⟨(hco hg).1, by omega⟩) most w' hf
  have hpt := fun (g' : G) (hle : g1.Le g') (ba : Option Addr) (bc : Nat) (hb : SliceV g' ba 2 bc (([97, 98] : List UInt8).map byteV)) (w' : World) (hf : Fut g' w') => texts_any (S := [97, 98]) (hh.le hle) hb (by simp) hco n most hni w' hf
  have hra := fun (g' : G) (hle : g1.Le g') (r2 : CRow) (hr : RefV g' r2 c) (w' : World) (hf : Fut g' w') => refAll_any hr hnc (hs.le (hg1.le.trans hle)) hsl most w' hf
  have hrt := fun (g' : G) (hle : g1.Le g') (r2 : CRow) (hr : RefV g' r2 c) (ba : Option Addr) (bc : Nat) (hb : SliceV g' ba 2 bc (([97, 98] : List UInt8).map byteV)) (w' : World) (hf : Fut g' w') => refTexts_any hr hnc hb n most hn3 w' hf
  rw [hall] at hpa
  rw [hcnt] at hpc
  rw [htex] at hpt
  obtain ⟨E, hE⟩ : ∃ E, (refAll c s most).2 = E := ⟨_, rfl⟩
  obtain ⟨L, hL⟩ : ∃ L, (refAll c s most).1 = L := ⟨_, rfl⟩
  obtain ⟨F, hF⟩ : ∃ F, (refTexts c [97, 98] n most).2 = F := ⟨_, rfl⟩
  obtain ⟨T, hT⟩ : ∃ T, (refTexts c [97, 98] n most).1 = T := ⟨_, rfl⟩
  have hpair : refAll c s most = (L, E) := by rw [← hE, ← hL]
  have hpair2 : refTexts c [97, 98] n most = (T, F) := by rw [← hF, ← hT]
  have hTl : T.length ≤ 100000 := by
    rw [← hT]
    unfold refTexts
    split
    · simp
    · split
      · rename_i hbad _
        have hN : n.toNat + 1 ≤ 4 := by omega
        have := texts_ab c _ hN
        show (textsR c [97, 98] (n.toNat + 1)).length ≤ 100000
        omega
      · simp
  have hLl : L.length ≤ 100000 := by
    rw [← hL]
    unfold refAll
    split
    · simp
    · split
      · rename_i hbad hfew
        show (List.foldl insR [] _).length ≤ 100000
        rw [fold_len]
        simp only [List.length_nil]
        omega
      · simp
  rw [hpair] at hpa hpc hra hfew
  rw [hpair2] at hpt hrt
  have HPA := hid hpa
  have HPC := hid hpc
  have HPT := hid hpt
  have HRA := hid hra
  have HRT := hid hrt
  have HCOF := hid hcof
  have HFEW := hid hfew
  have HG := hid hg1
  have HB := hid hbig
  have HSI := hid hsize
  have HAW := hid haw
  have hf1 := hg1.fut
  have d0 : decide (sizeF c > 40) = false := by simp; omega
  have d1 : decide ((s.length : Int) > 6) = false := by simp; omega
  have d2 : decide (most > 200) = false := by simp; omega
  have d3 : decide (n > 3) = false := by simp; omega
  have hz := fun w => zero54 w
  rw [hbg] at HB
  unfold CRow.val at *
  clear hg1 hh h hs haw hall hcnt htex hfew hpa hpc hpt hra hrt hcof hbig hsize hpair hpair2 hE hL hF hT hgs hco hbg
  go_enter Try.func5, Try.ntmps5
  go_upto_region 5 with (first | (go_at_call 6; refine HAW.out.mono ?_; rintro e w2 ⟨rfl, hg2⟩; have HG2 := hid hg2; have hf2 := hg2.fut; clear hg2 HAW) | (go_at_call 7; refine (HB.out _ hf2).mono ?_; rintro e w3 ⟨rfl, hg3⟩; have HG3 := hid hg3; have hf3 := hg3.fut; clear hg3) | (go_at_call 8; refine (HSI.out _ hf3).mono ?_; rintro e w4 ⟨rfl, hg4⟩; have HG4 := hid hg4; have hf4 := hg4.fut; clear hg4) | fail)
  have HGA := hid (((HG.out.trans HG2.out).trans HG3.out).trans HG4.out)
  have hsA := HGA.out.size
  clear HG HG2 HG3 HG4 HB HSI hf2 hf3 hf1
  go_upto_region 6 with (first | (go_at_call 20; refine (HCOF.out _ hf4).mono ?_; rintro e w5 ⟨g5, r5, rfl, hg5, hv5⟩; have HG5 := hid hg5; have HV5 := hid hv5; have hf5 := hg5.fut.le hg5.le; clear hg5 hv5) | (refine wpList_store_row rfl 54 _ _ rfl _ _ rfl rfl 54 _ (heap_alloc_new w5 (.cells (cellsR ⟨0, set0, 0, none, 0, 0⟩) 54)) (by rw [size54]; simp [cellsR_size]) (by simp [cellsR_size]) (cellsR_one _) ?_) | fail)
  generalize hW6 : (w5.alloc (.cells (cellsR ⟨0, set0, 0, none, 0, 0⟩) 54)).setRow w5.heap.size (cellsR r5) = w6
  have hb6 : w6.heap[w5.heap.size]? = some (.cells (cellsR r5) 54) := by
    rw [← hW6]
    exact setRow_heap _ _ _ _ _ _ (heap_alloc_new w5 (.cells (cellsR ⟨0, set0, 0, none, 0, 0⟩) 54))
  have hg6a : Grow g w g5 w6 := by
    rw [← hW6]
    exact ((HGA.out.trans HG5.out).alloc _).setRow (HG5.out.fut.none_of_size (Nat.le_refl _)) (Nat.le_trans hsA HG5.out.size) _
  have hg6 := hg6a.keep hb6 (Nat.le_trans hsA HG5.out.size) (HG5.out.fut.none_of_size (Nat.le_refl _))
  have hle6 : g5.Le (g5.add w5.heap.size (.cells (cellsR r5) 54)) := G.le_add (HG5.out.fut.none_of_size (Nat.le_refl _))
  have hbb : (g5.add w5.heap.size (.cells (cellsR r5) 54)).blk w5.heap.size = some (.cells (cellsR r5) 54) := G.add_same _ _ _
  generalize hg6n : g5.add w5.heap.size (.cells (cellsR r5) 54) = g6 at hg6 hle6 hbb
  have hcv : ∀ w', Fut g6 w' → w'.rangeAt w5.heap.size 0 (cellsR r5).toList := fun w' hw' => by
    intro j v hv
    rw [Nat.zero_add]
    exact fut_cell hbb j v (by simpa using hv) w' hw'
  have hl1 : g1.Le g6 := HG5.out.le.trans hle6
  have HV6 := hid (HV5.out.le hle6)
  have HCV := hid hcv
  have HG6 := hid hg6
  have hf6 := hg6.fut
  have k0 := fun w' (hw' : Fut g6 w') => c0 w' (hw'.le hl1)
  have k1 := fun w' (hw' : Fut g6 w') => c1 w' (hw'.le hl1)
  have k2 := fun w' (hw' : Fut g6 w') => c2 w' (hw'.le hl1)
  have k3 := fun w' (hw' : Fut g6 w') => c3 w' (hw'.le hl1)
  have k4 := fun w' (hw' : Fut g6 w') => c4 w' (hw'.le hl1)
  have k5 := fun w' (hw' : Fut g6 w') => c5 w' (hw'.le hl1)
  have k6 := fun w' (hw' : Fut g6 w') => c6 w' (hw'.le hl1)
  have HPA2 := hid (fun w' (hw' : Fut g6 w') => HPA.out g6 hl1 w' hw')
  have HRA2 := hid (fun (g' : G) (hle : g6.Le g') w' (hw' : Fut g' w') => HRA.out g' (hl1.trans hle) r5 (HV6.out.le hle) w' hw')
  generalize hB : w5.heap.size = B at HCV ⊢
  clear hW6 hb6 hg6a hg6 hle6 hbb hg6n hcv HV5 HGA HG5 hsA c0 c1 c2 c3 c4 c5 c6 HPA HRA HCOF hf4 hf5 hB
  go_upto_region 7 with (first | (go_at_call 14; refine (HPA2.out _ hf6).mono ?_; rintro e w7 ⟨g7, la, lc, rfl, hg7, hv7⟩; have HG7 := hid hg7; have HV7 := hid hv7; have hf7 := hg7.fut; simp only; clear hg7 hv7) | fail)
  have HC7 := hid (HRA2.out g7 HG7.out.le _ hf7)
  have H7 := hid (HCV.out _ (hf7.le HG7.out.le))
  go_upto_region 8 with (first | (refine wpList_load54 rfl _ rfl rfl H7.out ?_) | (go_at_call 21; refine HC7.out.mono ?_; rintro e w8 ⟨g8, ma, mc, rfl, hg8, hv8⟩; have HG8 := hid hg8; have HV8 := hid hv8; have hf8 := hg8.fut; simp only; clear hg8 hv8) | fail)
  have HG8' := hid ((HG6.out.trans HG7.out).trans HG8.out)
  have HL8 := hid (HG7.out.le.trans HG8.out.le)
  have HVL : Hid (ValsV g8 la L.length lc L) := hid (ValV.le HV7.out HG8.out.le)
  have hl86 : ∀ w', Fut g8 w' → Fut g6 w' := fun w' h => h.le HL8.out
  have hFE := HFEW.out
  try simp only at hFE
  have HFE := hid hFE
  clear HG6 HG7 HG8 HV7 HPA2 HRA2 HC7 H7 hf6 hf7 hFE HFEW
  go_wp2_with fail
  go_loopg [14] L.length (fun rem i wr => ∃ q : Nat, q + rem = L.length ∧ i = .int .i64 q ∧ Hid (Grow g8 w8 g8 wr))
  case atStart => exact ⟨0, by omega, rfl, Grow.refl hf8⟩
  case round =>
    obtain ⟨q, hq, rfl, HGr⟩ := hrel
    have hfr := HGr.out.fut
    by_cases hlt : q < L.length
    · obtain ⟨lb, lo, rl, rfl, hcl, hvl, -⟩ := HVL.out.at hlt
      obtain ⟨mb, mo, rm, rfl, hcm, hvm, -⟩ := HV8.out.at hlt
      obtain ⟨x0, x1, x2⟩ := hcl
      obtain ⟨y0, y1, y2⟩ := hcm
      have hll := HVL.out.len.2
      have hlm := HV8.out.len.2
      have HVO := hid (fun w' (hw' : Fut g8 w') => valueOf_any hvl (HFE.out L[q] (List.getElem_mem _)) g8 (G.Le.refl _) w' hw')
      have HVM := hid hvm
      have hqi : (q : Int) < L.length := by omega
      clear hvl hvm
      go_upto_region 13 with fail
      refine wp_region_held_drew (S := (fun w' => Fut g8 w')) (by kernel_rfl) hfr.drew ?_
      intro hS0
      refine wpAnyH_take (i := 0) (oi := { dst := some 75, op := Go.Op.move (Go.Operand.tmp 10), type := 41, pos := "law.go:118", after := #[], guard := none }) (v := ?_) rfl (by kernel_rfl) (by kernel_rfl) (by kernel_rfl) (fun _ _ _ h => h) (Or.inl ⟨by rfl, ?_⟩) (by assumption) ?_
      rotate_left
      · intro w hSw; go_simp; all_goals with_reducible rfl
      try simp only [Act.put, List.setIfInBounds_toArray, List.set_cons_zero, List.set_cons_succ]
      refine wpAnyH_take (i := 1) (oi := { dst := some 76, op := Go.Op.move (Go.Operand.tmp 14), type := 3, pos := "law.go:118", after := #[], guard := none }) (v := ?_) rfl (by kernel_rfl) (by kernel_rfl) (by kernel_rfl) (fun _ _ _ h => h) (Or.inl ⟨by rfl, ?_⟩) (by assumption) ?_
      rotate_left
      · intro w hSw; go_simp; all_goals with_reducible rfl
      try simp only [Act.put, List.setIfInBounds_toArray, List.set_cons_zero, List.set_cons_succ]
      refine wpAnyH_take (i := 2) (oi := { dst := some 77, op := Go.Op.indexAddr 41 (Go.Operand.tmp 75) (Go.Operand.tmp 76), type := 0, pos := "law.go:118", after := #[{ on := 0, ground := Go.Ground.data }, { on := 1, ground := Go.Ground.data }], guard := none }) (v := ?_) rfl (by kernel_rfl) (by kernel_rfl) (by kernel_rfl) (fun _ _ _ h => h) (Or.inl ⟨by rfl, ?_⟩) (by assumption) ?_
      rotate_left
      · intro w hSw; go_simp; all_goals with_reducible rfl
      try simp only [Act.put, List.setIfInBounds_toArray, List.set_cons_zero, List.set_cons_succ]
      refine wpAnyH_take (i := 3) (oi := { dst := some 78, op := Go.Op.load 48 (Go.Operand.tmp 77), type := 48, pos := "law.go:118", after := #[{ on := 2, ground := Go.Ground.data }], guard := none }) (v := ?_) rfl (by kernel_rfl) (by kernel_rfl) (by kernel_rfl) (fun _ _ _ h => h) (Or.inl ⟨by rfl, ?_⟩) (by assumption) ?_
      rotate_left
      · intro w hSw; go_simp; all_goals with_reducible rfl
      try simp only [Act.put, List.setIfInBounds_toArray, List.set_cons_zero, List.set_cons_succ]
      refine wpAnyH_take (i := 5) (oi := { dst := some 80, op := Go.Op.move (Go.Operand.tmp 12), type := 56, pos := "law.go:118", after := #[], guard := none }) (v := ?_) rfl (by kernel_rfl) (by kernel_rfl) (by kernel_rfl) (fun _ _ _ h => h) (Or.inl ⟨by rfl, ?_⟩) (by assumption) ?_
      rotate_left
      · intro w hSw; go_simp; all_goals with_reducible rfl
      try simp only [Act.put, List.setIfInBounds_toArray, List.set_cons_zero, List.set_cons_succ]
      refine wpAnyH_take (i := 6) (oi := { dst := some 81, op := Go.Op.move (Go.Operand.tmp 14), type := 3, pos := "law.go:118", after := #[], guard := none }) (v := ?_) rfl (by kernel_rfl) (by kernel_rfl) (by kernel_rfl) (fun _ _ _ h => h) (Or.inl ⟨by rfl, ?_⟩) (by assumption) ?_
      rotate_left
      · intro w hSw; go_simp; all_goals with_reducible rfl
      try simp only [Act.put, List.setIfInBounds_toArray, List.set_cons_zero, List.set_cons_succ]
      refine wpAnyH_take (i := 7) (oi := { dst := some 82, op := Go.Op.indexAddr 56 (Go.Operand.tmp 80) (Go.Operand.tmp 81), type := 0, pos := "law.go:118", after := #[{ on := 5, ground := Go.Ground.data }, { on := 6, ground := Go.Ground.data }], guard := none }) (v := ?_) rfl (by kernel_rfl) (by kernel_rfl) (by kernel_rfl) (fun _ _ _ h => h) (Or.inl ⟨by rfl, ?_⟩) (by assumption) ?_
      rotate_left
      · intro w hSw; go_simp; all_goals with_reducible rfl
      try simp only [Act.put, List.setIfInBounds_toArray, List.set_cons_zero, List.set_cons_succ]
      refine wpAnyH_take (i := 8) (oi := { dst := some 83, op := Go.Op.load 61 (Go.Operand.tmp 82), type := 61, pos := "law.go:118", after := #[{ on := 7, ground := Go.Ground.data }], guard := none }) (v := ?_) rfl (by kernel_rfl) (by kernel_rfl) (by kernel_rfl) (fun _ _ _ h => h) (Or.inl ⟨by rfl, ?_⟩) (by assumption) ?_
      rotate_left
      · intro w hSw; go_simp; all_goals with_reducible rfl
      try simp only [Act.put, List.setIfInBounds_toArray, List.set_cons_zero, List.set_cons_succ]
      refine wpAnyH_ready (rs := [4]) (by kernel_rfl) (by simp) ?_
      refine (AllReadyH.cons (o := { dst := some 79, op := Go.Op.call { callee := Go.Callee.value (Go.Operand.func 23), args := #[Go.Operand.tmp 78], argTypes := #[48] }, type := 61, pos := "law.go:118", after := #[{ on := 3, ground := Go.Ground.data }], guard := none }) rfl (fun K hK => ?_) AllReadyH.nil)
      · go_simp
        refine (HVO.out _ (by assumption)).mono ?_
        rintro e w9 ⟨g9, r9, rfl, hg9, hv9⟩
        have hsm := same_any hv9 g9 (G.Le.refl _) (HVM.out.le hg9.le) w9 hg9.fut
        rw [same_refl] at hsm
        have HSM := hid hsm
        have HG9 := hid ((Grow.refl hfr).drew.trans hg9)
        have hf9 := hg9.fut.le hg9.le
        clear hg9 hv9 hsm
        try go_wp2_with fail
        refine hK.out _ _ ?_ (fun hHeld => ?_)
        · first | exact Fut.drew (by assumption) | exact Fut.alloc (by assumption) _ | assumption
        clear hK K
        try simp only [Act.put, List.setIfInBounds_toArray, List.set_cons_zero, List.set_cons_succ]
        refine wpAnyH_ready (rs := [9]) (by kernel_rfl) (by simp) ?_
        refine (AllReadyH.cons (o := { dst := some 84, op := Go.Op.call { callee := Go.Callee.value (Go.Operand.func 22), args := #[Go.Operand.tmp 79, Go.Operand.tmp 83], argTypes := #[61, 61] }, type := 4, pos := "law.go:118", after := #[{ on := 4, ground := Go.Ground.data }, { on := 8, ground := Go.Ground.data }, { on := 4, ground := Go.Ground.chain }], guard := none }) rfl (fun K hK => ?_) AllReadyH.nil)
        · go_simp
          refine HSM.out.mono ?_
          rintro e w10 ⟨rfl, hg10⟩
          have HG10 := hid (HG9.out.trans hg10)
          have hf10 := hg10.fut.le HG9.out.le
          clear hg10
          try go_wp2_with fail
          refine hK.out _ _ ?_ (fun hHeld => ?_)
          · first | exact Fut.drew (by assumption) | exact Fut.alloc (by assumption) _ | assumption
          clear hK K
          try simp only [Act.put, List.setIfInBounds_toArray, List.set_cons_zero, List.set_cons_succ]
          refine wpAnyH_take (i := 10) (oi := { dst := some 85, op := Go.Op.unOp Go.UnOp.not 4 (Go.Operand.tmp 84), type := 4, pos := "law.go:118", after := #[{ on := 9, ground := Go.Ground.data }], guard := none }) (v := ?_) rfl (by kernel_rfl) (by kernel_rfl) (by kernel_rfl) (fun _ _ _ h => h) (Or.inl ⟨by rfl, ?_⟩) (by assumption) ?_
          rotate_left
          · intro w hSw; go_simp; all_goals with_reducible rfl
          try simp only [Act.put, List.setIfInBounds_toArray, List.set_cons_zero, List.set_cons_succ]
          refine wpAnyH_done (by kernel_rfl) ?_ _
          go_wp2_with fail
          go_roundg (L.length - (q + 1))
          case measure => omega
          case rel => exact ⟨q + 1, by omega, by go_num, hid (HGr.out.trans HG10.out.forget)⟩
    · obtain rfl : q = L.length := by omega
      clear HFE HV8 HVL
      go_upto_if 89 with fail
      go_cut [15] from 88 to 92 (fun s15 wd => s15 = .int .i64 (if E = 6 then most + 1 else (L.length : Int)) ∧ Hid (Grow g8 w8 g8 wd))
      case first =>
        by_cases hE6 : E = 6
        · have hE' : (E == 6) = true := by simpa using hE6
          have hwr : IntKind.i64.wrap (most + 1) = most + 1 := IntWalk.i64_in _ (by unfold i64 at hmi; omega)
          go_wp2_with fail
          go_meet
          case rel => exact ⟨by rw [if_pos hE6], HGr⟩
        · have hE' : (E == 6) = false := by simpa using hE6
          go_wp2_with fail
          go_meet
          case rel => exact ⟨by rw [if_neg hE6], HGr⟩
      case rest =>
        obtain ⟨rfl, HGd⟩ := hcut
        have hpc2 := fun (g' : G) (hle : g8.Le g') w' (hw' : Fut g' w') => HPC.out g' (hl1.trans (HL8.out.trans hle)) w' hw'
        try simp only at hpc2
        generalize (if E = 6 then most + 1 else (L.length : Int)) = CN at hpc2 ⊢
        have HPC2 := hid hpc2
        have hfd := HGd.out.fut
        have HGA := hid (HG8'.out.trans HGd.out)
        have HPT2 := hid (fun (g' : G) (hle : g8.Le g') (ba : Option Addr) (bc : Nat) (hb : SliceV g' ba 2 bc (([97, 98] : List UInt8).map byteV)) (w' : World) (hf : Fut g' w') => HPT.out g' (hl1.trans (HL8.out.trans hle)) ba bc hb w' hf)
        have HRT2 := hid (fun (g' : G) (hle : g8.Le g') (ba : Option Addr) (bc : Nat) (hb : SliceV g' ba 2 bc (([97, 98] : List UInt8).map byteV)) (w' : World) (hf : Fut g' w') => HRT.out g' (hl1.trans (HL8.out.trans hle)) r5 (HV6.out.le (HL8.out.trans hle)) ba bc hb w' hf)
        obtain ⟨g10, hg10, hs10⟩ := sl_marked hfd [97, 98] (by simp)
        have kc := conv_const wc #[.int .u8 97, .int .u8 98] 2 2
        have hcall := HPT2.out g10 hg10.le _ _ hs10 _ hg10.fut
        simp only [List.map_cons, List.map_nil, byteV, List.length_cons, List.length_nil, Nat.zero_add, Nat.reduceAdd] at hg10 hcall
        have HCALL := hid hcall
        have HG10 := hid (HGA.out.trans hg10)
        have HL10 := hid hg10.le
        have hl108 : ∀ w', Fut g10 w' → Fut g8 w' := fun w' h => h.le HL10.out
        have hf10 := hg10.fut
        clear hcall hg10 hs10 hpc2 HGd HGA HG8' HPC HPT HRT hf8
        go_wp2_with (first | (go_at_call 10; refine HCALL.out.mono ?_) | fail)
        rintro e w11 ⟨g11, ta, tc, vals, rfl, hg11, hts, htl, htr⟩
        try simp only at hts htl htr
        simp only
        have HG11 := hid (HG10.out.trans hg11)
        have HL11 := hid (HL10.out.trans hg11.le)
        have hf11 := hg11.fut
        have HTS := hid hts
        have HTL := hid htl
        have HTR := hid htr
        clear hg11 hts htl htr HCALL HG10 HL10 kc hl108 hf10
        obtain ⟨g12, hg12, hs12⟩ := sl_marked hf11 [97, 98] (by simp)
        have kc2 := conv_const w11 #[.int .u8 97, .int .u8 98] 2 2
        have hcall := HRT2.out g12 (HL11.out.trans hg12.le) _ _ hs12 _ hg12.fut
        simp only [List.map_cons, List.map_nil, byteV, List.length_cons, List.length_nil, Nat.zero_add, Nat.reduceAdd] at hg12 hcall
        have HCALL := hid hcall
        have HG12 := hid (HG11.out.trans hg12)
        have HL12 := hid (HL11.out.trans hg12.le)
        have HLx := hid hg12.le
        have H11 := hid (HCV.out _ (hl86 _ (hf11.le HL11.out)))
        clear hcall hg12 hs12 HG11 HL11
        go_wp2_with (first | (refine wpList_load54 rfl _ rfl rfl H11.out ?_) | (go_at_call 24; refine HCALL.out.mono ?_) | fail)
        rintro e w13 ⟨g13, ua, uc, vals2, rfl, hg13, hus, hul, hur⟩
        try simp only at hus hul hur
        simp only
        have HG13 := hid (HG12.out.trans hg13)
        have HL13 := hid (HL12.out.trans hg13.le)
        have hf13 := hg13.fut
        have HLy := hid (HLx.out.trans hg13.le)
        have HUS := hid hus
        have HUL := hid hul
        have HUR := hid hur
        clear hg13 hus hul hur HCALL HG12 HL12 kc2 hf11 HLx
        have hl138 : ∀ w', Fut g13 w' → Fut g8 w' := fun w' h => h.le HL13.out
        go_wp2_with fail
        go_loopg [20] T.length (fun rem i wr => ∃ q : Nat, q + rem = T.length ∧ i = .int .i64 q ∧ Hid (Grow g13 w13 g13 wr))
        case atStart => exact ⟨0, by omega, rfl, Grow.refl hf13⟩
        case round =>
          obtain ⟨q, hq, rfl, HGr⟩ := hrel
          have hfr2 := HGr.out.fut
          by_cases hlt : q < T.length
          · have hu : T[q]? = some T[q] := List.getElem?_eq_getElem hlt
            obtain ⟨tb, toff, xa, xc, rfl, hct, hvt⟩ := tx_at HTS.out HTL.out HTR.out hu
            obtain ⟨ub, uoff, ya, yc, rfl, hcu, hvu⟩ := tx_at HUS.out HUL.out HUR.out hu
            have m1 := fun w' (h : Fut g13 w') => hct w' (h.le HLy.out)
            have m2 := fun w' (h : Fut g13 w') => hvt w' (h.le HLy.out)
            have hqi : (q : Int) < T.length := by omega
            have htc := HTS.out.length.2
            have huc := HUS.out.length.2
            generalize T[q] = tx at *
            clear hct hvt hu
            go_upto_region 25 with fail
            refine wp_region_cls (g := g13) (w0 := wr) (by kernel_rfl) (by kernel_rfl) (Grow.refl hfr2) ?_
            have hx : ∀ x : Wg g13 wr, Fut g13 x.w := fun x => x.h.fut
            have hne : Nonempty (Wg g13 wr) := ⟨⟨wr, Grow.refl hfr2⟩⟩
            repeat (go_big_quiet_step (fail))
            refine wpQuiet_nil ?_
            rintro wa ⟨⟨_, hga⟩, rfl⟩
            have HGX := hid hga
            have hfa := hga.fut
            clear hga hx hne
            go_wp2_with fail
            go_roundg (T.length - (q + 1))
            case measure => omega
            case rel => exact ⟨q + 1, by omega, by go_num, hid (HGr.out.trans HGX.out)⟩
          · have hf6w := hl86 _ (hl138 _ hfr2)
            have hcc := HPC2.out g13 HL13.out _ hfr2
            have HCC := hid hcc
            clear hcc
            go_wp2_with (first | (go_at_call 19; refine HCC.out.mono ?_; rintro e w15 ⟨rfl, hg15⟩; have HG15 := hid hg15; clear hg15) | fail)
            go_ret
            exact ⟨ret_bool (by simp), ((HG13.out.trans HGr.out).trans HG15.out).forget⟩
end Go.Proofs.Ytjodmimnbpgfcaa
