/- What 'EveryKnown' asks of the plain functions. A library text: no claim is stated here. EveryKnown, walked. A library text: no claim is stated here. -/
import Derived.Test.YtjodmimnbpgfcaaM35
import Derived.Test.YtjodmimnbpgfcaaM33
import Derived.Test.YtjodmimnbpgfcaaM36

/- KnownF -/
namespace Go.Proofs.Ytjodmimnbpgfcaa
open Go.RowKit Go.IntWalk

/-- The table of texts, by the table of ends. -/
def textsC (c : Core) (S : List UInt8) (n : Nat) : List (List UInt8) := (List.range (n + 1)).flatMap fun k => (allWords S k).filter fun u => endsF u c.re 0 u.length
theorem textsL_comp (c : Core) (S : List UInt8) (n : Nat) : textsL c S n = textsC c S n := by
  unfold textsL textsC
  congr 1
  funext k
  congr 1
  funext u
  rw [Bool.eq_iff_iff, says_iff, atB_iff, ← web_says]
  simp

def kc : Core := starC (starC (chC [97]))
def kd : Core := seqC (altC (chC [97]) epsC) (starC (chC [98]))
/-- The texts, joined. -/
def joinF (T : List (List UInt8)) : Nat → ByteArray
  | 0 => ⟨#[]⟩
  | q + 1 => joinF T q ++ ⟨(T.getD q []).toArray⟩ ++ ⟨#[59]⟩
theorem k_all1 : (allF kc [97, 97, 97] 10).1.length = 4 ∧ (allF kc [97, 97, 97] 10).2 = 0 := by
  constructor <;> kernel_rfl
theorem k_all2 : allF kc [97, 97, 97] 3 = ([], 6) := by kernel_rfl
theorem k_all3 : allF (chC [97]) [98] 10 = ([], 0) := by kernel_rfl
theorem k_all4 : allF kc [] 2001 = ([], 1) := by kernel_rfl
theorem k_all5 : allF (.mk 9 set0 0 []) [] 1 = ([], 1) := by kernel_rfl
theorem k_cnt1 : countF kc [97, 97, 97] 10 = 4 := by kernel_rfl
theorem k_cnt2 : countF kc [97, 97, 97] 2 = 3 := by kernel_rfl
theorem k_cnt3 : countF kc [] (-1) = 0 := by kernel_rfl
theorem k_t1 : textsC kd [98, 97] 2 = [[], [98], [97], [98, 98], [97, 98]] := by kernel_rfl
theorem k_t4 : textsC (starC (chC [97])) [97] 3 = [[], [97], [97, 97], [97, 97, 97]] := by kernel_rfl
theorem k_v : ∃ v, (allF kc [97, 97, 97] 10).1[0]? = some v ∧ textF v = [91, 91, 54, 49, 44, 54, 49, 44, 54, 49, 93, 93] ∧ wfV v = true := ⟨_, rfl, by kernel_rfl, by kernel_rfl⟩
/-- The texts that the law asks for. -/
def tk : List (List UInt8) := [[], [98], [97], [98, 98], [97, 98]]
theorem k_txs1 : textsF kd [98, 97] 2 10 = (tk, 0) := by
  rw [textsF_yes (by kernel_rfl), textsL_comp]
  show (if ((textsC kd [98, 97] 2).length : Int) ≤ 10 then (textsC kd [98, 97] 2, (0 : Int)) else ([], 6)) = _
  rw [k_t1]
  rfl
theorem k_txs2 : textsF kc [97, 97] 2 10 = ([], 1) := textsF_no (by kernel_rfl)
theorem k_txs3 : textsF kc [97] 9 10 = ([], 1) := textsF_no (by kernel_rfl)
theorem k_txs4 : textsF (starC (chC [97])) [97] 3 3 = ([], 6) := by
  rw [textsF_yes (by kernel_rfl), textsL_comp]
  show (if ((textsC (starC (chC [97])) [97] 3).length : Int) ≤ 3 then (textsC (starC (chC [97])) [97] 3, (0 : Int)) else ([], 6)) = _
  rw [k_t4]
  rfl
theorem k_join : joinF tk tk.length = ⟨#[59, 98, 59, 97, 59, 98, 98, 59, 97, 98, 59]⟩ := by kernel_rfl
theorem k_short {q : Nat} {u : List UInt8} (hu : tk[q]? = some u) : ¬ 9223372036854775807 < (joinF tk q).size + u.length ∧ ¬ 9223372036854775807 < (joinF tk q).size + u.length + 1 := by
  have h : ((List.range tk.length).all fun q => decide ((joinF tk q).size + (tk.getD q []).length + 1 ≤ 100)) = true := by kernel_rfl
  have hq := (List.getElem?_eq_some_iff.1 hu).1
  have h2 := List.all_eq_true.1 h q (by simpa using hq)
  rw [List.getD_eq_getElem?_getD, hu] at h2
  simp only [Option.getD_some, decide_eq_true_eq] at h2
  omega
end Go.Proofs.Ytjodmimnbpgfcaa

/- Known -/
namespace Go.Proofs.Ytjodmimnbpgfcaa
open Go.RowKit Go.IntWalk

theorem vals_at {g : G} {a : Option Addr} {n c : Nat} {l : List Val} (h : ValsV g a n c l) {v : Val} (hv : l[0]? = some v) : ∃ b off r, a = some ⟨b, off, none⟩ ∧ VCells g b off r ∧ ValV g r v := by
  unfold ValsV at h
  cases h with
  | nil => simp at hv
  | row _ _ blk off _ _ f hpos hcap hm hc hr =>
    have h0 := hc 0 hpos
    simp only [Nat.zero_mul, Nat.add_zero] at h0
    rw [List.getElem?_eq_getElem hpos] at hv
    cases hv
    exact ⟨blk, off, f 0, rfl, h0, hr 0 hpos⟩

theorem k_good : wfC kc = true ∧ nodes kc ≤ 100000 := by
  refine ⟨by kernel_rfl, ?_⟩
  simp [kc, starC, chC, nodes, nodesL]
theorem k_good1 : wfC (chC [97]) = true ∧ nodes (chC [97]) ≤ 100000 := by
  refine ⟨by kernel_rfl, ?_⟩
  simp [chC, nodes, nodesL]
theorem k_bad9 : GoodF (.mk 9 set0 0 []) = false := by kernel_rfl

set_option maxRecDepth 100000 in
set_option maxHeartbeats 8000000 in
theorem everyKnown_any {g : G} (w : World) (hw : Fut g w) : Calls Try.prog 4 #[] w fun e w' => e = .returned (.bool true) ∧ Grow g w g w' := by
  have haw := awake_any w hw
  have HAW := hid haw
  clear haw
  go_enter Try.func4, Try.ntmps4
  go_wp2_with (first | (go_at_call 6; refine HAW.out.mono ?_) | fail)
  rintro e w1 ⟨rfl, hg1⟩
  obtain ⟨g2, hg2, hs2⟩ := sl_bytes' hg1.fut [97] (by simp)
  have hc2 := ch_any hs2 _ hg2.fut
  simp only [List.map_cons, List.map_nil, byteV] at hg2 hc2
  have HC2 := hid hc2
  have HG2 := hid (hg1.trans hg2)
  clear hc2 hg1 hg2 hs2 HAW
  go_wp2_with (first | (go_at_call 13; refine HC2.out.mono ?_) | fail)
  rintro e w3 ⟨r3, rfl, hg3, hv3⟩
  have hc4 := starC_any hv3 w3 hg3.fut
  have HC4 := hid hc4
  have HG3 := hid (HG2.out.trans hg3)
  clear hc4 hg3 hv3 HC2 HG2
  go_wp2_with (first | (go_at_call 12; refine HC4.out.mono ?_) | fail)
  rintro e w5 ⟨g5, x5, rfl, hg5, hv5⟩
  have hc6 := starC_any hv5 w5 hg5.fut
  have HC6 := hid hc6
  have HG5 := hid (HG3.out.trans hg5)
  clear hc6 hg5 hv5 HC4 HG3
  go_wp2_with (first | (go_at_call 12; refine HC6.out.mono ?_) | fail)
  rintro e w6 ⟨g6, x6, rfl, hg6, hv6⟩
  obtain ⟨g7, hg7, c0, c1, c2, c3, c4, c5, c6⟩ := box_core hg6.fut x6
  have HV7 := hid (hv6.le hg7.le)
  have hf7 := hg7.fut
  have HG7 := hid ((HG5.out.trans hg6).trans hg7)
  clear hg6 hg7 hv6 HC6 HG5
  unfold CRow.val
  obtain ⟨g8, hg8, hs8⟩ := sl_marked hf7 [97, 97, 97] (by simp)
  have kc8 := conv_const (w6.alloc (.cells #[.int .i64 x6.k, .int .u64 x6.s.a, .int .u64 x6.s.b, .int .u64 x6.s.c, .int .u64 x6.s.d, .int .i64 x6.n, .slice x6.a x6.len x6.cap] 27)) #[.int .u8 97, .int .u8 97, .int .u8 97] 3 3
  have hall8 := all_any (s := [97, 97, 97]) (c := kc) (HV7.out.le hg8.le) hs8 (fun _ => k_good) 10 _ hg8.fut
  rw [k_all1.1, k_all1.2] at hall8
  unfold CRow.val at hall8
  simp only [List.map_cons, List.map_nil, byteV, List.length_cons, List.length_nil, Nat.zero_add, Nat.reduceAdd, World.size_alloc] at hg8 hall8 kc8
  have HALL8 := hid hall8
  have HG8 := hid (HG7.out.trans hg8)
  have HL8 := hid hg8.le
  clear hall8 hg8 hs8 HG7
  go_wp2_with (first | (go_at_call 14; refine HALL8.out.mono ?_) | fail)
  rintro e w9 ⟨g9, la, lc, rfl, hg9, hv9⟩
  obtain ⟨v, hv0, htx, hvw⟩ := k_v
  obtain ⟨lb, loff, lr, rfl, ⟨l0, l1, l2⟩, hlr⟩ := vals_at hv9 hv0
  have HL9 := hid (HL8.out.trans hg9.le)
  have hf9 : Fut g7 w9 := hg9.fut.le HL9.out
  have HG9 := hid (HG8.out.trans hg9)
  have ht1 := fun g' (hl : g9.Le g') w' hf => Text_any (hlr.le hl) hvw (by rw [htx]; simp) w' hf
  rw [htx] at ht1
  unfold VRow.val at ht1
  have HT1 := hid ht1
  clear hv0 htx hvw ht1 hlr hv9 hg9 HALL8 HG8 HL8
  simp only
  obtain ⟨g10, hg10, hs10⟩ := sl_marked HG9.out.fut [97, 97, 97] (by simp)
  have kc10 := conv_const w9 #[.int .u8 97, .int .u8 97, .int .u8 97] 3 3
  have hall10 := all_any (s := [97, 97, 97]) (c := kc) (HV7.out.le (HL9.out.trans hg10.le)) hs10 (fun _ => k_good) 3 _ hg10.fut
  rw [k_all2] at hall10
  unfold CRow.val at hall10
  simp only [List.map_cons, List.map_nil, byteV, List.length_cons, List.length_nil, Nat.zero_add, Nat.reduceAdd] at hg10 hall10
  have HALL10 := hid hall10
  have HG10 := hid (HG9.out.trans hg10)
  have HL10 := hid (HL9.out.trans hg10.le)
  have HK10 := hid hg10.le
  clear hall10 hg10 hs10 HG9 HL9 kc8
  go_wp2_with (first | (go_at_call 14; refine HALL10.out.mono ?_) | fail)
  rintro e w11 ⟨g11, ma, mc, rfl, hg11, -⟩
  have HL11 := hid (HL10.out.trans hg11.le)
  have HK11 := hid (HK10.out.trans hg11.le)
  have HG11 := hid (HG10.out.trans hg11)
  clear hg11 HALL10 HG10 HL10 HK10 kc10 hf9
  simp only
  obtain ⟨g12, hg12, hs12⟩ := sl_bytes' HG11.out.fut [97] (by simp)
  have hc12 := ch_any hs12 _ hg12.fut
  simp only [List.map_cons, List.map_nil, byteV] at hg12 hc12
  have HC12 := hid hc12
  have HG12 := hid (HG11.out.trans hg12)
  have HL12 := hid (HL11.out.trans hg12.le)
  have HK12 := hid (HK11.out.trans hg12.le)
  clear hc12 hg12 hs12 HG11 HL11 HK11
  go_wp2_with (first | (go_at_call 13; refine HC12.out.mono ?_) | fail)
  rintro e w13 ⟨r13, rfl, hg13, hv13⟩
  obtain ⟨g14, hg14, hs14⟩ := sl_marked hg13.fut [98] (by simp)
  have kc14 := conv_const w13 #[.int .u8 98] 1 1
  have hall14 := all_any (s := [98]) (c := chC [97]) (hv13.le hg14.le) hs14 (fun _ => k_good1) 10 _ hg14.fut
  rw [k_all3] at hall14
  simp only [List.map_cons, List.map_nil, byteV, List.length_cons, List.length_nil, Nat.zero_add, Nat.reduceAdd] at hg14 hall14
  have HALL14 := hid hall14
  have HG14 := hid ((HG12.out.trans hg13).trans hg14)
  have HL14 := hid (HL12.out.trans hg14.le)
  have HK14 := hid (HK12.out.trans hg14.le)
  clear hall14 hg14 hs14 HG12 HL12 HK12 hg13 hv13 HC12
  go_wp2_with (first | (go_at_call 14; refine HALL14.out.mono ?_) | fail)
  rintro e w15 ⟨g15, na, nc, rfl, hg15, -⟩
  have HL15 := hid (HL14.out.trans hg15.le)
  have HK15 := hid (HK14.out.trans hg15.le)
  have HG15 := hid (HG14.out.trans hg15)
  have hf15 : Fut g7 w15 := hg15.fut.le HL15.out
  have hall15 := all_any (s := []) (c := kc) (HV7.out.le HL15.out) .nil (fun _ => k_good) 2001 _ hg15.fut
  rw [k_all4] at hall15
  unfold CRow.val at hall15
  simp only [List.length_nil] at hall15
  have HALL15 := hid hall15
  clear hall15 hg15 HALL14 HG14 HL14 HK14 kc14
  simp only
  go_wp2_with (first | (go_at_call 14; refine HALL15.out.mono ?_) | fail)
  rintro e w16 ⟨g16, oa, oc, rfl, hg16, -⟩
  have HL16 := hid (HL15.out.trans hg16.le)
  have HK16 := hid (HK15.out.trans hg16.le)
  have HG16 := hid (HG15.out.trans hg16)
  have hall16 := all_any (g := g16) (s := []) (r := ⟨9, set0, 0, none, 0, 0⟩) (c := .mk 9 set0 0 []) (.nil 9 set0 0 (by unfold i64; omega) ⟨by decide, by decide, by decide, by decide⟩ (by unfold i64; omega) none 0) .nil (fun h => by rw [k_bad9] at h; cases h) 1 _ hg16.fut
  rw [k_all5] at hall16
  unfold CRow.val at hall16
  simp only [List.length_nil] at hall16
  have HALL16 := hid hall16
  clear hall16 hg16 HALL15 HG15 HL15 HK15 hf15
  simp only
  go_wp2_with (first | (go_at_call 14; refine HALL16.out.mono ?_) | fail)
  rintro e w17 ⟨g17, pa, pc, rfl, hg17, -⟩
  have HL17 := hid (HL16.out.trans hg17.le)
  have HK17 := hid (HK16.out.trans hg17.le)
  have HG17 := hid (HG16.out.trans hg17)
  clear hg17 HALL16 HG16 HL16 HK16
  simp only
  obtain ⟨g18, hg18, hs18⟩ := sl_bytes' HG17.out.fut [97] (by simp)
  have hc18 := ch_any hs18 _ hg18.fut
  simp only [List.map_cons, List.map_nil, byteV] at hg18 hc18
  have HC18 := hid hc18
  have HG18 := hid (HG17.out.trans hg18)
  have HL18 := hid (HL17.out.trans hg18.le)
  have HK18 := hid (HK17.out.trans hg18.le)
  clear hc18 hg18 hs18 HG17 HL17 HK17
  go_wp2_with (first | (go_at_call 13; refine HC18.out.mono ?_) | fail)
  rintro e w19 ⟨r19, rfl, hg19, hv19⟩
  have hc19 := eps_any w19 hg19.fut
  have HC19 := hid hc19
  have HG19 := hid (HG18.out.trans hg19)
  have HV19 := hid hv19
  clear hc19 hg19 hv19 HC18 HG18
  go_wp2_with (first | (go_at_call 17; refine HC19.out.mono ?_) | fail)
  rintro e w20 ⟨r20, rfl, hg20, hv20⟩
  have hc20 := alt_any HV19.out hv20 w20 hg20.fut
  have HC20 := hid hc20
  have HG20 := hid (HG19.out.trans hg20)
  clear hc20 hg20 hv20 HC19 HG19 HV19
  go_wp2_with (first | (go_at_call 16; refine HC20.out.mono ?_) | fail)
  rintro e w21 ⟨g21, x21, rfl, hg21, hv21⟩
  have HG21 := hid (HG20.out.trans hg21)
  have HL21 := hid (HL18.out.trans hg21.le)
  have HK21 := hid (HK18.out.trans hg21.le)
  have HV21 := hid hv21
  clear hg21 hv21 HC20 HG20 HL18 HK18
  obtain ⟨g22, hg22, hs22⟩ := sl_bytes' HG21.out.fut [98] (by simp)
  have hc22 := ch_any hs22 _ hg22.fut
  simp only [List.map_cons, List.map_nil, byteV] at hg22 hc22
  have HC22 := hid hc22
  have HG22 := hid (HG21.out.trans hg22)
  have HL22 := hid (HL21.out.trans hg22.le)
  have HK22 := hid (HK21.out.trans hg22.le)
  have HV22 := hid (HV21.out.le hg22.le)
  clear hc22 hg22 hs22 HG21 HL21 HK21 HV21
  go_wp2_with (first | (go_at_call 13; refine HC22.out.mono ?_) | fail)
  rintro e w23 ⟨r23, rfl, hg23, hv23⟩
  have hc23 := starC_any hv23 w23 hg23.fut
  have HC23 := hid hc23
  have HG23 := hid (HG22.out.trans hg23)
  clear hc23 hg23 hv23 HC22 HG22
  go_wp2_with (first | (go_at_call 12; refine HC23.out.mono ?_) | fail)
  rintro e w24 ⟨g24, x24, rfl, hg24, hv24⟩
  have hc24 := seq_any (HV22.out.le hg24.le) hv24 w24 hg24.fut
  have HC24 := hid hc24
  have HG24 := hid (HG23.out.trans hg24)
  have HL24 := hid (HL22.out.trans hg24.le)
  have HK24 := hid (HK22.out.trans hg24.le)
  clear hc24 hg24 hv24 HC23 HG23 HV22 HL22 HK22
  go_wp2_with (first | (go_at_call 15; refine HC24.out.mono ?_) | fail)
  rintro e w25 ⟨g25, x25, rfl, hg25, hv25⟩
  obtain ⟨g26, hg26, hs26⟩ := sl_marked hg25.fut [98, 97] (by simp)
  have kc26 := conv_const w25 #[.int .u8 98, .int .u8 97] 2 2
  have htx26 := texts_any (S := [98, 97]) (c := kd) (hv25.le hg26.le) hs26 (by simp) (core_ok (hv25.le hg26.le)) 2 10 (by unfold i64; omega) _ hg26.fut
  rw [k_txs1] at htx26
  simp only [List.map_cons, List.map_nil, byteV, List.length_cons, List.length_nil, Nat.zero_add, Nat.reduceAdd] at hg26 htx26
  have HT26 := hid htx26
  have HG26 := hid ((HG24.out.trans hg25).trans hg26)
  have HL26 := hid ((HL24.out.trans hg25.le).trans hg26.le)
  have HK26 := hid ((HK24.out.trans hg25.le).trans hg26.le)
  clear htx26 hg26 hs26 hg25 hv25 HG24 HL24 HK24 HC24
  go_wp2_with (first | (go_at_call 10; refine HT26.out.mono ?_) | fail)
  rintro e w27 ⟨g27, ta, tc, vals, rfl, hg27, hts, htl, htr⟩
  have HL27 := hid (HL26.out.trans hg27.le)
  have HK27 := hid (HK26.out.trans hg27.le)
  have HG27 := hid (HG26.out.trans hg27)
  have hf27 : Fut g7 w27 := hg27.fut.le HL27.out
  have HTS := hid hts
  have HTL := hid htl
  have HTR := hid htr
  clear hg27 hts htl htr HT26 HG26 HL26 HK26 kc26
  simp only
  obtain ⟨g28, hg28, hs28⟩ := sl_marked HG27.out.fut [97, 97] (by simp)
  have kc28 := conv_const w27 #[.int .u8 97, .int .u8 97] 2 2
  have htx28 := texts_any (S := [97, 97]) (c := kc) (HV7.out.le (HL27.out.trans hg28.le)) hs28 (by simp) (core_ok (HV7.out.le (HL27.out.trans hg28.le))) 2 10 (by unfold i64; omega) _ hg28.fut
  rw [k_txs2] at htx28
  unfold CRow.val at htx28
  simp only [List.map_cons, List.map_nil, byteV, List.length_cons, List.length_nil, Nat.zero_add, Nat.reduceAdd] at hg28 htx28
  have HT28 := hid htx28
  have HG28 := hid (HG27.out.trans hg28)
  have HL28 := hid (HL27.out.trans hg28.le)
  have HK28 := hid (HK27.out.trans hg28.le)
  have HJ28 := hid hg28.le
  clear htx28 hg28 hs28 HG27 HL27 HK27
  go_wp2_with (first | (go_at_call 10; refine HT28.out.mono ?_) | fail)
  rintro e w29 ⟨g29, ua, uc, valsu, rfl, hg29, -⟩
  have HL29 := hid (HL28.out.trans hg29.le)
  have HK29 := hid (HK28.out.trans hg29.le)
  have HJ29 := hid (HJ28.out.trans hg29.le)
  have HG29 := hid (HG28.out.trans hg29)
  have hf29 : Fut g7 w29 := hg29.fut.le HL29.out
  clear hg29 HT28 HG28 HL28 HK28 HJ28 kc28 hf27
  simp only
  obtain ⟨g30, hg30, hs30⟩ := sl_marked HG29.out.fut [97] (by simp)
  have kc30 := conv_const w29 #[.int .u8 97] 1 1
  have htx30 := texts_any (S := [97]) (c := kc) (HV7.out.le (HL29.out.trans hg30.le)) hs30 (by simp) (core_ok (HV7.out.le (HL29.out.trans hg30.le))) 9 10 (by unfold i64; omega) _ hg30.fut
  rw [k_txs3] at htx30
  unfold CRow.val at htx30
  simp only [List.map_cons, List.map_nil, byteV, List.length_cons, List.length_nil, Nat.zero_add, Nat.reduceAdd] at hg30 htx30
  have HT30 := hid htx30
  have HG30 := hid (HG29.out.trans hg30)
  have HL30 := hid (HL29.out.trans hg30.le)
  have HK30 := hid (HK29.out.trans hg30.le)
  have HJ30 := hid (HJ29.out.trans hg30.le)
  clear htx30 hg30 hs30 HG29 HL29 HK29 HJ29
  go_wp2_with (first | (go_at_call 10; refine HT30.out.mono ?_) | fail)
  rintro e w31 ⟨g31, va, vc, valsv, rfl, hg31, -⟩
  have HL31 := hid (HL30.out.trans hg31.le)
  have HK31 := hid (HK30.out.trans hg31.le)
  have HJ31 := hid (HJ30.out.trans hg31.le)
  have HG31 := hid (HG30.out.trans hg31)
  clear hg31 HT30 HG30 HL30 HK30 HJ30 kc30 hf29
  simp only
  obtain ⟨g32, hg32, hs32⟩ := sl_bytes' HG31.out.fut [97] (by simp)
  have hc32 := ch_any hs32 _ hg32.fut
  simp only [List.map_cons, List.map_nil, byteV] at hg32 hc32
  have HC32 := hid hc32
  have HG32 := hid (HG31.out.trans hg32)
  have HL32 := hid (HL31.out.trans hg32.le)
  have HK32 := hid (HK31.out.trans hg32.le)
  have HJ32 := hid (HJ31.out.trans hg32.le)
  clear hc32 hg32 hs32 HG31 HL31 HK31 HJ31
  go_wp2_with (first | (go_at_call 13; refine HC32.out.mono ?_) | fail)
  rintro e w33 ⟨r33, rfl, hg33, hv33⟩
  have hc33 := starC_any hv33 w33 hg33.fut
  have HC33 := hid hc33
  have HG33 := hid (HG32.out.trans hg33)
  clear hc33 hg33 hv33 HC32 HG32
  go_wp2_with (first | (go_at_call 12; refine HC33.out.mono ?_) | fail)
  rintro e w34 ⟨g34, x34, rfl, hg34, hv34⟩
  obtain ⟨g35, hg35, hs35⟩ := sl_marked hg34.fut [97] (by simp)
  have kc35 := conv_const w34 #[.int .u8 97] 1 1
  have htx35 := texts_any (S := [97]) (c := starC (chC [97])) (hv34.le hg35.le) hs35 (by simp) (core_ok (hv34.le hg35.le)) 3 3 (by unfold i64; omega) _ hg35.fut
  rw [k_txs4] at htx35
  simp only [List.map_cons, List.map_nil, byteV, List.length_cons, List.length_nil, Nat.zero_add, Nat.reduceAdd] at hg35 htx35
  have HT35 := hid htx35
  have HG35 := hid ((HG33.out.trans hg34).trans hg35)
  have HL35 := hid ((HL32.out.trans hg34.le).trans hg35.le)
  have HK35 := hid ((HK32.out.trans hg34.le).trans hg35.le)
  have HJ35 := hid ((HJ32.out.trans hg34.le).trans hg35.le)
  clear htx35 hg35 hs35 hg34 hv34 HG33 HL32 HK32 HJ32 HC33
  go_wp2_with (first | (go_at_call 10; refine HT35.out.mono ?_) | fail)
  rintro e w36 ⟨g36, ya, yc, valsy, rfl, hg36, -⟩
  have HL36 := hid (HL35.out.trans hg36.le)
  have HK36 := hid (HK35.out.trans hg36.le)
  have HJ36 := hid (HJ35.out.trans hg36.le)
  have HG36 := hid (HG35.out.trans hg36)
  have hfj : Fut g27 w36 := hg36.fut.le HJ36.out
  clear hg36 HT35 HG35 HL35 HK35 HJ35 kc35
  simp only
  have htl5 : tk.length ≤ 5 := by decide
  go_wp2_with fail
  go_loopg [20, 21] tk.length (fun rem sv i wr => ∃ q, q + rem = tk.length ∧ i = .int .i64 (q : Nat) ∧ sv = .string (joinF tk q) ∧ Hid (Grow g36 w36 g36 wr))
  case atStart => exact ⟨0, by omega, rfl, rfl, Grow.refl HG36.out.fut⟩
  case round =>
    obtain ⟨q, hq, rfl, rfl, HGr⟩ := hrel
    have hfr : Fut g27 wr := HGr.out.fut.le HJ36.out
    by_cases hqt : q < tk.length
    · obtain ⟨u, hu⟩ : ∃ u, tk[q]? = some u := ⟨_, List.getElem?_eq_getElem hqt⟩
      obtain ⟨tb, toff, ua2, uc2, hta, hcu, hcvu⟩ := tx_at HTS.out HTL.out HTR.out hu
      subst hta
      have hstep : joinF tk (q + 1) = joinF tk q ++ ⟨u.toArray⟩ ++ ⟨#[59]⟩ := by
        rw [joinF, List.getD_eq_getElem?_getD, hu]
        rfl
      have hqi : (q : Int) < (tk.length : Int) := by omega
      have HSTP := hid hstep
      have HQ := hid hq
      have HQT := hid hqt
      obtain ⟨hn1, hn2⟩ := k_short hu
      clear hstep hu
      go_wp2_with fail
      go_roundg (tk.length - (q + 1))
      case measure => have h1 := HQT.out; have h2 := HQ.out; omega
      case rel => exact ⟨q + 1, by have h1 := HQT.out; omega, by go_num, by rw [HSTP.out], HGr⟩
    · obtain rfl : q = tk.length := by omega
      rw [k_join]
      have hfw : Fut g36 wr := HGr.out.fut
      have hf7r : Fut g7 wr := hfw.le HL36.out
      have hf9r : Fut g9 wr := hfw.le HK36.out
      have ht := HT1.out g36 HK36.out wr hfw
      have HT := hid ht
      clear ht HT1
      go_wp2_with (first | (go_at_call 18; refine HT.out.mono ?_) | fail)
      rintro e w40 ⟨rfl, hg40⟩
      have HG40 := hid ((HG36.out.trans HGr.out).trans hg40)
      have hf40 : Fut g7 w40 := hg40.fut.le HL36.out
      clear hg40 HT HG36 HGr hfw
      obtain ⟨g41, hg41, hs41⟩ := sl_marked HG40.out.fut [97, 97, 97] (by simp)
      have kc41 := conv_const w40 #[.int .u8 97, .int .u8 97, .int .u8 97] 3 3
      have hct41 := count_any (s := [97, 97, 97]) (c := kc) (HV7.out.le (HL36.out.trans hg41.le)) hs41 (fun _ => k_good) 10 _ hg41.fut
      rw [k_cnt1] at hct41
      unfold CRow.val at hct41
      simp only [List.map_cons, List.map_nil, byteV, List.length_cons, List.length_nil, Nat.zero_add, Nat.reduceAdd] at hg41 hct41
      have HC41 := hid hct41
      have HG41 := hid (HG40.out.trans hg41)
      have HL41 := hid (HL36.out.trans hg41.le)
      clear hct41 hg41 hs41 HG40 hf7r hf9r
      go_wp2_with (first | (go_at_call 19; refine HC41.out.mono ?_) | fail)
      rintro e w42 ⟨rfl, hg42⟩
      have HG42 := hid (HG41.out.trans hg42)
      have hf42 : Fut g7 w42 := hg42.fut.le HL41.out
      clear hg42 HC41 HG41 kc41 hf40
      obtain ⟨g43, hg43, hs43⟩ := sl_marked HG42.out.fut [97, 97, 97] (by simp)
      have kc43 := conv_const w42 #[.int .u8 97, .int .u8 97, .int .u8 97] 3 3
      have hct43 := count_any (s := [97, 97, 97]) (c := kc) (HV7.out.le (HL41.out.trans hg43.le)) hs43 (fun _ => k_good) 2 _ hg43.fut
      rw [k_cnt2] at hct43
      unfold CRow.val at hct43
      simp only [List.map_cons, List.map_nil, byteV, List.length_cons, List.length_nil, Nat.zero_add, Nat.reduceAdd] at hg43 hct43
      have HC43 := hid hct43
      have HG43 := hid (HG42.out.trans hg43)
      have HL43 := hid (HL41.out.trans hg43.le)
      clear hct43 hg43 hs43 HG42
      go_wp2_with (first | (go_at_call 19; refine HC43.out.mono ?_) | fail)
      rintro e w44 ⟨rfl, hg44⟩
      have HG44 := hid (HG43.out.trans hg44)
      have hf44 : Fut g7 w44 := hg44.fut.le HL43.out
      have hct44 := count_any (s := []) (c := kc) (HV7.out.le HL43.out) .nil (fun _ => k_good) (-1) _ hg44.fut
      rw [k_cnt3] at hct44
      unfold CRow.val at hct44
      simp only [List.length_nil] at hct44
      have HC44 := hid hct44
      clear hct44 hg44 HC43 HG43 kc43 hf42
      go_wp2_with (first | (go_at_call 19; refine HC44.out.mono ?_; rintro e w45 ⟨rfl, hg45⟩; have HG45 := hid hg45; clear hg45) | fail)
      go_ret
      exact ⟨rfl, (HG44.out.trans HG45.out).forget⟩
end Go.Proofs.Ytjodmimnbpgfcaa
