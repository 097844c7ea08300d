/- The reference's formed, walked, a way at a time (printed by mkformed.py). A library text: no claim is stated here. The reference's formed and Good. A library text: no claim is stated here. -/
import Derived.Test.YtjodmimnbpgfcaaS23

/- RefF2 -/
namespace Go.Proofs.Ytjodmimnbpgfcaa
open Go.RowKit Go.IntWalk

set_option maxRecDepth 20000 in
theorem formed_B {g : G} (k : Int) (s : Set4) (n : Int) (a : Option Addr) (cap : Nat) (m : Nat) (w : World) (hw : Fut g w) (h_d0 : 0 ≤ k) (h_d1n : 7 < k) :
    Calls Try.prog 65 #[.agg (cellsR ⟨k, s, n, a, m, cap⟩)] w fun e w' => e = .returned (.bool false) ∧ Grow g w g w' := by
  obtain ⟨g1, hg1, c0, cs, cn, cl, cv⟩ := box_ref hw ⟨k, s, n, a, m, cap⟩
  have hf1 := hg1.fut
  have e_d0 : decide (k < 0) = false := by simp; omega
  have e_d1n : decide (k > 7) = true := by simpa using h_d1n
  clear h_d0 h_d1n
  clear cs
  have CV := hid cv
  clear cv
  go_enter Try.func65, Try.ntmps65
  go_wp2_with fail
  refine wp_region_cls (g := g1) (w0 := w.alloc (.cells (cellsR ⟨k, s, n, a, m, cap⟩) 54)) (by kernel_rfl) (by kernel_rfl) (Grow.refl hf1) ?_
  have hx : ∀ x : Wg g1 (w.alloc (.cells (cellsR ⟨k, s, n, a, m, cap⟩) 54)), Fut g1 x.w := fun x => x.h.fut
  have hne : Nonempty (Wg g1 (w.alloc (.cells (cellsR ⟨k, s, n, a, m, cap⟩) 54))) := ⟨⟨_, Grow.refl hf1⟩⟩
  repeat (go_big_quiet_step (exact quiet_grow (parts_any k _ (hx _))))
  refine wpQuiet_nil ?_
  rintro wa ⟨⟨_, hga⟩, rfl⟩
  have HGA := hid (hg1.trans hga)
  have hfa := hga.fut
  clear hga hx hne
  go_wp2_with fail
  go_ret
  exact ⟨rfl, HGA.out.forget⟩

set_option maxRecDepth 20000 in
theorem formed_C {g : G} (k : Int) (s : Set4) (n : Int) (a : Option Addr) (cap : Nat) (m : Nat) (w : World) (hw : Fut g w) (h_d0 : 0 ≤ k) (h_d1 : k ≤ 7) (h_d2n : (m : Int) ≠ kidsR k) :
    Calls Try.prog 65 #[.agg (cellsR ⟨k, s, n, a, m, cap⟩)] w fun e w' => e = .returned (.bool false) ∧ Grow g w g w' := by
  obtain ⟨g1, hg1, c0, cs, cn, cl, cv⟩ := box_ref hw ⟨k, s, n, a, m, cap⟩
  have hf1 := hg1.fut
  have e_d0 : decide (k < 0) = false := by simp; omega
  have e_d1 : decide (k > 7) = false := by simp; omega
  have e_d2n : ((m : Int) != kidsR k) = true := by simpa using h_d2n
  clear h_d0 h_d1 h_d2n
  clear cs
  have CV := hid cv
  clear cv
  go_enter Try.func65, Try.ntmps65
  go_wp2_with fail
  refine wp_region_cls (g := g1) (w0 := w.alloc (.cells (cellsR ⟨k, s, n, a, m, cap⟩) 54)) (by kernel_rfl) (by kernel_rfl) (Grow.refl hf1) ?_
  have hx : ∀ x : Wg g1 (w.alloc (.cells (cellsR ⟨k, s, n, a, m, cap⟩) 54)), Fut g1 x.w := fun x => x.h.fut
  have hne : Nonempty (Wg g1 (w.alloc (.cells (cellsR ⟨k, s, n, a, m, cap⟩) 54))) := ⟨⟨_, Grow.refl hf1⟩⟩
  repeat (go_big_quiet_step (exact quiet_grow (parts_any k _ (hx _))))
  refine wpQuiet_nil ?_
  rintro wa ⟨⟨_, hga⟩, rfl⟩
  have HGA := hid (hg1.trans hga)
  have hfa := hga.fut
  clear hga hx hne
  go_wp2_with fail
  go_ret
  exact ⟨rfl, HGA.out.forget⟩

set_option maxRecDepth 20000 in
theorem formed_E1 {g : G} (k : Int) (s : Set4) (n : Int) (a : Option Addr) (cap : Nat) (m : Nat) (w : World) (hw : Fut g w) (h_d0 : 0 ≤ k) (h_d1 : k ≤ 7) (h_d2 : (m : Int) = kidsR k) (h_d3n : k = 2) (h_d5 : k ≠ 6) (h_d6 : n ≠ 0) :
    Calls Try.prog 65 #[.agg (cellsR ⟨k, s, n, a, m, cap⟩)] w fun e w' => e = .returned (.bool false) ∧ Grow g w g w' := by
  obtain ⟨g1, hg1, c0, cs, cn, cl, cv⟩ := box_ref hw ⟨k, s, n, a, m, cap⟩
  have hf1 := hg1.fut
  have e_d0 : decide (k < 0) = false := by simp; omega
  have e_d1 : decide (k > 7) = false := by simp; omega
  have e_d2 : ((m : Int) != kidsR k) = false := by simpa using h_d2
  have e_d3n : (k != 2) = false := by simpa using h_d3n
  have e_d5 : (k != 6) = true := by simpa using h_d5
  have e_d6 : (n != 0) = true := by simpa using h_d6
  clear h_d0 h_d1 h_d2 h_d3n h_d5 h_d6
  clear cs
  have CV := hid cv
  clear cv
  go_enter Try.func65, Try.ntmps65
  go_wp2_with fail
  refine wp_region_cls (g := g1) (w0 := w.alloc (.cells (cellsR ⟨k, s, n, a, m, cap⟩) 54)) (by kernel_rfl) (by kernel_rfl) (Grow.refl hf1) ?_
  have hx : ∀ x : Wg g1 (w.alloc (.cells (cellsR ⟨k, s, n, a, m, cap⟩) 54)), Fut g1 x.w := fun x => x.h.fut
  have hne : Nonempty (Wg g1 (w.alloc (.cells (cellsR ⟨k, s, n, a, m, cap⟩) 54))) := ⟨⟨_, Grow.refl hf1⟩⟩
  repeat (go_big_quiet_step (exact quiet_grow (parts_any k _ (hx _))))
  refine wpQuiet_nil ?_
  rintro wa ⟨⟨_, hga⟩, rfl⟩
  have HGA := hid (hg1.trans hga)
  have hfa := hga.fut
  clear hga hx hne
  go_wp2_with fail
  go_ret
  exact ⟨rfl, HGA.out.forget⟩

set_option maxRecDepth 20000 in
theorem formed_E2 {g : G} (k : Int) (s : Set4) (n : Int) (a : Option Addr) (cap : Nat) (m : Nat) (w : World) (hw : Fut g w) (hs : s.wf) (h_d0 : 0 ≤ k) (h_d1 : k ≤ 7) (h_d2 : (m : Int) = kidsR k) (h_d3 : k ≠ 2) (h_d4 : s = set0) (h_d5 : k ≠ 6) (h_d6 : n ≠ 0) :
    Calls Try.prog 65 #[.agg (cellsR ⟨k, s, n, a, m, cap⟩)] w fun e w' => e = .returned (.bool false) ∧ Grow g w g w' := by
  obtain ⟨g1, hg1, c0, cs, cn, cl, cv⟩ := box_ref hw ⟨k, s, n, a, m, cap⟩
  have hf1 := hg1.fut
  have e_d0 : decide (k < 0) = false := by simp; omega
  have e_d1 : decide (k > 7) = false := by simp; omega
  have e_d2 : ((m : Int) != kidsR k) = false := by simpa using h_d2
  have e_d3 : (k != 2) = true := by simpa using h_d3
  have e_d4 : decide (s = set0) = true := by simpa using h_d4
  have e_d5 : (k != 6) = true := by simpa using h_d5
  have e_d6 : (n != 0) = true := by simpa using h_d6
  clear h_d0 h_d1 h_d2 h_d3 h_d4 h_d5 h_d6
  clear cs
  have CV := hid cv
  clear cv
  go_enter Try.func65, Try.ntmps65
  go_wp2_with fail
  refine wp_region_cls (g := g1) (w0 := w.alloc (.cells (cellsR ⟨k, s, n, a, m, cap⟩) 54)) (by kernel_rfl) (by kernel_rfl) (Grow.refl hf1) ?_
  have hx : ∀ x : Wg g1 (w.alloc (.cells (cellsR ⟨k, s, n, a, m, cap⟩) 54)), Fut g1 x.w := fun x => x.h.fut
  have hne : Nonempty (Wg g1 (w.alloc (.cells (cellsR ⟨k, s, n, a, m, cap⟩) 54))) := ⟨⟨_, Grow.refl hf1⟩⟩
  iterate 23 (go_big_quiet_step (exact quiet_grow (parts_any k _ (hx _))))
  refine wpQuiet_val (v := .agg (boolsS s).toArray) (fun w' hw' => ?_) (by rfl) ?_
  · obtain ⟨x, rfl⟩ := hw'
    exact exec_load51 rfl rfl (CV.out _ (hx x))
  simp only [Act.put, List.setIfInBounds_toArray, List.set_cons_succ, List.set_cons_zero]
  refine wpQuiet_val (v := .agg (boolsS set0).toArray) (fun w' hw' => ?_) (by rfl) ?_
  · exact exec_build51 rfl
  simp only [Act.put, List.setIfInBounds_toArray, List.set_cons_succ, List.set_cons_zero]
  refine wpQuiet_val (v := .bool false) (fun w' hw' => ?_) (by rfl) ?_
  · exact exec_neq51f hs e_d4 rfl rfl rfl
  simp only [Act.put, List.setIfInBounds_toArray, List.set_cons_succ, List.set_cons_zero]
  repeat (go_big_quiet_step (fail))
  refine wpQuiet_nil ?_
  rintro wa ⟨⟨_, hga⟩, rfl⟩
  have HGA := hid (hg1.trans hga)
  have hfa := hga.fut
  clear hga hx hne
  go_wp2_with fail
  go_ret
  exact ⟨rfl, HGA.out.forget⟩

set_option maxRecDepth 20000 in
theorem formed_F {g : G} (k : Int) (s : Set4) (n : Int) (a : Option Addr) (cap : Nat) (m : Nat) (w : World) (hw : Fut g w) (hs : s.wf) (h_d0 : 0 ≤ k) (h_d1 : k ≤ 7) (h_d2 : (m : Int) = kidsR k) (h_d3 : k ≠ 2) (h_d4 : s = set0) (h_d5n : k = 6) (h_d7 : k = 6) (h_d8 : n < 1) :
    Calls Try.prog 65 #[.agg (cellsR ⟨k, s, n, a, m, cap⟩)] w fun e w' => e = .returned (.bool false) ∧ Grow g w g w' := by
  obtain ⟨g1, hg1, c0, cs, cn, cl, cv⟩ := box_ref hw ⟨k, s, n, a, m, cap⟩
  have hf1 := hg1.fut
  have e_d0 : decide (k < 0) = false := by simp; omega
  have e_d1 : decide (k > 7) = false := by simp; omega
  have e_d2 : ((m : Int) != kidsR k) = false := by simpa using h_d2
  have e_d3 : (k != 2) = true := by simpa using h_d3
  have e_d4 : decide (s = set0) = true := by simpa using h_d4
  have e_d5n : (k != 6) = false := by simpa using h_d5n
  have e_d7 : (k == 6) = true := by simpa using h_d7
  have e_d8 : decide (n < 1) = true := by simpa using h_d8
  clear h_d0 h_d1 h_d2 h_d3 h_d4 h_d5n h_d7 h_d8
  clear cs
  have CV := hid cv
  clear cv
  go_enter Try.func65, Try.ntmps65
  go_wp2_with fail
  refine wp_region_cls (g := g1) (w0 := w.alloc (.cells (cellsR ⟨k, s, n, a, m, cap⟩) 54)) (by kernel_rfl) (by kernel_rfl) (Grow.refl hf1) ?_
  have hx : ∀ x : Wg g1 (w.alloc (.cells (cellsR ⟨k, s, n, a, m, cap⟩) 54)), Fut g1 x.w := fun x => x.h.fut
  have hne : Nonempty (Wg g1 (w.alloc (.cells (cellsR ⟨k, s, n, a, m, cap⟩) 54))) := ⟨⟨_, Grow.refl hf1⟩⟩
  iterate 23 (go_big_quiet_step (exact quiet_grow (parts_any k _ (hx _))))
  refine wpQuiet_val (v := .agg (boolsS s).toArray) (fun w' hw' => ?_) (by rfl) ?_
  · obtain ⟨x, rfl⟩ := hw'
    exact exec_load51 rfl rfl (CV.out _ (hx x))
  simp only [Act.put, List.setIfInBounds_toArray, List.set_cons_succ, List.set_cons_zero]
  refine wpQuiet_val (v := .agg (boolsS set0).toArray) (fun w' hw' => ?_) (by rfl) ?_
  · exact exec_build51 rfl
  simp only [Act.put, List.setIfInBounds_toArray, List.set_cons_succ, List.set_cons_zero]
  refine wpQuiet_val (v := .bool false) (fun w' hw' => ?_) (by rfl) ?_
  · exact exec_neq51f hs e_d4 rfl rfl rfl
  simp only [Act.put, List.setIfInBounds_toArray, List.set_cons_succ, List.set_cons_zero]
  repeat (go_big_quiet_step (fail))
  refine wpQuiet_nil ?_
  rintro wa ⟨⟨_, hga⟩, rfl⟩
  have HGA := hid (hg1.trans hga)
  have hfa := hga.fut
  clear hga hx hne
  go_wp2_with fail
  go_ret
  exact ⟨rfl, HGA.out.forget⟩

set_option maxRecDepth 20000 in
theorem formed_G {g : G} (k : Int) (s : Set4) (n : Int) (a : Option Addr) (cap : Nat) (m : Nat) (w : World) (hw : Fut g w) (hs : s.wf) (h_d0 : 0 ≤ k) (h_d1 : k ≤ 7) (h_d2 : (m : Int) = kidsR k) (h_d3 : k ≠ 2) (h_d4 : s = set0) (h_d5n : k = 6) (h_d7 : k = 6) (h_d8n : 1 ≤ n) (h_d9 : 32 < n) :
    Calls Try.prog 65 #[.agg (cellsR ⟨k, s, n, a, m, cap⟩)] w fun e w' => e = .returned (.bool false) ∧ Grow g w g w' := by
  obtain ⟨g1, hg1, c0, cs, cn, cl, cv⟩ := box_ref hw ⟨k, s, n, a, m, cap⟩
  have hf1 := hg1.fut
  have e_d0 : decide (k < 0) = false := by simp; omega
  have e_d1 : decide (k > 7) = false := by simp; omega
  have e_d2 : ((m : Int) != kidsR k) = false := by simpa using h_d2
  have e_d3 : (k != 2) = true := by simpa using h_d3
  have e_d4 : decide (s = set0) = true := by simpa using h_d4
  have e_d5n : (k != 6) = false := by simpa using h_d5n
  have e_d7 : (k == 6) = true := by simpa using h_d7
  have e_d8n : decide (n < 1) = false := by simp; omega
  have e_d9 : decide (n > 32) = true := by simpa using h_d9
  clear h_d0 h_d1 h_d2 h_d3 h_d4 h_d5n h_d7 h_d8n h_d9
  clear cs
  have CV := hid cv
  clear cv
  go_enter Try.func65, Try.ntmps65
  go_wp2_with fail
  refine wp_region_cls (g := g1) (w0 := w.alloc (.cells (cellsR ⟨k, s, n, a, m, cap⟩) 54)) (by kernel_rfl) (by kernel_rfl) (Grow.refl hf1) ?_
  have hx : ∀ x : Wg g1 (w.alloc (.cells (cellsR ⟨k, s, n, a, m, cap⟩) 54)), Fut g1 x.w := fun x => x.h.fut
  have hne : Nonempty (Wg g1 (w.alloc (.cells (cellsR ⟨k, s, n, a, m, cap⟩) 54))) := ⟨⟨_, Grow.refl hf1⟩⟩
  iterate 23 (go_big_quiet_step (exact quiet_grow (parts_any k _ (hx _))))
  refine wpQuiet_val (v := .agg (boolsS s).toArray) (fun w' hw' => ?_) (by rfl) ?_
  · obtain ⟨x, rfl⟩ := hw'
    exact exec_load51 rfl rfl (CV.out _ (hx x))
  simp only [Act.put, List.setIfInBounds_toArray, List.set_cons_succ, List.set_cons_zero]
  refine wpQuiet_val (v := .agg (boolsS set0).toArray) (fun w' hw' => ?_) (by rfl) ?_
  · exact exec_build51 rfl
  simp only [Act.put, List.setIfInBounds_toArray, List.set_cons_succ, List.set_cons_zero]
  refine wpQuiet_val (v := .bool false) (fun w' hw' => ?_) (by rfl) ?_
  · exact exec_neq51f hs e_d4 rfl rfl rfl
  simp only [Act.put, List.setIfInBounds_toArray, List.set_cons_succ, List.set_cons_zero]
  repeat (go_big_quiet_step (fail))
  refine wpQuiet_nil ?_
  rintro wa ⟨⟨_, hga⟩, rfl⟩
  have HGA := hid (hg1.trans hga)
  have hfa := hga.fut
  clear hga hx hne
  go_wp2_with fail
  go_ret
  exact ⟨rfl, HGA.out.forget⟩

set_option maxRecDepth 20000 in
theorem formed_H {g : G} (k : Int) (s : Set4) (n : Int) (a : Option Addr) (cap : Nat) (l : List Core) (hcap : l.length ≤ cap) (hm : cap ≤ 9223372036854775807)
    (HR : ∀ q (hq : q < l.length), ∃ b off r, a = some ⟨b, off, none⟩ ∧ (∀ w, Fut g w → w.rangeAt b (off + q * 259) (cellsR r).toList) ∧ (∀ g', g.Le g' → ∀ w, Fut g' w → Calls Try.prog 65 #[.agg (cellsR r)] w fun e w' => e = .returned (.bool (formedF l[q])) ∧ Grow g' w g' w'))
    (w : World) (hw : Fut g w) (hs : s.wf) (h_d0 : 0 ≤ k) (h_d1 : k ≤ 7) (h_d2 : (l.length : Int) = kidsR k) (h_d3 : k ≠ 2) (h_d4 : s = set0) (h_d5n : k = 6) (h_d7 : k = 6) (h_d8n : 1 ≤ n) (h_d9n : n ≤ 32) :
    Calls Try.prog 65 #[.agg (cellsR ⟨k, s, n, a, l.length, cap⟩)] w fun e w' => e = .returned (.bool (formedL l)) ∧ Grow g w g w' := by
  obtain ⟨g1, hg1, c0, cs, cn, cl, cv⟩ := box_ref hw ⟨k, s, n, a, l.length, cap⟩
  have hf1 := hg1.fut
  have HRH := hid HR
  have hle1 := hid hg1.le
  clear HR
  have e_d0 : decide (k < 0) = false := by simp; omega
  have e_d1 : decide (k > 7) = false := by simp; omega
  have e_d2 : ((l.length : Int) != kidsR k) = false := by simpa using h_d2
  have e_d3 : (k != 2) = true := by simpa using h_d3
  have e_d4 : decide (s = set0) = true := by simpa using h_d4
  have e_d5n : (k != 6) = false := by simpa using h_d5n
  have e_d7 : (k == 6) = true := by simpa using h_d7
  have e_d8n : decide (n < 1) = false := by simp; omega
  have e_d9n : decide (n > 32) = false := by simp; omega
  clear h_d0 h_d1 h_d2 h_d3 h_d4 h_d5n h_d7 h_d8n h_d9n
  clear cs
  have CV := hid cv
  clear cv
  go_enter Try.func65, Try.ntmps65
  go_wp2_with fail
  refine wp_region_cls (g := g1) (w0 := w.alloc (.cells (cellsR ⟨k, s, n, a, l.length, cap⟩) 54)) (by kernel_rfl) (by kernel_rfl) (Grow.refl hf1) ?_
  have hx : ∀ x : Wg g1 (w.alloc (.cells (cellsR ⟨k, s, n, a, l.length, cap⟩) 54)), Fut g1 x.w := fun x => x.h.fut
  have hne : Nonempty (Wg g1 (w.alloc (.cells (cellsR ⟨k, s, n, a, l.length, cap⟩) 54))) := ⟨⟨_, Grow.refl hf1⟩⟩
  iterate 23 (go_big_quiet_step (exact quiet_grow (parts_any k _ (hx _))))
  refine wpQuiet_val (v := .agg (boolsS s).toArray) (fun w' hw' => ?_) (by rfl) ?_
  · obtain ⟨x, rfl⟩ := hw'
    exact exec_load51 rfl rfl (CV.out _ (hx x))
  simp only [Act.put, List.setIfInBounds_toArray, List.set_cons_succ, List.set_cons_zero]
  refine wpQuiet_val (v := .agg (boolsS set0).toArray) (fun w' hw' => ?_) (by rfl) ?_
  · exact exec_build51 rfl
  simp only [Act.put, List.setIfInBounds_toArray, List.set_cons_succ, List.set_cons_zero]
  refine wpQuiet_val (v := .bool false) (fun w' hw' => ?_) (by rfl) ?_
  · exact exec_neq51f hs e_d4 rfl rfl rfl
  simp only [Act.put, List.setIfInBounds_toArray, List.set_cons_succ, List.set_cons_zero]
  repeat (go_big_quiet_step (fail))
  refine wpQuiet_nil ?_
  rintro wa ⟨⟨_, hga⟩, rfl⟩
  have HGA := hid (hg1.trans hga)
  have hfa := hga.fut
  clear hga hx hne
  go_wp2_with fail
  go_loopw [3] (fun i wr => ∃ q : Nat, q ≤ l.length ∧ i = .int .i64 q ∧ Grow g w g1 wr ∧ Hid (formedL (l.drop q) = formedL l)) (fun i _ => l.length - (intOf i).toNat)
  case atStart => exact ⟨0, Nat.zero_le _, rfl, HGA.out, rfl⟩
  case round =>
    obtain ⟨q, hq, rfl, hg, H3⟩ := hrel
    have HG := hid hg
    have hfr := hg.fut
    clear hg
    by_cases hlt : q < l.length
    · obtain ⟨b, off, r, rfl, hld, ih⟩ := HRH.out q hlt
      have hldr := hid (hld wr (hfr.le hle1.out))
      have IH := ih g1 hle1.out wr hfr
      have hstep : formedL (l.drop q) = (formedF l[q] && formedL (l.drop (q + 1))) := by
        rw [List.drop_eq_getElem_cons hlt, formedL]
      rw [hstep] at H3
      clear hld ih hstep
      cases hfo : formedF l[q] with
      | false =>
        rw [hfo] at IH H3
        have IHH := hid IH
        clear hfo IH
        go_wp2_with (first | (refine wpList_load54 rfl _ rfl rfl hldr.out ?_) | (go_at_call 65; refine IHH.out.mono ?_; rintro e w2 ⟨rfl, hg2⟩; have HG2 := hid (HG.out.trans hg2); clear hg2) | fail)
        go_ret
        exact ⟨by rw [← H3.out]; rfl, HG2.out.forget⟩
      | true =>
        rw [hfo] at IH H3
        have IHH := hid IH
        clear hfo IH
        go_wp2_with (first | (refine wpList_load54 rfl _ rfl rfl hldr.out ?_) | (go_at_call 65; refine IHH.out.mono ?_; rintro e w2 ⟨rfl, hg2⟩; have HG2 := hid (HG.out.trans hg2); clear hg2) | fail)
        go_roundw
        case rel => exact ⟨q + 1, by omega, by go_num, HG2.out, by rw [← H3.out]; rfl⟩
        case measure => simp [intOf]; omega
    · obtain rfl : q = l.length := by omega
      go_wp2_with fail
      go_ret
      refine ⟨?_, HG.out.forget⟩
      rw [← H3.out, List.drop_length]
      rfl

set_option maxRecDepth 20000 in
theorem formed_I {g : G} (k : Int) (s : Set4) (n : Int) (a : Option Addr) (cap : Nat) (l : List Core) (hcap : l.length ≤ cap) (hm : cap ≤ 9223372036854775807)
    (HR : ∀ q (hq : q < l.length), ∃ b off r, a = some ⟨b, off, none⟩ ∧ (∀ w, Fut g w → w.rangeAt b (off + q * 259) (cellsR r).toList) ∧ (∀ g', g.Le g' → ∀ w, Fut g' w → Calls Try.prog 65 #[.agg (cellsR r)] w fun e w' => e = .returned (.bool (formedF l[q])) ∧ Grow g' w g' w'))
    (w : World) (hw : Fut g w) (hs : s.wf) (h_d0 : 0 ≤ k) (h_d1 : k ≤ 7) (h_d2 : (l.length : Int) = kidsR k) (h_d3 : k ≠ 2) (h_d4 : s = set0) (h_d5 : k ≠ 6) (h_d6n : n = 0) (h_d7n : k ≠ 6) :
    Calls Try.prog 65 #[.agg (cellsR ⟨k, s, n, a, l.length, cap⟩)] w fun e w' => e = .returned (.bool (formedL l)) ∧ Grow g w g w' := by
  obtain ⟨g1, hg1, c0, cs, cn, cl, cv⟩ := box_ref hw ⟨k, s, n, a, l.length, cap⟩
  have hf1 := hg1.fut
  have HRH := hid HR
  have hle1 := hid hg1.le
  clear HR
  have e_d0 : decide (k < 0) = false := by simp; omega
  have e_d1 : decide (k > 7) = false := by simp; omega
  have e_d2 : ((l.length : Int) != kidsR k) = false := by simpa using h_d2
  have e_d3 : (k != 2) = true := by simpa using h_d3
  have e_d4 : decide (s = set0) = true := by simpa using h_d4
  have e_d5 : (k != 6) = true := by simpa using h_d5
  have e_d6n : (n != 0) = false := by simpa using h_d6n
  have e_d7n : (k == 6) = false := by simpa using h_d7n
  clear h_d0 h_d1 h_d2 h_d3 h_d4 h_d5 h_d6n h_d7n
  clear cs
  have CV := hid cv
  clear cv
  go_enter Try.func65, Try.ntmps65
  go_wp2_with fail
  refine wp_region_cls (g := g1) (w0 := w.alloc (.cells (cellsR ⟨k, s, n, a, l.length, cap⟩) 54)) (by kernel_rfl) (by kernel_rfl) (Grow.refl hf1) ?_
  have hx : ∀ x : Wg g1 (w.alloc (.cells (cellsR ⟨k, s, n, a, l.length, cap⟩) 54)), Fut g1 x.w := fun x => x.h.fut
  have hne : Nonempty (Wg g1 (w.alloc (.cells (cellsR ⟨k, s, n, a, l.length, cap⟩) 54))) := ⟨⟨_, Grow.refl hf1⟩⟩
  iterate 23 (go_big_quiet_step (exact quiet_grow (parts_any k _ (hx _))))
  refine wpQuiet_val (v := .agg (boolsS s).toArray) (fun w' hw' => ?_) (by rfl) ?_
  · obtain ⟨x, rfl⟩ := hw'
    exact exec_load51 rfl rfl (CV.out _ (hx x))
  simp only [Act.put, List.setIfInBounds_toArray, List.set_cons_succ, List.set_cons_zero]
  refine wpQuiet_val (v := .agg (boolsS set0).toArray) (fun w' hw' => ?_) (by rfl) ?_
  · exact exec_build51 rfl
  simp only [Act.put, List.setIfInBounds_toArray, List.set_cons_succ, List.set_cons_zero]
  refine wpQuiet_val (v := .bool false) (fun w' hw' => ?_) (by rfl) ?_
  · exact exec_neq51f hs e_d4 rfl rfl rfl
  simp only [Act.put, List.setIfInBounds_toArray, List.set_cons_succ, List.set_cons_zero]
  repeat (go_big_quiet_step (fail))
  refine wpQuiet_nil ?_
  rintro wa ⟨⟨_, hga⟩, rfl⟩
  have HGA := hid (hg1.trans hga)
  have hfa := hga.fut
  clear hga hx hne
  go_wp2_with fail
  go_loopw [3] (fun i wr => ∃ q : Nat, q ≤ l.length ∧ i = .int .i64 q ∧ Grow g w g1 wr ∧ Hid (formedL (l.drop q) = formedL l)) (fun i _ => l.length - (intOf i).toNat)
  case atStart => exact ⟨0, Nat.zero_le _, rfl, HGA.out, rfl⟩
  case round =>
    obtain ⟨q, hq, rfl, hg, H3⟩ := hrel
    have HG := hid hg
    have hfr := hg.fut
    clear hg
    by_cases hlt : q < l.length
    · obtain ⟨b, off, r, rfl, hld, ih⟩ := HRH.out q hlt
      have hldr := hid (hld wr (hfr.le hle1.out))
      have IH := ih g1 hle1.out wr hfr
      have hstep : formedL (l.drop q) = (formedF l[q] && formedL (l.drop (q + 1))) := by
        rw [List.drop_eq_getElem_cons hlt, formedL]
      rw [hstep] at H3
      clear hld ih hstep
      cases hfo : formedF l[q] with
      | false =>
        rw [hfo] at IH H3
        have IHH := hid IH
        clear hfo IH
        go_wp2_with (first | (refine wpList_load54 rfl _ rfl rfl hldr.out ?_) | (go_at_call 65; refine IHH.out.mono ?_; rintro e w2 ⟨rfl, hg2⟩; have HG2 := hid (HG.out.trans hg2); clear hg2) | fail)
        go_ret
        exact ⟨by rw [← H3.out]; rfl, HG2.out.forget⟩
      | true =>
        rw [hfo] at IH H3
        have IHH := hid IH
        clear hfo IH
        go_wp2_with (first | (refine wpList_load54 rfl _ rfl rfl hldr.out ?_) | (go_at_call 65; refine IHH.out.mono ?_; rintro e w2 ⟨rfl, hg2⟩; have HG2 := hid (HG.out.trans hg2); clear hg2) | fail)
        go_roundw
        case rel => exact ⟨q + 1, by omega, by go_num, HG2.out, by rw [← H3.out]; rfl⟩
        case measure => simp [intOf]; omega
    · obtain rfl : q = l.length := by omega
      go_wp2_with fail
      go_ret
      refine ⟨?_, HG.out.forget⟩
      rw [← H3.out, List.drop_length]
      rfl

set_option maxRecDepth 20000 in
theorem formed_J {g : G} (k : Int) (s : Set4) (n : Int) (a : Option Addr) (cap : Nat) (l : List Core) (hcap : l.length ≤ cap) (hm : cap ≤ 9223372036854775807)
    (HR : ∀ q (hq : q < l.length), ∃ b off r, a = some ⟨b, off, none⟩ ∧ (∀ w, Fut g w → w.rangeAt b (off + q * 259) (cellsR r).toList) ∧ (∀ g', g.Le g' → ∀ w, Fut g' w → Calls Try.prog 65 #[.agg (cellsR r)] w fun e w' => e = .returned (.bool (formedF l[q])) ∧ Grow g' w g' w'))
    (w : World) (hw : Fut g w) (h_d0 : 0 ≤ k) (h_d1 : k ≤ 7) (h_d2 : (l.length : Int) = kidsR k) (h_d3n : k = 2) (h_d5 : k ≠ 6) (h_d6n : n = 0) (h_d7n : k ≠ 6) :
    Calls Try.prog 65 #[.agg (cellsR ⟨k, s, n, a, l.length, cap⟩)] w fun e w' => e = .returned (.bool (formedL l)) ∧ Grow g w g w' := by
  obtain ⟨g1, hg1, c0, cs, cn, cl, cv⟩ := box_ref hw ⟨k, s, n, a, l.length, cap⟩
  have hf1 := hg1.fut
  have HRH := hid HR
  have hle1 := hid hg1.le
  clear HR
  have e_d0 : decide (k < 0) = false := by simp; omega
  have e_d1 : decide (k > 7) = false := by simp; omega
  have e_d2 : ((l.length : Int) != kidsR k) = false := by simpa using h_d2
  have e_d3n : (k != 2) = false := by simpa using h_d3n
  have e_d5 : (k != 6) = true := by simpa using h_d5
  have e_d6n : (n != 0) = false := by simpa using h_d6n
  have e_d7n : (k == 6) = false := by simpa using h_d7n
  clear h_d0 h_d1 h_d2 h_d3n h_d5 h_d6n h_d7n
  clear cs
  have CV := hid cv
  clear cv
  go_enter Try.func65, Try.ntmps65
  go_wp2_with fail
  refine wp_region_cls (g := g1) (w0 := w.alloc (.cells (cellsR ⟨k, s, n, a, l.length, cap⟩) 54)) (by kernel_rfl) (by kernel_rfl) (Grow.refl hf1) ?_
  have hx : ∀ x : Wg g1 (w.alloc (.cells (cellsR ⟨k, s, n, a, l.length, cap⟩) 54)), Fut g1 x.w := fun x => x.h.fut
  have hne : Nonempty (Wg g1 (w.alloc (.cells (cellsR ⟨k, s, n, a, l.length, cap⟩) 54))) := ⟨⟨_, Grow.refl hf1⟩⟩
  repeat (go_big_quiet_step (exact quiet_grow (parts_any k _ (hx _))))
  refine wpQuiet_nil ?_
  rintro wa ⟨⟨_, hga⟩, rfl⟩
  have HGA := hid (hg1.trans hga)
  have hfa := hga.fut
  clear hga hx hne
  go_wp2_with fail
  go_loopw [3] (fun i wr => ∃ q : Nat, q ≤ l.length ∧ i = .int .i64 q ∧ Grow g w g1 wr ∧ Hid (formedL (l.drop q) = formedL l)) (fun i _ => l.length - (intOf i).toNat)
  case atStart => exact ⟨0, Nat.zero_le _, rfl, HGA.out, rfl⟩
  case round =>
    obtain ⟨q, hq, rfl, hg, H3⟩ := hrel
    have HG := hid hg
    have hfr := hg.fut
    clear hg
    by_cases hlt : q < l.length
    · obtain ⟨b, off, r, rfl, hld, ih⟩ := HRH.out q hlt
      have hldr := hid (hld wr (hfr.le hle1.out))
      have IH := ih g1 hle1.out wr hfr
      have hstep : formedL (l.drop q) = (formedF l[q] && formedL (l.drop (q + 1))) := by
        rw [List.drop_eq_getElem_cons hlt, formedL]
      rw [hstep] at H3
      clear hld ih hstep
      cases hfo : formedF l[q] with
      | false =>
        rw [hfo] at IH H3
        have IHH := hid IH
        clear hfo IH
        go_wp2_with (first | (refine wpList_load54 rfl _ rfl rfl hldr.out ?_) | (go_at_call 65; refine IHH.out.mono ?_; rintro e w2 ⟨rfl, hg2⟩; have HG2 := hid (HG.out.trans hg2); clear hg2) | fail)
        go_ret
        exact ⟨by rw [← H3.out]; rfl, HG2.out.forget⟩
      | true =>
        rw [hfo] at IH H3
        have IHH := hid IH
        clear hfo IH
        go_wp2_with (first | (refine wpList_load54 rfl _ rfl rfl hldr.out ?_) | (go_at_call 65; refine IHH.out.mono ?_; rintro e w2 ⟨rfl, hg2⟩; have HG2 := hid (HG.out.trans hg2); clear hg2) | fail)
        go_roundw
        case rel => exact ⟨q + 1, by omega, by go_num, HG2.out, by rw [← H3.out]; rfl⟩
        case measure => simp [intOf]; omega
    · obtain rfl : q = l.length := by omega
      go_wp2_with fail
      go_ret
      refine ⟨?_, HG.out.forget⟩
      rw [← H3.out, List.drop_length]
      rfl
end Go.Proofs.Ytjodmimnbpgfcaa

/- RefH -/
namespace Go.Proofs.Ytjodmimnbpgfcaa
open Go.RowKit Go.IntWalk

theorem formedF_split (k : Int) (s : Set4) (n : Int) (l : List Core) : formedF (.mk k s n l) = (rheadF k s n l.length && formedL l) := rfl

theorem formed_any {g : G} {r : CRow} {c : Core} (h : RefV g r c) : ∀ g', g.Le g' → ∀ w, Fut g' w → Calls Try.prog 65 #[.agg (cellsR r)] w fun e w' => e = .returned (.bool (formedF c)) ∧ Grow g' w g' w' := by
  refine h.step (motive := fun r c => ∀ g', g.Le g' → ∀ w, Fut g' w → Calls Try.prog 65 #[.agg (cellsR r)] w fun e w' => e = .returned (.bool (formedF c)) ∧ Grow g' w g' w') ?_
  intro k s n a cap l hk hs hn hcap hm HR g' hle w hw
  have HR' : ∀ q (hq : q < l.length), ∃ b off r, a = some ⟨b, off, none⟩ ∧ (∀ w, Fut g' w → w.rangeAt b (off + q * 259) (cellsR r).toList) ∧ (∀ g'', g'.Le g'' → ∀ w, Fut g'' w → Calls Try.prog 65 #[.agg (cellsR r)] w fun e w' => e = .returned (.bool (formedF l[q])) ∧ Grow g'' w g'' w') := by
    intro q hq
    obtain ⟨b, off, r, ha, hc, -, ih⟩ := HR q hq
    exact ⟨b, off, r, ha, fun w hw => hc w (hw.le hle), fun g'' h2 => ih g'' (hle.trans h2)⟩
  rw [formedF_split]
  by_cases h0 : k < 0
  · have e : rheadF k s n l.length = false := by
      have h0' : ¬ 0 ≤ k := by omega
      simp [rheadF, h0']
    rw [e]
    exact formed_A k s n a l.length cap w hw h0
  have h0 : 0 ≤ k := by omega
  by_cases h7 : 7 < k
  · have e : rheadF k s n l.length = false := by
      have h7' : ¬ k ≤ 7 := by omega
      simp [rheadF, h7']
    rw [e]
    exact formed_B k s n a cap l.length w hw h0 h7
  have h7 : k ≤ 7 := by omega
  by_cases hp : ¬ (l.length : Int) = kidsR k
  · have e : rheadF k s n l.length = false := by simp [rheadF, hp]
    rw [e]
    exact formed_C k s n a cap l.length w hw h0 h7 hp
  have hp : (l.length : Int) = kidsR k := Decidable.not_not.1 hp
  by_cases h2 : k = 2
  · by_cases hn0 : n = 0
    · have e : rheadF k s n l.length = true := by
        simp [rheadF, hp, h2, hn0]
      rw [e, Bool.true_and]
      exact formed_J k s n a cap l hcap hm HR' w hw h0 h7 hp h2 (by omega) hn0 (by omega)
    · have e : rheadF k s n l.length = false := by simp [rheadF, h2, hn0]
      rw [e]
      exact formed_E1 k s n a cap l.length w hw h0 h7 hp h2 (by omega) hn0
  by_cases hs0 : ¬ s = set0
  · have e : rheadF k s n l.length = false := by simp [rheadF, h2, hs0]
    rw [e]
    exact formed_D k s n a l.length cap w hw hs h0 h7 hp h2 hs0
  have hs0 : s = set0 := Decidable.not_not.1 hs0
  by_cases h6 : k = 6
  · by_cases hn1 : 1 ≤ n
    · by_cases hn32 : n ≤ 32
      · have e : rheadF k s n l.length = true := by
          have hp' := hp
          rw [h6] at hp'
          simp [rheadF, h6, hs0, hn1, hn32, hp']
        rw [e, Bool.true_and]
        exact formed_H k s n a cap l hcap hm HR' w hw hs h0 h7 hp h2 hs0 h6 h6 hn1 hn32
      · have e : rheadF k s n l.length = false := by simp [rheadF, h6, hn32]
        rw [e]
        exact formed_G k s n a cap l.length w hw hs h0 h7 hp h2 hs0 h6 h6 hn1 (by omega)
    · have e : rheadF k s n l.length = false := by simp [rheadF, h6, hn1]
      rw [e]
      exact formed_F k s n a cap l.length w hw hs h0 h7 hp h2 hs0 h6 h6 (by omega)
  · by_cases hn0 : n = 0
    · have e : rheadF k s n l.length = true := by simp [rheadF, h0, h7, hp, hs0, hn0, h6]
      rw [e, Bool.true_and]
      exact formed_I k s n a cap l hcap hm HR' w hw hs h0 h7 hp h2 hs0 h6 hn0 h6
    · have e : rheadF k s n l.length = false := by simp [rheadF, h6, hn0]
      rw [e]
      exact formed_E2 k s n a cap l.length w hw hs h0 h7 hp h2 hs0 h6 hn0

theorem wpList_load54w {ops : Array Oper} {rest : List Oper} {op : Oper} {a : Act} {w : World} {Q : Exit → Act → World → Prop} (x : Operand) (ho : op.op = .load 54 x)
    {b o : Nat} (hx : a.eval x = .pointer (some ⟨b, o, none⟩)) (hgd : Region.wanted op (yielded ops a.tmps) = true) {r : CRow} (hc : w.rangeAt b o (cellsR r).toList)
    (h : wpList Try.prog ops Q rest (a.put op.dst (.agg (cellsR r))) w) : wpList Try.prog ops Q (op :: rest) a w := by
  obtain ⟨d, h1, h2⟩ := desc54
  unfold wpList
  rw [if_pos hgd]
  refine .inl (wp_load_mid 54 x ho b o hx (cellsR r).toList d hc h1 h2 (by rw [size54]; simp [cellsR_size]) ?_)
  rw [Array.toArray_toList]
  exact h

set_option maxRecDepth 20000 in
theorem rgood_any {g : G} {r : CRow} {c : Core} (h : RefV g r c) (hn : nodes c ≤ 2000) (w : World) (hw : Fut g w) : Calls Try.prog 39 #[.agg (cellsR r)] w fun e w' => e = .returned (.bool (formedF c)) ∧ Grow g w g w' := by
  obtain ⟨g1, hg1, c0, cs, cn, cl, cv⟩ := box_ref hw r
  have hsz := hid (fun w' (hf : Fut g1 w') => rsize_any h g1 hg1.le 2001 (by omega) (by omega) w' hf)
  have hdp := hid (fun w' (hf : Fut g1 w') => rdeep_any h g1 hg1.le 8000 (by omega) (by omega) w' hf)
  have hfo := hid (fun w' (hf : Fut g1 w') => formed_any h g1 hg1.le w' hf)
  have HG := hid hg1
  have hf1 := hg1.fut
  have CV := hid cv
  have hl1 := hid (cv _ hf1)
  clear c0 cs cn cl hg1 cv
  go_enter Try.func39, Try.ntmps39
  go_wp2_with (first | (refine wpList_load54 rfl _ rfl rfl hl1.out ?_) | (go_at_call 63; refine (hsz.out _ hf1).mono ?_) | fail)
  rintro e w2 ⟨k2, rfl, p1, p2, p3, hg2⟩
  have d2 : decide (k2 ≤ 2000) = true := by simp; omega
  have HG2 := hid (HG.out.trans hg2)
  have hf2 := hg2.fut
  have hl2 := hid (CV.out _ hf2)
  clear p1 p2 p3 hg2 hsz HG hl1
  go_wp2_with (first | (refine wpList_load54w _ rfl rfl (by rfl) hl2.out ?_) | (go_at_call 64; refine (hdp.out _ hf2).mono ?_) | fail)
  rintro e w3 ⟨k3, rfl, q1, q2, q3, q4, hg3⟩
  have d3 : decide (k3 ≤ 8000) = true := by simp; omega
  have HG3 := hid (HG2.out.trans hg3)
  have hf3 := hg3.fut
  have hl3 := hid (CV.out _ hf3)
  clear q1 q2 q3 q4 hg3 hdp HG2 hl2
  go_wp2_with (first | (refine wpList_load54w _ rfl rfl (by rfl) hl3.out ?_) | (go_at_call 65; refine (hfo.out _ hf3).mono ?_; rintro e w4 ⟨rfl, hg4⟩; have HG4 := hid (HG3.out.trans hg4); clear hg4) | fail)
  go_ret
  exact ⟨rfl, HG4.out.forget⟩
end Go.Proofs.Ytjodmimnbpgfcaa
