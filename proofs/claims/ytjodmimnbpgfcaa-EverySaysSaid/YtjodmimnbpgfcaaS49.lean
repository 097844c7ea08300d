/- value.Text, walked. A library text: no claim is stated here. awake, walked. A library text: no claim is stated here. -/
import Derived.Test.YtjodmimnbpgfcaaS11
import Derived.Test.YtjodmimnbpgfcaaS22
import Derived.Test.YtjodmimnbpgfcaaS41
import Derived.Lib.SlBytesConst

/- TextA -/
namespace Go.Proofs.Ytjodmimnbpgfcaa
open Go.RowKit Go.IntWalk

/-- A builder that the call has just laid. -/
theorem BldS.fresh {g : G} {w0 w : World} {g1 : G} (h : Grow g w0 g1 w) : BldS g w0 g1 w.heap.size [] (w.alloc (.cells #[.pointer none, .slice none 0 0] 84)) := by
  have hn : g1.blk w.heap.size = none := h.fut.none_of_size (Nat.le_refl _)
  exact ⟨none, .slice none 0 0, h.alloc _, h.size, heap_alloc_new _ _, .inl rfl, World.ownsRow_nil _ _ _ _, by simp [Value.ownBlock], hn, fun k hk => by simp [Value.ownBlock] at hk⟩

theorem textF_ne (v : Val) : textF v ≠ [] := by
  cases v with
  | mk k b l =>
    rw [textF]
    intro h
    have h1 := congrArg List.length h
    simp only [List.length_append, List.length_nil] at h1
    have : 0 < (openF k).length := by
      unfold openF
      repeat' split
      all_goals decide
    omega

set_option maxRecDepth 100000 in
set_option maxHeartbeats 2000000 in
theorem Text_any {g : G} {r : VRow} {v : Val} (h : ValV g r v) (hwf : wfV v = true) (hlen : (textF v).length ≤ 1000000) (w : World) (hw : Fut g w) :
    Calls Try.prog 18 #[r.val] w fun e w' => e = .returned (.string ⟨(textF v).toArray⟩) ∧ Grow g w g w' := by
  obtain ⟨g1, hg1, -, c0, c1, c2⟩ := box_val hw r
  have hf1 := hg1.fut
  have hB := BldS.fresh hg1
  have hcall := text_any h hwf g w g1 _ [] _ hg1.le hB (by simpa using hlen)
  have fa := fun o => hf1.alloc o
  unfold VRow.val at *
  simp only [List.nil_append, World.size_alloc] at hcall
  have HC := hid hcall
  clear hcall hB hg1
  go_enter Try.func18, Try.ntmps18
  go_wp2_with (first | (go_at_call 36; refine HC.out.mono ?_; rintro e w5 ⟨rfl, g6, hL6, hB6⟩; have hS := string_any hB6 (textF_ne v); have HS := hid hS; clear hS hB6 hL6) | (go_at_call 37; refine HS.out.mono ?_; rintro e w6 ⟨rfl, hg6⟩; have HG6 := hid hg6; clear hg6) | fail)
  go_ret
  exact ⟨rfl, HG6.out.forget⟩
end Go.Proofs.Ytjodmimnbpgfcaa

/- Awake -/
namespace Go.Proofs.Ytjodmimnbpgfcaa
open Go.RowKit Go.IntWalk

def chC (l : List UInt8) : Core := .mk 2 (ofF l) 0 []
def altC (a b : Core) : Core := .mk 4 set0 0 [a, b]
def seqC (a b : Core) : Core := .mk 3 set0 0 [a, b]
def starC (a : Core) : Core := .mk 5 set0 0 [a]
def epsC : Core := .mk 1 set0 0 []

theorem awake_all : allF (altC (chC [97]) (chC [97])) [97] 10 = ([.mk 4 0 [.mk 2 97 []], .mk 5 0 [.mk 2 97 []]], 0) := by
  kernel_rfl
theorem awake_good : wfC (altC (chC [97]) (chC [97])) = true ∧ nodes (altC (chC [97]) (chC [97])) ≤ 100000 := by
  refine ⟨by kernel_rfl, ?_⟩
  simp [altC, chC, nodes, nodesL]
theorem awake_t1 : textF (.mk 4 0 [.mk 2 97 []]) = [76, 54, 49] := by kernel_rfl
theorem awake_t2 : textF (.mk 5 0 [.mk 2 97 []]) = [82, 54, 49] := by kernel_rfl

theorem sl_bytes {g : G} {w : World} (hw : Fut g w) (l : List UInt8) : ∃ g1, Grow g w g1 (w.alloc (.cells (l.map byteV).toArray 5)) ∧ SliceV g1 (some ⟨w.heap.size, 0, none⟩) l.length l.length (l.map byteV) ∨ 9223372036854775807 < l.length := by
  by_cases hl : l.length ≤ 9223372036854775807
  · obtain ⟨g1, hg, hb⟩ := box1 hw (.cells (l.map byteV).toArray 5)
    refine ⟨g1, .inl ⟨hg, ?_⟩⟩
    have := SliceV.row (g := g1) w.heap.size 0 l.length (l.map byteV) (by simp) hl (fun w2 hw2 j v hi => by rw [Nat.zero_add]; exact fut_cell hb j v (by simpa using hi) w2 hw2)
    simpa using this
  · exact ⟨g, .inr (by omega)⟩
theorem sl_bytes' {g : G} {w : World} (hw : Fut g w) (l : List UInt8) (hl : l.length ≤ 1000) : ∃ g1, Grow g w g1 (w.alloc (.cells (l.map byteV).toArray 5)) ∧ SliceV g1 (some ⟨w.heap.size, 0, none⟩) l.length l.length (l.map byteV) := by
  obtain ⟨g1, h | h⟩ := sl_bytes hw l
  · exact ⟨g1, h⟩
  · omega

/-- '[]byte(..)' of a constant. -/
theorem sl_marked {g : G} {w : World} (hw : Fut g w) (l : List UInt8) (hl : l.length ≤ 1000) : ∃ g1, Grow g w g1 (w.alloc (.cells (l.map byteV).toArray 5 (l.length, l.length + 1))) ∧ SliceV g1 (some ⟨w.heap.size, 0, none⟩) l.length l.length (l.map byteV) := by
  obtain ⟨g1, hg, hb⟩ := box1 hw (.cells (l.map byteV).toArray 5 (l.length, l.length + 1))
  refine ⟨g1, hg, ?_⟩
  have := SliceV.row (g := g1) w.heap.size 0 l.length (l.map byteV) (by simp) (by omega) (fun w2 hw2 j v hi => by rw [Nat.zero_add]; exact fut_cell hb j v (by simpa using hi) w2 hw2)
  simpa using this
theorem conv_const (w : World) (C : Array Value) (n c : Nat) : (convert 28 28 (.slice (some ⟨w.heap.size, 0, none⟩) n c)).run Try.prog (w.alloc (.cells C 5)) = .ok (.slice (some ⟨w.heap.size, 0, none⟩) n c) (w.alloc (.cells C 5 (C.size, C.size + 1))) :=
  Lib.run_convert_bytes_const w 28 5 C n c Try.underlying28 Try.underlying5

/-- Two values of a slice. -/
theorem vals_two {g : G} {a : Option Addr} {n c : Nat} {x y : Val} (h : ValsV g a n c [x, y]) : ∃ b off r q, a = some ⟨b, off, none⟩ ∧ n = 2 ∧ VCells g b off r ∧ ValV g r x ∧ VCells g b (off + 3) q ∧ ValV g q y := by
  unfold ValsV at h
  cases h with
  | row _ _ blk off _ _ f hpos hcap hm hc hr =>
    have h0 := hc 0 (by simp)
    have h1 := hc 1 (by simp)
    simp only [Nat.zero_mul, Nat.add_zero, Nat.one_mul] at h0 h1
    exact ⟨blk, off, f 0, f 1, rfl, rfl, h0, hr 0 (by simp), h1, hr 1 (by simp)⟩

set_option maxRecDepth 100000 in
set_option maxHeartbeats 4000000 in
theorem awake_any {g : G} (w : World) (hw : Fut g w) : Calls Try.prog 6 #[] w fun e w' => e = .returned (.bool true) ∧ Grow g w g w' := by
  obtain ⟨g1, hg1, hs1⟩ := sl_bytes' hw [97] (by simp)
  have hc1 := ch_any hs1 _ hg1.fut
  simp only [List.map_cons, List.map_nil, byteV] at hg1 hc1
  have HC1 := hid hc1
  have HG1 := hid hg1
  clear hc1 hg1 hs1
  go_enter Try.func6, Try.ntmps6
  go_wp2_with (first | (go_at_call 13; refine HC1.out.mono ?_) | fail)
  rintro e w2 ⟨r1, rfl, hg2, hv1⟩
  obtain ⟨g3, hg3, hs3⟩ := sl_bytes' hg2.fut [97] (by simp)
  have hc2 := ch_any hs3 _ hg3.fut
  simp only [List.map_cons, List.map_nil, byteV] at hg3 hc2
  have HC2 := hid hc2
  have HG3 := hid ((HG1.out.trans hg2).trans hg3)
  have HV1 := hid (hv1.le hg3.le)
  clear hc2 hg3 hs3 hg2 hv1 HC1 HG1
  go_wp2_with (first | (go_at_call 13; refine HC2.out.mono ?_) | fail)
  rintro e w4 ⟨r2, rfl, hg4, hv2⟩
  have hc3 := alt_any HV1.out hv2 w4 hg4.fut
  have HC3 := hid hc3
  have HG4 := hid (HG3.out.trans hg4)
  clear hc3 hg4 hv2 HC2 HG3 HV1
  go_wp2_with (first | (go_at_call 16; refine HC3.out.mono ?_) | fail)
  rintro e w5 ⟨g5, x, rfl, hg5, hx⟩
  obtain ⟨g6, hg6, hs6⟩ := sl_marked hg5.fut [97] (by simp)
  have kc := conv_const w5 #[.int .u8 97] 1 1
  have hall := all_any (s := [97]) (hx.le hg6.le) hs6 (fun _ => awake_good) 10 _ hg6.fut
  have e1 : Core.mk 4 set0 0 [.mk 2 (ofF [97]) 0 [], .mk 2 (ofF [97]) 0 []] = altC (chC [97]) (chC [97]) := rfl
  rw [e1] at hall
  simp only [awake_all] at hall
  simp only [List.map_cons, List.map_nil, byteV, List.length_cons, List.length_nil, Nat.zero_add, Nat.reduceAdd] at hg6 hall
  have HALL := hid hall
  have HG6 := hid ((HG4.out.trans hg5).trans hg6)
  clear hall hg6 hs6 hg5 hx HC3 HG4 e1
  go_wp2_with (first | (go_at_call 14; refine HALL.out.mono ?_) | fail)
  rintro e w7 ⟨g7, la, lc, rfl, hg7, hv7⟩
  obtain ⟨b, off, r, q, rfl, -, ⟨c0, c1, c2⟩, hr, ⟨d0, d1, d2⟩, hq⟩ := vals_two hv7
  have hf7 := hg7.fut
  have ht1 := fun w' hf => Text_any hr (by kernel_rfl) (by rw [awake_t1]; simp) w' hf
  have ht2 := fun w' hf => Text_any hq (by kernel_rfl) (by rw [awake_t2]; simp) w' hf
  rw [awake_t1] at ht1
  rw [awake_t2] at ht2
  unfold VRow.val at ht1 ht2
  have HT1 := hid ht1
  have HT2 := hid ht2
  have HG7 := hid (HG6.out.trans hg7)
  clear ht1 ht2 hg7 hv7 hr hq HALL HG6
  go_wp2_with (first | (go_at_call 18; refine (HT1.out _ hf7).mono ?_; rintro e w8 ⟨rfl, hg8⟩; have HG8 := hid hg8; have hf8 := hg8.fut; clear hg8 HT1) | (go_at_call 18; refine (HT2.out _ hf8).mono ?_; rintro e w9 ⟨rfl, hg9⟩; have HG9 := hid hg9; clear hg9) | fail)
  go_ret
  exact ⟨rfl, ((HG7.out.trans HG8.out).trans HG9.out).forget⟩
end Go.Proofs.Ytjodmimnbpgfcaa
