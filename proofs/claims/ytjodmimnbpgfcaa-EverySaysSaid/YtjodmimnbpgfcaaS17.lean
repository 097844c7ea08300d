/- every's add, walked. A library text: no claim is stated here. -/
import Derived.Test.YtjodmimnbpgfcaaS14
import Derived.Deep.RegionHeld3

/- WebA -/
namespace Go.Proofs.Ytjodmimnbpgfcaa
open Go.RowKit Go.IntWalk

def reN : Re → Nat
  | .none => 1
  | .empty => 1
  | .byte _ => 1
  | .both a b => reN a + reN b + 1
  | .or a b => reN a + reN b + 1
  | .star a => reN a + 1
  | .group a => reN a + 1
  | .anew a => reN a + 1

theorem addR_len : ∀ (r : Re) (t : Nat) (L : List Nd), L.length ≤ (addR r t L).2.length ∧ (addR r t L).2.length ≤ L.length + reN r
  | .none, t, L => by simp [addR, reN]
  | .empty, t, L => by simp [addR]
  | .byte S, t, L => by simp [addR, reN]
  | .both a b, t, L => by
    have h1 := addR_len b t L
    have h2 := addR_len a (addR b t L).1 (addR b t L).2
    simp only [addR, reN]; omega
  | .or a b, t, L => by
    have h1 := addR_len a t L
    have h2 := addR_len b t (addR a t L).2
    simp only [addR, reN, List.length_append, List.length_cons, List.length_nil]; omega
  | .star a, t, L => by
    have h1 := addR_len a L.length (L ++ [nd0])
    simp only [List.length_append, List.length_cons, List.length_nil] at h1
    simp only [addR, reN, List.length_set]; omega
  | .group a, t, L => by
    have h1 := addR_len a t L
    simp only [addR, reN]; omega
  | .anew a, t, L => by
    have h1 := addR_len a t L
    simp only [addR, reN]; omega

/-- What add does not turn. -/
theorem addR_keep : ∀ (r : Re) (t : Nat) (L : List Nd) (i : Nat), i < L.length → (addR r t L).2[i]? = L[i]?
  | .none, t, L, i, h => by simp [addR, List.getElem?_append_left h]
  | .empty, t, L, i, h => rfl
  | .byte S, t, L, i, h => by simp [addR, List.getElem?_append_left h]
  | .both a b, t, L, i, h => by
    have h1 := addR_len b t L
    rw [addR, addR_keep a _ _ i (by omega), addR_keep b t L i h]
  | .or a b, t, L, i, h => by
    have h1 := addR_len a t L
    have h2 := addR_len b t (addR a t L).2
    rw [addR, List.getElem?_append_left (by omega), addR_keep b _ _ i (by omega), addR_keep a t L i h]
  | .star a, t, L, i, h => by
    rw [addR, List.getElem?_set_ne (by omega), addR_keep a _ _ i (by simp; omega), List.getElem?_append_left h]
  | .group a, t, L, i, h => by rw [addR]; exact addR_keep a t L i h
  | .anew a, t, L, i, h => by rw [addR]; exact addR_keep a t L i h

/-- What add is to do. -/
def ASpec (g : G) (r : CRow) (x : Re) : Prop := ∀ (g0 : G) (w0 : World) (g1 : G) (wb : Nat) (st sv cv : Value) (L : List Nd) (w : World) (t : Nat), g.Le g1 → WebE g0 w0 g1 wb st sv cv L w → L.length + reN x ≤ 100000 →
  Calls Try.prog 47 #[.pointer (some ⟨wb, 0, none⟩), r.val, .int .i64 t] w fun e w' => e = .returned (.int .i64 ((addR x t L).1 : Nat)) ∧ ∃ g2, g1.Le g2 ∧ WebE g0 w0 g2 wb st sv cv (addR x t L).2 w'

theorem NodeOk.leaf {g : G} (s : Set4) (t : Nat) : NodeOk g ⟨none, 0, 0, s, t⟩ ⟨[], s, t⟩ := ⟨.nil, rfl, rfl⟩

set_option maxRecDepth 100000 in
set_option maxHeartbeats 4000000 in
theorem addw_empty {g : G} (s : Set4) (n : Int) (ao : Option Addr) (ln cp : Nat) : ASpec g ⟨1, s, n, ao, ln, cp⟩ .empty := by
  intro g0 w0 g1 wb st sv cv L w t hle hE hN
  obtain ⟨g2, hg2, c0, c1, c2, c3, c4, c5, c6⟩ := box_core hE.fut ⟨1, s, n, ao, ln, cp⟩
  have hE2 := hE.kids hg2
  have hf2 := hE2.fut
  have hle2 := hle.trans hg2.le
  have HL2 := hid hg2.le
  have HLE := hid hle2
  have HN := hid hN

  generalize hW : w.alloc (.cells #[.int .i64 1, .int .u64 s.a, .int .u64 s.b, .int .u64 s.c, .int .u64 s.d, .int .i64 n, .slice ao ln cp] 27) = W at hE2 hf2
  have HE := hid hE2
  clear hle hle2 hE hN hg2 hE2
  unfold CRow.val
  go_enter Try.func47, Try.ntmps47
  go_wp2_with fail
  go_ret
  exact ⟨rfl, g2, HL2.out, HE.out⟩

set_option maxRecDepth 100000 in
set_option maxHeartbeats 4000000 in
theorem addw_byte {g : G} (s : Set4) (n : Int) (ao : Option Addr) (ln cp : Nat) : ASpec g ⟨2, s, n, ao, ln, cp⟩ (.byte s) := by
  intro g0 w0 g1 wb st sv cv L w t hle hE hN
  obtain ⟨g2, hg2, c0, c1, c2, c3, c4, c5, c6⟩ := box_core hE.fut ⟨2, s, n, ao, ln, cp⟩
  have hE2 := hE.kids hg2
  have hf2 := hE2.fut
  have hle2 := hle.trans hg2.le
  have HL2 := hid hg2.le
  have HLE := hid hle2
  have HN := hid hN

  generalize hW : w.alloc (.cells #[.int .i64 2, .int .u64 s.a, .int .u64 s.b, .int .u64 s.c, .int .u64 s.d, .int .i64 n, .slice ao ln cp] 27) = W at hE2 hf2
  have HE := hid hE2
  clear hle hle2 hE hN hg2 hE2
  unfold CRow.val
  go_enter Try.func47, Try.ntmps47
  have hpl := place_any HE.out (by have := HN.out; simp only [reN] at this; omega) (NodeOk.leaf _ _ : NodeOk g2 ⟨none, 0, 0, s, t⟩ ⟨[], s, t⟩)
  unfold NRow.val at hpl
  have HP := hid hpl
  clear hpl
  go_wp2_with (first | (go_at_call 69; refine HP.out.mono ?_; rintro e w2 ⟨rfl, hE3⟩; have HE3 := hid hE3; clear hE3) | fail)
  go_ret
  exact ⟨rfl, g2, HL2.out, HE3.out⟩

set_option maxRecDepth 100000 in
set_option maxHeartbeats 4000000 in
theorem addw_none {g : G} (s : Set4) (n : Int) (ao : Option Addr) (ln cp : Nat) : ASpec g ⟨0, s, n, ao, ln, cp⟩ .none := by
  intro g0 w0 g1 wb st sv cv L w t hle hE hN
  obtain ⟨g2, hg2, c0, c1, c2, c3, c4, c5, c6⟩ := box_core hE.fut ⟨0, s, n, ao, ln, cp⟩
  have hE2 := hE.kids hg2
  have hf2 := hE2.fut
  have hle2 := hle.trans hg2.le
  have HL2 := hid hg2.le
  have HLE := hid hle2
  have HN := hid hN

  generalize hW : w.alloc (.cells #[.int .i64 0, .int .u64 s.a, .int .u64 s.b, .int .u64 s.c, .int .u64 s.d, .int .i64 n, .slice ao ln cp] 27) = W at hE2 hf2
  have HE := hid hE2
  clear hle hle2 hE hN hg2 hE2
  unfold CRow.val
  go_enter Try.func47, Try.ntmps47
  have hpl := place_any HE.out (by have := HN.out; simp only [reN] at this; omega) (NodeOk.leaf _ _ : NodeOk g2 ⟨none, 0, 0, set0, 0⟩ nd0)
  unfold NRow.val at hpl
  have HP := hid hpl
  clear hpl
  go_wp2_with (first | (go_at_call 69; refine HP.out.mono ?_; rintro e w2 ⟨rfl, hE3⟩; have HE3 := hid hE3; clear hE3) | fail)
  go_ret
  exact ⟨rfl, g2, HL2.out, HE3.out⟩

set_option maxRecDepth 100000 in
set_option maxHeartbeats 4000000 in
theorem addw_group {g : G} (s : Set4) (n : Int) (b off cp : Nat) {f0 : CRow} {x : Re} (hc0 : CellsAt g b (off + 0) f0) (hs0 : ASpec g f0 x) : ASpec g ⟨6, s, n, some ⟨b, off, none⟩, 1, cp⟩ (.group x) := by
  intro g0 w0 g1 wb st sv cv L w t hle hE hN
  obtain ⟨g2, hg2, c0, c1, c2, c3, c4, c5, c6⟩ := box_core hE.fut ⟨6, s, n, some ⟨b, off, none⟩, 1, cp⟩
  have hE2 := hE.kids hg2
  have hf2 := hE2.fut
  have hle2 := hle.trans hg2.le
  have HL2 := hid hg2.le
  have HLE := hid hle2
  have HN := hid hN
  obtain ⟨d00, d01, d02, d03, d04, d05, d06⟩ := hc0.le hle2
  have HS0 := hid hs0
  clear hc0 hs0
  simp only [Nat.add_zero] at d00 d01 d02 d03 d04 d05 d06
  generalize hW : w.alloc (.cells #[.int .i64 6, .int .u64 s.a, .int .u64 s.b, .int .u64 s.c, .int .u64 s.d, .int .i64 n, .slice (some ⟨b, off, none⟩) 1 cp] 27) = W at hE2 hf2
  have HE := hid hE2
  clear hle hle2 hE hN hg2 hE2
  unfold CRow.val
  go_enter Try.func47, Try.ntmps47
  have hcall := HS0.out g0 w0 g2 wb st sv cv L W t HLE.out HE.out (by have := HN.out; simp only [reN] at this; omega)
  unfold CRow.val at hcall
  have HC := hid hcall
  clear hcall
  go_wp2_with (first | (go_at_call 47; refine HC.out.mono ?_; rintro e w2 ⟨rfl, g3, hL3, hE3⟩; have HE3 := hid hE3; have HL3 := hid hL3; clear hE3 hL3) | fail)
  go_ret
  exact ⟨rfl, g3, HL2.out.trans HL3.out, HE3.out⟩

set_option maxRecDepth 100000 in
set_option maxHeartbeats 4000000 in
theorem addw_anew {g : G} (s : Set4) (n : Int) (b off cp : Nat) {f0 : CRow} {x : Re} (hc0 : CellsAt g b (off + 0) f0) (hs0 : ASpec g f0 x) : ASpec g ⟨7, s, n, some ⟨b, off, none⟩, 1, cp⟩ (.anew x) := by
  intro g0 w0 g1 wb st sv cv L w t hle hE hN
  obtain ⟨g2, hg2, c0, c1, c2, c3, c4, c5, c6⟩ := box_core hE.fut ⟨7, s, n, some ⟨b, off, none⟩, 1, cp⟩
  have hE2 := hE.kids hg2
  have hf2 := hE2.fut
  have hle2 := hle.trans hg2.le
  have HL2 := hid hg2.le
  have HLE := hid hle2
  have HN := hid hN
  obtain ⟨d00, d01, d02, d03, d04, d05, d06⟩ := hc0.le hle2
  have HS0 := hid hs0
  clear hc0 hs0
  simp only [Nat.add_zero] at d00 d01 d02 d03 d04 d05 d06
  generalize hW : w.alloc (.cells #[.int .i64 7, .int .u64 s.a, .int .u64 s.b, .int .u64 s.c, .int .u64 s.d, .int .i64 n, .slice (some ⟨b, off, none⟩) 1 cp] 27) = W at hE2 hf2
  have HE := hid hE2
  clear hle hle2 hE hN hg2 hE2
  unfold CRow.val
  go_enter Try.func47, Try.ntmps47
  have hcall := HS0.out g0 w0 g2 wb st sv cv L W t HLE.out HE.out (by have := HN.out; simp only [reN] at this; omega)
  unfold CRow.val at hcall
  have HC := hid hcall
  clear hcall
  go_wp2_with (first | (go_at_call 47; refine HC.out.mono ?_; rintro e w2 ⟨rfl, g3, hL3, hE3⟩; have HE3 := hid hE3; have HL3 := hid hL3; clear hE3 hL3) | fail)
  go_ret
  exact ⟨rfl, g3, HL2.out.trans HL3.out, HE3.out⟩

/-- The two free ways of a place, in a block of their own. -/
theorem free_two {g : G} {w : World} (hw : Fut g w) (x y : Nat) : ∃ g1, Grow g w g1 (w.alloc (.cells #[.int .i64 (x : Int), .int .i64 (y : Int)] 3)) ∧ SliceV g1 (some ⟨w.heap.size, 0, none⟩) 2 2 ([x, y].map natV) := by
  obtain ⟨g1, hg, hb⟩ := box1 hw (.cells #[.int .i64 (x : Int), .int .i64 (y : Int)] 3)
  refine ⟨g1, hg, .row w.heap.size 0 2 ([x, y].map natV) (by simp) (by omega) (fun w2 hw2 i v hi => ?_)⟩
  rw [Nat.zero_add]
  exact fut_cell hb i v (by simpa [natV] using hi) w2 hw2

/-- place, behind the block of the free ways. -/
theorem or_place {g0 : G} {w0 : World} {g : G} {wb : Nat} {st sv cv : Value} {L : List Nd} {w : World} (h : WebE g0 w0 g wb st sv cv L w) (hL : L.length ≤ 100000) {x y : Nat} :
    Calls Try.prog 69 #[.pointer (some ⟨wb, 0, none⟩), NRow.val ⟨some ⟨w.heap.size, 0, none⟩, 2, 2, set0, 0⟩] (w.alloc (.cells #[.int .i64 (x : Int), .int .i64 (y : Int)] 3)) fun e w' => e = .returned (.int .i64 L.length) ∧ ∃ g2, g.Le g2 ∧ WebE g0 w0 g2 wb st sv cv (L ++ [⟨[x, y], set0, 0⟩]) w' := by
  obtain ⟨g1, hg, hs⟩ := free_two h.fut x y
  refine (place_any (h.kids hg) hL (⟨hs, rfl, rfl⟩ : NodeOk g1 ⟨some ⟨w.heap.size, 0, none⟩, 2, 2, set0, 0⟩ ⟨[x, y], set0, 0⟩)).mono ?_
  rintro e w' ⟨rfl, h2⟩
  exact ⟨rfl, g1, hg.le, h2⟩

set_option maxRecDepth 100000 in
set_option maxHeartbeats 4000000 in
theorem addw_both {g : G} (s : Set4) (n : Int) (b off cp : Nat) {f0 f1 : CRow} {x y : Re} (hc0 : CellsAt g b (off + 0) f0) (hs0 : ASpec g f0 x) (hc1 : CellsAt g b (off + 7) f1) (hs1 : ASpec g f1 y) : ASpec g ⟨3, s, n, some ⟨b, off, none⟩, 2, cp⟩ (.both x y) := by
  intro g0 w0 g1 wb st sv cv L w t hle hE hN
  obtain ⟨g2, hg2, c0, c1, c2, c3, c4, c5, c6⟩ := box_core hE.fut ⟨3, s, n, some ⟨b, off, none⟩, 2, cp⟩
  have hE2 := hE.kids hg2
  have hf2 := hE2.fut
  have hle2 := hle.trans hg2.le
  have HL2 := hid hg2.le
  have HLE := hid hle2
  have HN := hid hN
  obtain ⟨d00, d01, d02, d03, d04, d05, d06⟩ := hc0.le hle2
  have HS0 := hid hs0
  obtain ⟨d10, d11, d12, d13, d14, d15, d16⟩ := hc1.le hle2
  have HS1 := hid hs1
  clear hc0 hs0 hc1 hs1
  simp only [Nat.add_zero] at d00 d01 d02 d03 d04 d05 d06
  generalize hW : w.alloc (.cells #[.int .i64 3, .int .u64 s.a, .int .u64 s.b, .int .u64 s.c, .int .u64 s.d, .int .i64 n, .slice (some ⟨b, off, none⟩) 2 cp] 27) = W at hE2 hf2
  have HE := hid hE2
  clear hle hle2 hE hN hg2 hE2
  unfold CRow.val
  go_enter Try.func47, Try.ntmps47
  have hcall := HS1.out g0 w0 g2 wb st sv cv L W.drew t HLE.out HE.out.drew (by have := HN.out; simp only [reN] at this; omega)
  have hcall2 := fun (g3 : G) (w2 : World) (hL3 : g2.Le g3) (hE3 : WebE g0 w0 g3 wb st sv cv (addR y t L).2 w2) => HS0.out g0 w0 g3 wb st sv cv (addR y t L).2 w2 (addR y t L).1 (HLE.out.trans hL3) hE3 (by have := HN.out; have h2 := addR_len y t L; simp only [reN] at this; omega)
  unfold CRow.val at hcall hcall2
  have HC := hid hcall
  have HC2 := hid hcall2
  clear hcall hcall2
  go_wp2_with fail
  go_region_held3 (fun w' => Fut g2 w') (first | exact Fut.drew (by assumption) | exact Fut.alloc (by assumption) _ | assumption) (first | (go_at_call 47; refine HC.out.mono ?_; rintro e w2 ⟨rfl, g3, hL3, hE3⟩; have HE3 := hid hE3; have HL3 := hid hL3; have hf3 := hE3.fut.le hL3; clear hE3 hL3 HC) | (go_at_call 47; refine (HC2.out _ _ HL3.out HE3.out).mono ?_; rintro e w4 ⟨rfl, g4, hL4, hE4⟩; have HE4 := hid hE4; have HL4 := hid hL4; have hf4 := hE4.fut.le (HL3.out.trans hL4); clear hE4 hL4) | fail)
  go_wp2_with fail
  go_ret
  exact ⟨rfl, g4, HL2.out.trans (HL3.out.trans HL4.out), HE4.out⟩

set_option maxRecDepth 100000 in
set_option maxHeartbeats 4000000 in
theorem addw_or {g : G} (s : Set4) (n : Int) (b off cp : Nat) {f0 f1 : CRow} {x y : Re} (hc0 : CellsAt g b (off + 0) f0) (hs0 : ASpec g f0 x) (hc1 : CellsAt g b (off + 7) f1) (hs1 : ASpec g f1 y) : ASpec g ⟨4, s, n, some ⟨b, off, none⟩, 2, cp⟩ (.or x y) := by
  intro g0 w0 g1 wb st sv cv L w t hle hE hN
  obtain ⟨g2, hg2, c0, c1, c2, c3, c4, c5, c6⟩ := box_core hE.fut ⟨4, s, n, some ⟨b, off, none⟩, 2, cp⟩
  have hE2 := hE.kids hg2
  have hf2 := hE2.fut
  have hle2 := hle.trans hg2.le
  have HL2 := hid hg2.le
  have HLE := hid hle2
  have HN := hid hN
  obtain ⟨d00, d01, d02, d03, d04, d05, d06⟩ := hc0.le hle2
  have HS0 := hid hs0
  obtain ⟨d10, d11, d12, d13, d14, d15, d16⟩ := hc1.le hle2
  have HS1 := hid hs1
  clear hc0 hs0 hc1 hs1
  simp only [Nat.add_zero] at d00 d01 d02 d03 d04 d05 d06
  generalize hW : w.alloc (.cells #[.int .i64 4, .int .u64 s.a, .int .u64 s.b, .int .u64 s.c, .int .u64 s.d, .int .i64 n, .slice (some ⟨b, off, none⟩) 2 cp] 27) = W at hE2 hf2
  have HE := hid hE2
  clear hle hle2 hE hN hg2 hE2
  unfold CRow.val
  go_enter Try.func47, Try.ntmps47
  have hcall := HS0.out g0 w0 g2 wb st sv cv L W.drew t HLE.out HE.out.drew (by have := HN.out; simp only [reN] at this; omega)
  have hcall2 := fun (g3 : G) (w2 : World) (hL3 : g2.Le g3) (hE3 : WebE g0 w0 g3 wb st sv cv (addR x t L).2 w2) => HS1.out g0 w0 g3 wb st sv cv (addR x t L).2 w2 t (HLE.out.trans hL3) hE3 (by have := HN.out; have h2 := addR_len x t L; simp only [reN] at this; omega)
  have hpl := fun (g4 : G) (w4 : World) (hE4 : WebE g0 w0 g4 wb st sv cv (addR y t (addR x t L).2).2 w4) => or_place hE4 (x := (addR x t L).1) (y := (addR y t (addR x t L).2).1) (by have := HN.out; have h2 := addR_len x t L; have h3 := addR_len y t (addR x t L).2; simp only [reN] at this; omega)
  unfold CRow.val at hcall hcall2
  unfold NRow.val at hpl
  have HC := hid hcall
  have HC2 := hid hcall2
  have HP := hid hpl
  clear hcall hcall2 hpl
  go_wp2_with fail
  go_region_held3 (fun w' => Fut g2 w') (first | exact Fut.drew (by assumption) | exact Fut.alloc (by assumption) _ | assumption) (first | (go_at_call 47; refine HC.out.mono ?_; rintro e w2 ⟨rfl, g3, hL3, hE3⟩; have HE3 := hid hE3; have HL3 := hid hL3; have hf3 := hE3.fut.le hL3; clear hE3 hL3 HC) | (go_at_call 47; refine (HC2.out _ _ HL3.out HE3.out).mono ?_; rintro e w4 ⟨rfl, g4, hL4, hE4⟩; have HE4 := hid hE4; have HL4 := hid hL4; have hf4 := hE4.fut.le (HL3.out.trans hL4); clear hE4 hL4) | (go_at_call 69; refine (HP.out _ _ HE4.out).mono ?_; rintro e w5 ⟨rfl, g5, hL5, hE5⟩; have HE5 := hid hE5; have HL5 := hid hL5; have hf5 := hE5.fut.le (HL3.out.trans (HL4.out.trans hL5)); clear hE5 hL5) | fail)
  go_wp2_with fail
  go_ret
  exact ⟨rfl, g5, HL2.out.trans (HL3.out.trans (HL4.out.trans HL5.out)), HE5.out⟩

theorem nodesCells_set : ∀ (rs : List NRow) (i : Nat) (r : NRow) (a : Option Addr) (n c : Nat), rs[i]? = some r → nodesCells (rs.set i { r with a := a, n := n, c := c }) = (nodesCells rs).set (i * 6) (.slice a n c)
  | [], i, r, a, n, c, h => by simp at h
  | x :: rs, 0, r, a, n, c, h => by
    simp only [List.getElem?_cons_zero, Option.some.injEq] at h
    subst h
    rfl
  | x :: rs, i + 1, r, a, n, c, h => by
    have ih := nodesCells_set rs i r a n c (by simpa using h)
    have e1 : nodesCells ((x :: rs).set (i + 1) { r with a := a, n := n, c := c }) = x.cells ++ nodesCells (rs.set i { r with a := a, n := n, c := c }) := rfl
    have e2 : nodesCells (x :: rs) = x.cells ++ nodesCells rs := rfl
    rw [e1, e2, ih]
    have e3 : (i + 1) * 6 = x.cells.length + i * 6 := by simp [NRow.cells]; omega
    rw [e3, List.set_append_right _ _ (Nat.le_add_right _ _), Nat.add_sub_cancel_left]

/-- Behind star's store. -/
theorem star_meet {g0 : G} {w0 : World} {g : G} {wb : Nat} {st sv cv : Value} {M : List Nd} {w : World} {pb pc : Nat} {rs : List NRow} (h : WebS g0 w0 g wb st sv cv M w (.slice (some ⟨pb, 0, none⟩) M.length pc) rs) {i x t : Nat} (hi : M[i]? = some nd0) :
    ∃ g2, g.Le g2 ∧ WebE g0 w0 g2 wb st sv cv (M.set i ⟨[x, t], set0, 0⟩) ((w.alloc (.cells #[.int .i64 (x : Int), .int .i64 (t : Int)] 3)).setCell ⟨pb, i * 6, none⟩ (.slice (some ⟨w.heap.size, 0, none⟩) 2 2)) := by
  obtain ⟨g1, hg, hs⟩ := free_two h.grow.fut x t
  have h1 := h.kids hg
  have hil := (List.getElem?_eq_some_iff.1 hi).1
  have hir : i < rs.length := by rw [h.rows.1]; exact hil
  obtain ⟨r, hr⟩ : ∃ r, rs[i]? = some r := ⟨_, List.getElem?_eq_getElem hir⟩
  have hok := h1.rows.2 i r nd0 hr hi
  have hpw : pb ≠ wb := fun e => h.ne (by rw [e]; rfl)
  have hpg := h1.out.2 pb rfl
  refine ⟨g1, hg.le, .slice (some ⟨pb, 0, none⟩) M.length pc, rs.set i { r with a := some ⟨w.heap.size, 0, none⟩, n := 2, c := 2 }, h1.grow.setCell (a := ⟨pb, i * 6, none⟩) hpg (h1.own.lt pb rfl).1 _, h1.new, ?_, ?_, ⟨by simp [h1.rows.1], ?_⟩, h1.ne, h1.out⟩
  · rw [heap_setCell_other _ _ _ _ (Ne.symm hpw)]
    exact h1.box
  · rw [nodesCells_set rs i r _ _ _ hr, List.length_set]
    exact (h1.own.stored (i * 6) (.slice (some ⟨w.heap.size, 0, none⟩) 2 2)).1
  · intro j r' x' hj hx
    by_cases e : j = i
    · subst e
      simp only [List.getElem?_set_self hir, List.getElem?_set_self hil, Option.some.injEq] at hj hx
      subst hj hx
      exact ⟨hs, hok.set, hok.next⟩
    · rw [List.getElem?_set_ne (Ne.symm e)] at hj hx
      exact h1.rows.2 j r' x' hj hx

set_option maxRecDepth 100000 in
set_option maxHeartbeats 4000000 in
theorem addw_star {g : G} (s : Set4) (n : Int) (b off cp : Nat) {f0 : CRow} {x : Re} (hc0 : CellsAt g b (off + 0) f0) (hs0 : ASpec g f0 x) : ASpec g ⟨5, s, n, some ⟨b, off, none⟩, 1, cp⟩ (.star x) := by
  intro g0 w0 g1 wb st sv cv L w t hle hE hN
  obtain ⟨g2, hg2, c0, c1, c2, c3, c4, c5, c6⟩ := box_core hE.fut ⟨5, s, n, some ⟨b, off, none⟩, 1, cp⟩
  have hE2 := hE.kids hg2
  have hf2 := hE2.fut
  have hle2 := hle.trans hg2.le
  have HL2 := hid hg2.le
  have HLE := hid hle2
  have HN := hid hN
  obtain ⟨d00, d01, d02, d03, d04, d05, d06⟩ := hc0.le hle2
  have HS0 := hid hs0
  clear hc0 hs0
  simp only [Nat.add_zero] at d00 d01 d02 d03 d04 d05 d06
  generalize hW : w.alloc (.cells #[.int .i64 5, .int .u64 s.a, .int .u64 s.b, .int .u64 s.c, .int .u64 s.d, .int .i64 n, .slice (some ⟨b, off, none⟩) 1 cp] 27) = W at hE2 hf2
  have HE := hid hE2
  clear hle hle2 hE hN hg2 hE2
  unfold CRow.val
  go_enter Try.func47, Try.ntmps47
  have hpl := place_any HE.out (by have := HN.out; simp only [reN] at this; omega) (NodeOk.leaf _ _ : NodeOk g2 ⟨none, 0, 0, set0, 0⟩ nd0)
  have hcall := fun (w2 : World) (hE3 : WebE g0 w0 g2 wb st sv cv (L ++ [nd0]) w2) => HS0.out g0 w0 g2 wb st sv cv (L ++ [nd0]) w2 L.length HLE.out hE3 (by have := HN.out; simp only [reN] at this; simp; omega)
  unfold CRow.val at hcall
  unfold NRow.val at hpl
  have HC := hid hcall
  have HP := hid hpl
  clear hcall hpl
  go_wp2_with (first | (go_at_call 69; refine HP.out.mono ?_; rintro e w2 ⟨rfl, hE3⟩; have HE3 := hid hE3; have hf3 := hE3.fut; clear hE3) | (go_at_call 47; refine (HC.out _ HE3.out).mono ?_) | fail)
  rintro e w4 ⟨rfl, g4, hL4, hE4⟩
  obtain ⟨pv, rs, hS4⟩ := hE4
  have hlen := addR_len x L.length (L ++ [nd0])
  have hkeep := addR_keep x L.length (L ++ [nd0]) L.length (by simp)
  rw [List.getElem?_append_right (Nat.le_refl _), Nat.sub_self, List.getElem?_cons_zero] at hkeep
  simp only [List.length_append, List.length_cons, List.length_nil] at hlen
  obtain ⟨pb, pc, rfl, -, hpl4⟩ := hS4.own.form (by omega)
  have q0 := heap_cell hS4.box 0 _ rfl
  have hltw := lt_of_block hS4.box
  have hixi : (L.length : Int) < ((addR x L.length (L ++ [nd0])).2.length : Int) := by omega
  have hown := hS4.own
  obtain ⟨pe, hpe⟩ : ∃ pe, w4.cell? ⟨pb, L.length * 6, none⟩ = some pe := by
    rw [hown.cellAt (L.length * 6) (by omega)]
    have e2 : (L.length * 6) < (nodesCells rs).length := by rw [hown.1]; omega
    exact ⟨_, List.getElem?_eq_getElem e2⟩
  have hpf := hown.frozenAt (L.length * 6)
  have q0A : ∀ o, (w4.alloc o).cell? ⟨wb, 0, none⟩ = some (.slice (some ⟨pb, 0, none⟩) (addR x L.length (L ++ [nd0])).2.length pc) := fun o => (World.cell?_alloc_lt _ _ _ hltw).trans q0
  have hpeA : ∀ o, (w4.alloc o).cell? ⟨pb, L.length * 6, none⟩ = some pe := fun o => (World.cell?_alloc_lt _ _ _ hpl4).trans hpe
  have hpfA : ∀ o, (w4.alloc o).frozen? ⟨pb, L.length * 6, none⟩ = false := fun o => (World.frozen?_alloc_old _ _ _ (Nat.ne_of_lt hpl4)).trans hpf
  have HS4 := hid hS4
  have HL4 := hid hL4
  have HK := hid hkeep
  clear hS4 hL4 hown hpl4 hltw hlen hkeep HC HP
  go_wp2_with fail
  go_ret
  obtain ⟨g5, hL5, hE5⟩ := star_meet HS4.out (x := (addR x L.length (L ++ [nd0])).1) (t := t) HK.out
  exact ⟨rfl, g5, HL2.out.trans (HL4.out.trans hL5), hE5⟩

theorem addw_any {g : G} {r : CRow} {c : Core} (h : CoreV g r c) : wfC c = true → ASpec g r c.re := by
  induction h with
  | nil k s n hk hs hn ao cp =>
    intro hw
    rcases kids_cases hw with ⟨e, hl, hr⟩ | ⟨e, hl, hr⟩ | ⟨e, hl, hr⟩ | ⟨a, b, e, hl, hr⟩ | ⟨a, b, e, hl, hr⟩ | ⟨a, e, hl, hr⟩ | ⟨a, e, hl, hr⟩ | ⟨a, e, hl, hr⟩
    · cases e; rw [hr]; exact addw_none s n ao 0 cp
    · cases e; rw [hr]; exact addw_empty s n ao 0 cp
    · cases e; rw [hr]; exact addw_byte s n ao 0 cp
    all_goals cases hl
  | row k s n hk hs hn b off cap l f hcap hm hc _ ih =>
    intro hw
    have hwl : wfL l = true := by
      have h2 := hw
      simp only [wfC, Bool.and_eq_true] at h2
      exact h2.2
    rcases kids_cases hw with ⟨e, hl, hr⟩ | ⟨e, hl, hr⟩ | ⟨e, hl, hr⟩ | ⟨x, y, e, hl, hr⟩ | ⟨x, y, e, hl, hr⟩ | ⟨x, e, hl, hr⟩ | ⟨x, e, hl, hr⟩ | ⟨x, e, hl, hr⟩
    · cases e; rw [hr]; exact addw_none s n _ _ _
    · cases e; rw [hr]; exact addw_empty s n _ _ _
    · cases e; rw [hr]; exact addw_byte s n _ _ _
    · cases e; cases hl; rw [hr]
      exact addw_both s n b off cap (hc 0 (by simp)) (ih 0 (by simp) (wfL_mem hwl (by simp))) (hc 1 (by simp)) (ih 1 (by simp) (wfL_mem hwl (by simp)))
    · cases e; cases hl; rw [hr]
      exact addw_or s n b off cap (hc 0 (by simp)) (ih 0 (by simp) (wfL_mem hwl (by simp))) (hc 1 (by simp)) (ih 1 (by simp) (wfL_mem hwl (by simp)))
    · cases e; cases hl; rw [hr]
      exact addw_star s n b off cap (hc 0 (by simp)) (ih 0 (by simp) (wfL_mem hwl (by simp)))
    · cases e; cases hl; rw [hr]
      exact addw_group s n b off cap (hc 0 (by simp)) (ih 0 (by simp) (wfL_mem hwl (by simp)))
    · cases e; cases hl; rw [hr]
      exact addw_anew s n b off cap (hc 0 (by simp)) (ih 0 (by simp) (wfL_mem hwl (by simp)))

theorem reN_le : ∀ (m : Nat) (c : Core), nodes c ≤ m → wfC c = true → reN c.re ≤ nodes c
  | 0, c, hm, _ => absurd hm (by have := nodes_pos c; omega)
  | m + 1, c, hm, hw => by
    have hwl : wfL c.l = true := by
      cases c with
      | mk k s n l =>
        simp only [wfC, Bool.and_eq_true] at hw
        exact hw.2
    have hn : nodes c = 1 + nodesL c.l := by cases c; rfl
    have key : ∀ x ∈ c.l, nodes x ≤ m → reN x.re ≤ nodes x := fun x hx hxm => reN_le m x hxm (wfL_mem hwl hx)
    rcases kids_cases hw with ⟨e, hl, hr⟩ | ⟨e, hl, hr⟩ | ⟨e, hl, hr⟩ | ⟨x, y, e, hl, hr⟩ | ⟨x, y, e, hl, hr⟩ | ⟨x, e, hl, hr⟩ | ⟨x, e, hl, hr⟩ | ⟨x, e, hl, hr⟩
    · rw [hr]; simp only [reN]; omega
    · rw [hr]; simp only [reN]; omega
    · rw [hr]; simp only [reN]; omega
    · rw [hl] at hn key; simp only [nodesL] at hn
      have h1 := key x (by simp) (by omega)
      have h2 := key y (by simp) (by omega)
      rw [hr]; simp only [reN]; omega
    · rw [hl] at hn key; simp only [nodesL] at hn
      have h1 := key x (by simp) (by omega)
      have h2 := key y (by simp) (by omega)
      rw [hr]; simp only [reN]; omega
    · rw [hl] at hn key; simp only [nodesL] at hn
      have h1 := key x (by simp) (by omega)
      rw [hr]; simp only [reN]; omega
    · rw [hl] at hn key; simp only [nodesL] at hn
      have h1 := key x (by simp) (by omega)
      rw [hr]; simp only [reN]; omega
    · rw [hl] at hn key; simp only [nodesL] at hn
      have h1 := key x (by simp) (by omega)
      rw [hr]; simp only [reN]; omega
end Go.Proofs.Ytjodmimnbpgfcaa
