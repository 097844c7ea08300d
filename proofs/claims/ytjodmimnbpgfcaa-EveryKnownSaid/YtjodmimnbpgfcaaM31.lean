/- some, walked. A library text: no claim is stated here. may, All, Count, walked. A library text: no claim is stated here. every's Texts: the first loop; what is kept. A library text: no claim is stated here. -/
import Derived.Test.YtjodmimnbpgfcaaM29
import Derived.Test.YtjodmimnbpgfcaaM30
import Derived.Deep.CutBlock
import Derived.Test.YtjodmimnbpgfcaaM02
import Derived.Test.YtjodmimnbpgfcaaM22
import Derived.Test.YtjodmimnbpgfcaaM23
import Derived.Lib.BytesEntry
import Derived.Lib.IndexAny

/- Some -/
namespace Go.Proofs.Ytjodmimnbpgfcaa
open Go.RowKit Go.IntWalk

/-- The first values, one more than most. -/
def someT (most : Int) : Val → Nat → List Val → Bool × List Val := fun v _ l => (decide ((l.length : Int) + 1 ≤ most), l ++ [v])
def someF (c : Core) (s : List UInt8) (most : Int) : List Val := (runT (someT most) (ways s c.re 0 (fun t => t == s.length)) []).2

def ValsPost (g : G) (w : World) (l : List Val) (e : Ending) (w' : World) : Prop := ∃ g' a cap, e = .returned (.slice a l.length cap) ∧ Grow g w g' w' ∧ ValsV g' a l.length cap l

/-- The list at the end becomes persistent. -/
theorem some_done {T : Tab} {lb : Nat} {g g3 g4 : G} {M M4 : Nat → Prop} {l : List Val} {w w3 w4 : World} (hg : Grow g w g3 w3) (hM : ∀ b, M b → w.heap.size ≤ b) (hs : IStep g3 M w3 g4 M4 w4) (hI : LI T lb g4 M4 l w4) :
    ∃ a cap, w4.cell? ⟨lb, 0, none⟩ = some (.slice a l.length cap) ∧ Fut g4 w4 ∧ ValsPost g w l (.returned (.slice a l.length cap)) w4 := by
  obtain ⟨M1, v, rs, h⟩ := hI
  have hst : Step (fun _ => False) g w g4 w4 := (hg.step fun _ => False).trans hs.step (fun b hb => .inr (hM b hb))
  have hk : ∀ k, v.ownBlock = some k → w.heap.size ≤ k ∧ g4.blk k = none := fun k hk => by
    have hm := (h.mem k).2 (.inr (.inr hk))
    refine ⟨?_, (h.out k hm).1⟩
    rcases hs.sub k hm with h1 | h1
    · exact hM k h1
    · exact Nat.le_trans hg.size h1
  obtain ⟨g5, a, cap, rfl, h1, -, h2, -⟩ := vals_keep hst h.own hk h.rows h.nil
  exact ⟨a, cap, heap_cell h.box 0 _ rfl, h.fut, g5, a, cap, rfl, h1.grow, h2⟩

theorem li_start {T : Tab} {lb : Nat} {g3 : G} {M1 : Nat → Prop} {w3 : World} (hf : Fut g3 w3) (ht : TabM g3 M1 T w3) (hb : w3.heap[lb]? = some (.cells #[.slice none 0 0] 41)) (hn : ¬ M1 lb) (hg : g3.blk lb = none) : LI T lb g3 (fun b => M1 b ∨ b = lb) [] w3 := by
  refine ⟨M1, .slice none 0 0, [], hf, ht, hb, World.ownsRow_nil _ _ _ _, ⟨rfl, fun i r v h => by simp at h⟩, fun b => by simp [Value.ownBlock], hn, fun b h => by simp [Value.ownBlock] at h, ?_, fun _ => rfl⟩
  rintro b (h | rfl)
  · exact ht.out b h
  · exact ⟨hg, lt_of_block hb⟩

set_option maxHeartbeats 1000000 in
theorem some_any {g : G} {r : CRow} {c : Core} (h : CoreV g r c) {s : List UInt8} {sa : Option Addr} {sc : Nat} (hsl : SliceV g sa s.length sc (s.map byteV)) (hs : s.length ≤ 256) (hwf : wfC c = true) (hn : nodes c ≤ 100000) {most : Int} (hm0 : 0 ≤ most) (hm : most ≤ 2000) (w : World) (hw : Fut g w) :
    Calls Try.prog 35 #[r.val, .slice sa s.length sc, .int .i64 most] w (ValsPost g w (someF c s most)) := by
  obtain ⟨g1, hg1, c0, c1, c2, c3, c4, c5, c6⟩ := box_core hw r
  obtain ⟨g2, hg2, e1, e2⟩ := box2 hg1.fut (.cells #[.slice sa s.length sc] 28) (.cells #[.int .i64 most] 3)
  have s1 := fut_cell e1 0 _ rfl
  have s2 := fut_cell e2 0 _ rfl
  simp only [World.size_alloc] at e1 e2 s1 s2
  have hlg : ∀ w', Fut g2 w' → Fut g1 w' := fun w' h => h.le hg2.le
  have HG := hid (hg1.trans hg2)
  have hf2 := hg2.fut
  have HE := hid (And.intro e1 e2)
  generalize hW : ((w.alloc (.cells #[.int .i64 r.k, .int .u64 r.s.a, .int .u64 r.s.b, .int .u64 r.s.c, .int .u64 r.s.d, .int .i64 r.n, .slice r.a r.len r.cap] 27)).alloc (.cells #[.slice sa s.length sc] 28)).alloc (.cells #[.int .i64 most] 3) = W at HG hf2
  have hWs : W.heap.size = w.heap.size + 1 + 1 + 1 := by rw [← hW]; simp only [World.size_alloc]
  have hnew := new_any (h.le HG.out.le) (hsl.le HG.out.le) hs hwf (W.alloc (.cells #[.slice none 0 0] 41)).drew (hf2.alloc _).drew hn
  have fa := fun o => hf2.alloc o
  unfold CRow.val at *
  go_enter Try.func35, Try.ntmps35
  go_wp2_with fail
  have hlbs : (W.alloc (.cells #[.slice none 0 0] 41)).drew.heap[W.heap.size]? = some (.cells #[.slice none 0 0] 41) := heap_alloc_new W _
  have hgb : g2.blk W.heap.size = none := hf2.none_of_size (Nat.le_refl _)
  have hgA : Grow g w g2 (W.alloc (.cells #[.slice none 0 0] 41)).drew := (HG.out.alloc _).drew
  rw [hWs] at hlbs hgb
  have hfb := (hf2.alloc (.cells #[.slice none 0 0] 41)).drew
  have HB := hid hlbs
  have HGB := hid hgb
  have HGA := hid hgA
  have HSZ := hid hWs
  have HNEW := hid hnew
  clear hlbs hgb hgA hWs hnew
  go_region_held3 (fun w' => Fut g2 w') (first | exact Fut.drew (by assumption) | exact Fut.alloc (by assumption) _ | assumption) (first | (go_at_call 32; refine HNEW.out.mono ?_; rintro e w3 ⟨g3, T, M1, rfl, hg3, hTc, hTs, htp, htm, hM1⟩; have HG3 := hid hg3; have HTC := hid hTc; have HTS := hid hTs; have HTP := hid htp; have HTM := hid htm; have HM1 := hid hM1; have hf3 := hg3.fut.le hg3.le; clear hg3 hTc hTs htp htm hM1) | fail)
  have hc := HTC.out
  have hs2 := HTS.out
  subst hc
  subst hs2
  have hf3g := HG3.out.fut
  have hlb3 : w.heap.size + 1 + 1 + 1 < w3.heap.size := by
    have h1 := HG3.out.size
    have h2 : (W.alloc (.cells #[.slice none 0 0] 41)).drew.heap.size = W.heap.size + 1 := World.size_alloc _ _
    have h3 := HSZ.out
    omega
  have hlbW : w.heap.size + 1 + 1 + 1 < (W.alloc (.cells #[.slice none 0 0] 41)).drew.heap.size := by
    have h2 : (W.alloc (.cells #[.slice none 0 0] 41)).drew.heap.size = W.heap.size + 1 := World.size_alloc _ _
    have h3 := HSZ.out
    omega
  obtain ⟨g4, hg4, hmk⟩ : ∃ g4, Grow g3 w3 g4 (w3.alloc (.cells #[.pointer (some ⟨T.tb, 0, none⟩), .int .i64 (T.s.length : Nat)] 113)) ∧ g4.blk w3.heap.size = some (.cells #[.pointer (some ⟨T.tb, 0, none⟩), .int .i64 (T.s.length : Nat)] 113) :=
    ⟨_, (Grow.refl hf3g).box _, G.add_same _ _ _⟩
  have hS := li_sys (lb := w.heap.size + 1 + 1 + 1) (HTP.out.le hg4.le) hmk
  have hI4 : LI T (w.heap.size + 1 + 1 + 1) g4 (fun b => M1 b ∨ b = w.heap.size + 1 + 1 + 1) [] (w3.alloc (.cells #[.pointer (some ⟨T.tb, 0, none⟩), .int .i64 (T.s.length : Nat)] 113)) := by
    refine li_start hg4.fut (HTM.out.le (hg4.step fun _ => False) (fun _ _ => id)) ?_ ?_ ?_
    · rw [hg4.old _ hlb3, HG3.out.old _ hlbW]; exact HB.out
    · intro h1; have := HM1.out _ h1; omega
    · exact hg4.new _ (HG3.out.new _ HGB.out hlbW) hlb3
  have hle24 := HG3.out.le.trans hg4.le
  have hcall := each_any (live := fun l : List Val => (l.length : Int) ≤ most) hS (x := T.c) (i := 0) (by cases T.c; rfl) g4 _ [] _ 0 _ _ (fun t => t == T.s.length) (someT most) (fun _ => True) (G.Le.refl _) hI4 (by simpa using hm0) (Nat.zero_le _) (some1_impl hS (hle24.blk _ _ HE.out.1)) (some2_impl hS hm (hle24.blk _ _ HE.out.2) _) (fun _ _ _ => trivial)
  have HG4 := hid hg4
  have hf4 := hg4.fut.le hle24
  clear hg4 hI4
  go_wp2_with (first | (go_at_call 57; refine Calls.mono (P := Try.prog) (by simpa using hcall) ?_; rintro e w5 hp; obtain ⟨rfl, g5, M5, h5, h6, -⟩ := hp; obtain ⟨a, cap, hcl, hf5, hpost⟩ := some_done ((HGA.out.trans HG3.out).trans HG4.out) (fun b hb => by rcases hb with hb | hb; have h1 := HM1.out b hb; have h2 := HGA.out.size; omega; omega) h5 h6; have HPO := hid hpost; clear h5 h6 hpost hcall) | fail)
  go_ret
  exact HPO.out
end Go.Proofs.Ytjodmimnbpgfcaa

/- All -/
namespace Go.Proofs.Ytjodmimnbpgfcaa
open Go.RowKit Go.IntWalk

def mayB (c : Core) (n : Nat) (most : Int) : Bool := GoodF c && decide (n ≤ 256) && decide (0 ≤ most) && decide (most ≤ 2000)

set_option maxHeartbeats 1000000 in
theorem may_any {g : G} {r : CRow} {c : Core} (h : CoreV g r c) (sa : Option Addr) (n sc : Nat) (most : Int) (w : World) (hw : Fut g w) :
    Calls Try.prog 27 #[r.val, .slice sa n sc, .int .i64 most] w fun e w' => e = .returned (.bool (mayB c n most)) ∧ Grow g w g w' := by
  obtain ⟨g1, hg1, c0, c1, c2, c3, c4, c5, c6⟩ := box_core hw r
  have hgood := Good_any (h.le hg1.le) _ hg1.fut
  have HG := hid hg1
  have hf1 := hg1.fut
  clear hg1
  unfold CRow.val at *
  unfold mayB
  cases hgo : GoodF c with
  | false =>
    rw [hgo] at hgood
    clear hgo
    go_enter Try.func27, Try.ntmps27
    go_wp2_with (first | (go_at_call 9; refine hgood.mono ?_; rintro e w2 ⟨rfl, hg2⟩; have HG2 := hid hg2; clear hg2 hgood) | fail)
    go_ret
    exact ⟨rfl, (HG.out.trans HG2.out).forget⟩
  | true =>
    rw [hgo] at hgood
    clear hgo
    by_cases h1 : n ≤ 256
    · by_cases h2 : 0 ≤ most
      · by_cases h3 : most ≤ 2000
        · have d1 : decide ((n : Int) ≤ 256) = true := by simp; omega
          have d2 : decide (0 ≤ most) = true := by simp; omega
          have d3 : decide (most ≤ 2000) = true := by simp; omega
          go_enter Try.func27, Try.ntmps27
          go_wp2_with (first | (go_at_call 9; refine hgood.mono ?_; rintro e w2 ⟨rfl, hg2⟩; have HG2 := hid hg2; clear hg2 hgood) | fail)
          go_ret
          exact ⟨ret_bool (by simp [h1, h2, h3]), (HG.out.trans HG2.out).forget⟩
        · have d1 : decide ((n : Int) ≤ 256) = true := by simp; omega
          have d2 : decide (0 ≤ most) = true := by simp; omega
          have d3 : decide (most ≤ 2000) = false := by simp; omega
          go_enter Try.func27, Try.ntmps27
          go_wp2_with (first | (go_at_call 9; refine hgood.mono ?_; rintro e w2 ⟨rfl, hg2⟩; have HG2 := hid hg2; clear hg2 hgood) | fail)
          go_ret
          exact ⟨ret_bool (by simp [h1, h2, h3]), (HG.out.trans HG2.out).forget⟩
      · have d1 : decide ((n : Int) ≤ 256) = true := by simp; omega
        have d2 : decide (0 ≤ most) = false := by simp; omega
        go_enter Try.func27, Try.ntmps27
        go_wp2_with (first | (go_at_call 9; refine hgood.mono ?_; rintro e w2 ⟨rfl, hg2⟩; have HG2 := hid hg2; clear hg2 hgood) | fail)
        go_ret
        exact ⟨ret_bool (by simp [h1]; omega), (HG.out.trans HG2.out).forget⟩
    · have d1 : decide ((n : Int) ≤ 256) = false := by simp; omega
      go_enter Try.func27, Try.ntmps27
      go_wp2_with (first | (go_at_call 9; refine hgood.mono ?_; rintro e w2 ⟨rfl, hg2⟩; have HG2 := hid hg2; clear hg2 hgood) | fail)
      go_ret
      exact ⟨ret_bool (by simp [h1]), (HG.out.trans HG2.out).forget⟩

/-- What All tells: the values, and how it ended. -/
def allF (c : Core) (s : List UInt8) (most : Int) : List Val × Int :=
  if mayB c s.length most then (if most < ((someF c s most).length : Int) then ([], 6) else (someF c s most, 0)) else ([], 1)
def countF (c : Core) (s : List UInt8) (most : Int) : Int := if mayB c s.length most then ((someF c s most).length : Int) else 0

theorem may_split {c : Core} {n : Nat} {most : Int} (h : mayB c n most = true) : GoodF c = true ∧ n ≤ 256 ∧ 0 ≤ most ∧ most ≤ 2000 := by
  unfold mayB at h
  simp only [Bool.and_eq_true, decide_eq_true_eq] at h
  exact ⟨h.1.1.1, h.1.1.2, h.1.2, h.2⟩

set_option maxHeartbeats 1000000 in
theorem all_any {g : G} {r : CRow} {c : Core} (h : CoreV g r c) {s : List UInt8} {sa : Option Addr} {sc : Nat} (hsl : SliceV g sa s.length sc (s.map byteV)) (hwf : GoodF c = true → wfC c = true ∧ nodes c ≤ 100000) (most : Int) (w : World) (hw : Fut g w) :
    Calls Try.prog 14 #[r.val, .slice sa s.length sc, .int .i64 most] w fun e w' => ∃ g' a cap, e = .returned (.tuple #[.slice a (allF c s most).1.length cap, .int .i64 (allF c s most).2]) ∧ Grow g w g' w' ∧ ValsV g' a (allF c s most).1.length cap (allF c s most).1 := by
  obtain ⟨g1, hg1, c0, c1, c2, c3, c4, c5, c6⟩ := box_core hw r
  have hmay := may_any (h.le hg1.le) sa s.length sc most _ hg1.fut
  have HG := hid hg1
  have hf1 := hg1.fut
  have HH := hid (h.le hg1.le)
  have HSL := hid (hsl.le hg1.le)
  clear hg1 h hsl
  unfold CRow.val at *
  unfold allF
  cases hma : mayB c s.length most with
  | false =>
    rw [hma] at hmay
    clear hma
    simp only [Bool.false_eq_true, if_false]
    go_enter Try.func14, Try.ntmps14
    go_wp2_with (first | (go_at_call 27; refine hmay.mono ?_; rintro e w2 ⟨rfl, hg2⟩; have HG2 := hid hg2; clear hg2 hmay) | fail)
    go_ret2
    exact ⟨g, none, 0, rfl, (HG.out.trans HG2.out).forget, .nil 0 0⟩
  | true =>
    rw [hma] at hmay
    obtain ⟨m1, m2, m3, m4⟩ := may_split hma
    have hw2 := hwf m1
    clear hma
    simp only [if_true]
    have hsome := fun w2 (hf2 : Fut g1 w2) => some_any HH.out HSL.out m2 hw2.1 hw2.2 m3 m4 w2 hf2
    unfold CRow.val at hsome
    have HS := hid hsome
    clear hsome
    by_cases hlt : most < ((someF c s most).length : Int)
    · simp only [hlt, if_true]
      go_enter Try.func14, Try.ntmps14
      go_wp2_with (first | (go_at_call 27; refine hmay.mono ?_; rintro e w2 ⟨rfl, hg2⟩; have HG2 := hid hg2; have hf2 := hg2.fut; clear hg2 hmay) | (go_at_call 35; refine (HS.out _ hf2).mono ?_; rintro e w3 ⟨g3, a, cap, rfl, hg3, hv3⟩; have HG3 := hid hg3; have HV3 := hid hv3; clear hg3 hv3) | fail)
      go_ret2
      exact ⟨g, none, 0, rfl, ((HG.out.trans HG2.out).trans HG3.out).forget, .nil 0 0⟩
    · simp only [hlt, if_false]
      go_enter Try.func14, Try.ntmps14
      go_wp2_with (first | (go_at_call 27; refine hmay.mono ?_; rintro e w2 ⟨rfl, hg2⟩; have HG2 := hid hg2; have hf2 := hg2.fut; clear hg2 hmay) | (go_at_call 35; refine (HS.out _ hf2).mono ?_; rintro e w3 ⟨g3, a, cap, rfl, hg3, hv3⟩; have HG3 := hid hg3; have HV3 := hid hv3; clear hg3 hv3) | fail)
      go_ret2
      exact ⟨g3, a, cap, rfl, (HG.out.trans HG2.out).trans HG3.out, HV3.out⟩

set_option maxHeartbeats 1000000 in
theorem count_any {g : G} {r : CRow} {c : Core} (h : CoreV g r c) {s : List UInt8} {sa : Option Addr} {sc : Nat} (hsl : SliceV g sa s.length sc (s.map byteV)) (hwf : GoodF c = true → wfC c = true ∧ nodes c ≤ 100000) (most : Int) (w : World) (hw : Fut g w) :
    Calls Try.prog 19 #[r.val, .slice sa s.length sc, .int .i64 most] w fun e w' => e = .returned (.int .i64 (countF c s most)) ∧ Grow g w g w' := by
  obtain ⟨g1, hg1, c0, c1, c2, c3, c4, c5, c6⟩ := box_core hw r
  have hmay := may_any (h.le hg1.le) sa s.length sc most _ hg1.fut
  have HG := hid hg1
  have hf1 := hg1.fut
  have HH := hid (h.le hg1.le)
  have HSL := hid (hsl.le hg1.le)
  clear hg1 h hsl
  unfold CRow.val at *
  unfold countF
  cases hma : mayB c s.length most with
  | false =>
    rw [hma] at hmay
    clear hma
    simp only [Bool.false_eq_true, if_false]
    go_enter Try.func19, Try.ntmps19
    go_wp2_with (first | (go_at_call 27; refine hmay.mono ?_; rintro e w2 ⟨rfl, hg2⟩; have HG2 := hid hg2; clear hg2 hmay) | fail)
    go_ret
    exact ⟨rfl, (HG.out.trans HG2.out).forget⟩
  | true =>
    rw [hma] at hmay
    obtain ⟨m1, m2, m3, m4⟩ := may_split hma
    have hw2 := hwf m1
    clear hma
    simp only [if_true]
    have hsome := fun w2 (hf2 : Fut g1 w2) => some_any HH.out HSL.out m2 hw2.1 hw2.2 m3 m4 w2 hf2
    unfold CRow.val at hsome
    have HS := hid hsome
    clear hsome
    go_enter Try.func19, Try.ntmps19
    go_wp2_with (first | (go_at_call 27; refine hmay.mono ?_; rintro e w2 ⟨rfl, hg2⟩; have HG2 := hid hg2; have hf2 := hg2.fut; clear hg2 hmay) | (go_at_call 35; refine (HS.out _ hf2).mono ?_; rintro e w3 ⟨g3, a, cap, rfl, hg3, hv3⟩; have HG3 := hid hg3; have HV3 := hid hv3; clear hg3 hv3) | fail)
    go_ret
    exact ⟨rfl, ((HG.out.trans HG2.out).trans HG3.out).forget⟩
end Go.Proofs.Ytjodmimnbpgfcaa

/- TextsA -/
namespace Go.Proofs.Ytjodmimnbpgfcaa
open Go.RowKit Go.IntWalk

theorem bytesOf_nat (l : List UInt8) : Lib.bytesOf (l.map fun x => ((x.toNat : Nat) : Int)) = l := by
  unfold Lib.bytesOf
  induction l with
  | nil => rfl
  | cons x r ih => simp [ih]

set_option maxRecDepth 100000 in
set_option maxHeartbeats 1000000 in
theorem idxByte_any (b o n c : Nat) (l : List UInt8) (hn : l.length = n) (x : UInt8) (w : World) (hc : ∀ i y, l[i]? = some y → w.cell? ⟨b, o + i, none⟩ = some (byteV y)) :
    Calls Try.prog 26 #[.slice (some ⟨b, o, none⟩) n c, .int .u8 (x.toNat : Nat)] w fun e w' => ∃ r : Int, e = .returned (.int .i64 r) ∧ decide (r ≥ 0) = decide (x ∈ l) ∧ w = w' := by
  have hrun := Lib.run_indexByteSlice (P := Try.prog) w b o n c (l.map fun x => ((x.toNat : Nat) : Int)) (by simpa using hn) (fun i hi => by
    have hi2 : i < l.length := by omega
    rw [hc i _ (List.getElem?_eq_getElem hi2)]
    simp [byteV, List.getD, hi2]) ((x.toNat : Nat) : Int)
  rw [bytesOf_nat] at hrun
  have hx : (((x.toNat : Nat) : Int).toNat.toUInt8) = x := by simp
  rw [hx] at hrun
  have hmem : decide (Lib.indexByte l x ≥ 0) = decide (x ∈ l) := by
    have := Lib.contains_iff_indexByte l x
    rw [Bool.eq_iff_iff] at this ⊢
    simpa [eq_comm] using this.symm
  have HM := hid hmem
  have HR := hid hrun
  clear hmem hrun hc hn
  go_enter Try.func26, Try.ntmps26
  go_wp2
  rw [run_callFunc_extern Try.func46 (by kernel_rfl) (by kernel_rfl) (by kernel_rfl) (e := Extern.BytealgIndexByte.indexByte) (by kernel_rfl), HR.out]
  simp only [Result.andThen]
  rw [Oper.upon_value]
  go_wp2
  go_ret
  exact ⟨_, rfl, HM.out, rfl⟩

def dupTo (S : List UInt8) (q : Nat) : Bool := decide (¬ (S.take q).Nodup)
theorem dupTo_succ {S : List UInt8} {q : Nat} {b : UInt8} (hb : S[q]? = some b) : dupTo S (q + 1) = (dupTo S q || decide (b ∈ S.take q)) := by
  obtain ⟨hq, rfl⟩ := List.getElem?_eq_some_iff.1 hb
  unfold dupTo
  rw [List.take_succ_eq_append_getElem hq, Bool.eq_iff_iff, Bool.or_eq_true, decide_eq_true_eq, decide_eq_true_eq, decide_eq_true_eq, List.nodup_append]
  constructor
  · intro h
    by_cases hn : (S.take q).Nodup
    · right
      apply Classical.byContradiction
      intro hm
      exact h ⟨hn, by simp, fun a ha b hb => by simp at hb; subst hb; intro e; subst e; exact hm ha⟩
    · exact .inl hn
  · rintro (h | h) ⟨h1, h2, h3⟩
    · exact h h1
    · exact h3 _ h _ (by simp) rfl

/-- May so much be asked of texts? -/
def textsOk (c : Core) (S : List UInt8) (n most : Int) : Bool := mayB c 0 most && decide (0 ≤ n) && decide (n ≤ 8) && decide (S.length ≤ 16) && decide S.Nodup

/-- All texts that are said. -/
noncomputable def textsL (c : Core) (S : List UInt8) (n : Nat) : List (List UInt8) := (List.range (n + 1)).flatMap fun k => (allWords S k).filter (AtB (addR c.re 0 [nd0]).2 [(addR c.re 0 [nd0]).1])
noncomputable def textsF (c : Core) (S : List UInt8) (n most : Int) : List (List UInt8) × Int :=
  if textsOk c S n most then (if ((textsL c S n.toNat).length : Int) ≤ most then (textsL c S n.toNat, 0) else ([], 6)) else ([], 1)

/-- What Texts leaves. -/
def TextsP (g : G) (w : World) (r : List (List UInt8) × Int) (e : Ending) (w' : World) : Prop :=
  ∃ g' a cap vals, e = .returned (.tuple #[.slice a r.1.length cap, .int .i64 r.2]) ∧ Grow g w g' w' ∧ SliceV g' a r.1.length cap vals ∧ vals.length = r.1.length ∧
    ∀ (i : Nat) (u : List UInt8) (x : Value), r.1[i]? = some u → vals[i]? = some x → ∃ a c, x = .slice a u.length c ∧ SliceV g' a u.length c (u.map byteV)

theorem textsP_nil {g g1 : G} {w w' : World} (k : Int) (h : Grow g w g1 w') : TextsP g w ([], k) (.returned (.tuple #[.slice none 0 0, .int .i64 k])) w' :=
  ⟨g1, none, 0, [], rfl, h, .nil, rfl, fun i u x hu => by simp at hu⟩

theorem wordsAt_texts {L : List Nd} {S : List UInt8} {k st : Nat} {out : List Nat} (h : ClosedOf L [st] out) : wordsAt L S k out [] = (allWords S k).filter (AtB L [st]) := by
  unfold wordsAt
  simp only [List.nil_append, List.map_id']
  congr 1
  funext u
  rw [Bool.eq_iff_iff, atB_iff, atB_iff]
  constructor
  · rintro ⟨i, hi, hr⟩
    obtain ⟨f, hf, h2⟩ := (h.mem i).1 hi
    exact ⟨f, hf, hr.from_ h2⟩
  · rintro ⟨i, hi, hr⟩
    exact ⟨i, (h.mem i).2 ⟨i, hi, .refl i⟩, hr⟩

/-- The texts become persistent. -/
theorem OS.fin {g0 g : G} {w0 w : World} {ob : Nat} {ws : List (List UInt8)} {va : Option Addr} {vc : Nat} {vals : List Value} (hg : Grow g0 w0 g w) (h : OS g ob ws w (.slice va ws.length vc) vals) (hv : ∀ k, (Value.slice va ws.length vc).ownBlock = some k → w0.heap.size ≤ k) : TextsP g0 w0 (ws, 0) (.returned (.tuple #[.slice va ws.length vc, .int .i64 0])) w := by
  obtain ⟨g', h1, h2, h3, -⟩ := sl_keep (hg.step fun _ => False) h.own (fun k hk => ⟨hv k hk, h.gv k hk⟩)
  exact ⟨g', va, vc, vals, rfl, h1.grow, h3, h.rl, fun i u x a b => by obtain ⟨c, d, e, f⟩ := h.rows i u x a b; exact ⟨c, d, e, f.le h2⟩⟩
end Go.Proofs.Ytjodmimnbpgfcaa
