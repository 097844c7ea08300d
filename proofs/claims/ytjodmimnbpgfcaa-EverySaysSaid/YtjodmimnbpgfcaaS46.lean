/- The reference's ends, Ends and Says, walked. A library text: no claim is stated here. The reference's Texts: words in memory. A library text: no claim is stated here. -/
import Derived.Test.YtjodmimnbpgfcaaS45
import Derived.Test.YtjodmimnbpgfcaaS24
import Derived.Test.YtjodmimnbpgfcaaS32
import Derived.Test.YtjodmimnbpgfcaaS41

/- EnD -/
namespace Go.Proofs.Ytjodmimnbpgfcaa
open Go.RowKit Go.IntWalk

set_option maxHeartbeats 1000000 in
theorem ends_any {g : G} {r : CRow} {c : Core} (h : RefV g r c) {s : List UInt8} {sa : Option Addr} {sc : Nat} (hs : s.length ≤ 1000) (hsl : SliceV g sa s.length sc (s.map byteV)) : wfC c = true → EndsSpec g s sa sc r (endsR s c.re) := by
  refine h.step (motive := fun r c => wfC c = true → EndsSpec g s sa sc r (endsR s c.re)) ?_
  intro k S n a cap l hk hS hn hcap hmax HR hwf g' hle P pa pc hp w hw
  have hkids : ∀ q (hq : q < l.length), ∃ b off r, a = some ⟨b, off, none⟩ ∧ (∀ w, Fut g' w → w.rangeAt b (off + q * 259) (cellsR r).toList) ∧ EndsSpec g' s sa sc r (endsR s l[q].re) := by
    intro q hq
    obtain ⟨b, off, r, h1, h2, -, h4⟩ := HR q hq
    have hwl : wfC l[q] = true := by
      simp only [wfC, Bool.and_eq_true] at hwf
      exact wfL_mem hwf.2 (List.getElem_mem _)
    exact ⟨b, off, r, h1, fun w hw => h2 w (hw.le hle), (h4 hwl).le hle⟩
  rcases kids_cases hwf with ⟨h1, h2, h3⟩ | ⟨h1, h2, h3⟩ | ⟨h1, h2, h3⟩ | ⟨x, y, h1, h2, h3⟩ | ⟨x, y, h1, h2, h3⟩ | ⟨x, h1, h2, h3⟩ | ⟨x, h1, h2, h3⟩ | ⟨x, h1, h2, h3⟩
  all_goals
    simp only [Core.kind, Core.l] at h1 h2
    subst h1 h2
    rw [h3]
  · exact ends_none S n a _ cap hs P pa pc w hw
  · exact ends_empty S n a _ cap hs P pa pc hp w hw
  · exact ends_byte S n a _ cap hs (hsl.le hle) P pa pc hp w hw
  · obtain ⟨b, off, r0, rfl, hr0, H0⟩ := hkids 0 (by simp)
    obtain ⟨b', off', r1, e, hr1, H1⟩ := hkids 1 (by simp)
    simp only [Option.some.injEq, Addr.mk.injEq] at e
    obtain ⟨rfl, rfl, -⟩ := e
    exact ends_both (g := g') S n cap (by simpa using hr0) (by simpa using hr1) H0 H1 hs P pa pc hp w hw
  · obtain ⟨b, off, r0, rfl, hr0, H0⟩ := hkids 0 (by simp)
    obtain ⟨b', off', r1, e, hr1, H1⟩ := hkids 1 (by simp)
    simp only [Option.some.injEq, Addr.mk.injEq] at e
    obtain ⟨rfl, rfl, -⟩ := e
    exact ends_or (g := g') S n cap (by simpa using hr0) (by simpa using hr1) H0 H1 hs P pa pc hp w hw
  · obtain ⟨b, off, r0, rfl, hr0, H0⟩ := hkids 0 (by simp)
    exact ends_star (g := g') S n cap (by simpa using hr0) H0 hs P pa pc hp w hw
  · obtain ⟨b, off, r0, rfl, hr0, H0⟩ := hkids 0 (by simp)
    exact ends_group (g := g') S n cap (by simpa using hr0) H0 hs P pa pc hp w hw
  · obtain ⟨b, off, r0, rfl, hr0, H0⟩ := hkids 0 (by simp)
    exact ends_anew (g := g') S n cap (by simpa using hr0) H0 hs P pa pc hp w hw

/-- The places that are reached. -/
def hitsR (n : Nat) (T : Nat → Bool) : List Nat := (List.range n).filter T
theorem hitsR_yes {n : Nat} {T : Nat → Bool} (h : T n = true) : hitsR (n + 1) T = hitsR n T ++ [n] := by
  simp [hitsR, List.range_succ, List.filter_append, h]
theorem hitsR_no {n : Nat} {T : Nat → Bool} (h : T n = false) : hitsR (n + 1) T = hitsR n T := by
  simp [hitsR, List.range_succ, List.filter_append, h]
theorem hitsR_len (n : Nat) (T : Nat → Bool) : (hitsR n T).length ≤ n := by
  have := List.length_filter_le T (List.range n)
  simpa [hitsR] using this

def HitsP (g : G) (L : List Nat) (w : World) (e : Ending) (w' : World) : Prop := ∃ g2 a cap, e = .returned (.slice a L.length cap) ∧ Grow g w g2 w' ∧ SliceV g2 a L.length cap (L.map natV)

set_option maxRecDepth 100000 in
set_option maxHeartbeats 2000000 in
theorem refEnds_any {g : G} {r : CRow} {c : Core} (h : RefV g r c) (hn : nodes c ≤ 2000) (hwf : wfC c = true) (hfm : formedF c = true) {s : List UInt8} {sa : Option Addr} {sc : Nat} (hs : s.length ≤ 256) (hsl : SliceV g sa s.length sc (s.map byteV)) (w : World) (hw : Fut g w) :
    Calls Try.prog 67 #[.agg (cellsR r), .slice sa s.length sc, .int .i64 0] w (HitsP g (hitsR (s.length + 1) (endsR s c.re fun t => t == 0)) w) := by
  obtain ⟨i0, hi, hz0, hz1, hz2⟩ := info_parts Try.info3
  obtain ⟨g1, hg1, c0, cs, cn, cl, cv⟩ := box_ref hw r
  have hf1 := hg1.fut
  have HC := hid (rgood_any (h.le hg1.le) hn _ hf1)
  have HA := hid (ends_any (h.le hg1.le) (by omega) (hsl.le hg1.le) hwf)
  have H := hid (cv _ hf1)
  have HCV := hid cv
  have HG1 := hid hg1
  have hmk := make_bools s.length (by omega)
  have hsum : IntKind.i64.wrap ((s.length : Int) + 1) = (s.length : Int) + 1 := IntWalk.i64_in _ (by omega)
  have e1 : decide ((s.length : Int) > 256) = false := by simp; omega
  have e2 : decide ((0 : Int) > (s.length : Int)) = false := by simp
  clear c0 cs cn cl cv hg1
  rw [hfm] at HC
  generalize hT0 : endsR s c.re (fun t => t == 0) = T
  have HTT := hid hT0
  clear hT0
  go_enter Try.func67, Try.ntmps67
  go_upto_region 3 with (first | (refine wpList_load54 rfl _ rfl rfl H.out ?_) | (go_at_call 39; refine HC.out.mono ?_; rintro e w2 ⟨rfl, hg2⟩; have HG2 := hid hg2; have hf2 := hg2.fut; clear hg2) | fail)
  have hT : ToInv g1 w2 w2.heap.size s.length (fun _ => false) g1 (w2.alloc (.cells (boolsV (s.length + 1) fun _ => false).toArray 4)) :=
    ⟨(Grow.refl hf2).alloc _, heap_alloc_new w2 _, hf2.none_of_size (Nat.le_refl _), Nat.le_refl _⟩
  have k1 := hT.get (i := 0) (Nat.zero_le _)
  have k2 := hT.free 0
  have e0 : ((boolsV (s.length + 1) fun _ => false).set 0 (Value.bool true)).toArray = (boolsV (s.length + 1) fun t => t == 0).toArray := by
    have h1 := boolsV_set (s.length + 1) (fun _ => false) 0 true
    rw [List.setIfInBounds_toArray] at h1
    rw [h1, boolsV_congr (Q := fun t => t == 0) (fun i hi => by unfold boolUpd; by_cases e : i = 0 <;> simp [e])]
  have h02 : (0 : Int) < (s.length : Int) + 1 := by omega
  have E0 := hid e0
  clear hT e0
  go_upto_region 5 with fail
  have e0 := E0.out
  rw [e0]
  have hT : ToInv g1 w2 w2.heap.size s.length (fun t => t == 0) g1 (w2.alloc (.cells (boolsV (s.length + 1) fun t => t == 0).toArray 4)) :=
    ⟨(Grow.refl hf2).alloc _, heap_alloc_new w2 _, hf2.none_of_size (Nat.le_refl _), Nat.le_refl _⟩
  obtain ⟨hfl, hll, hsl2⟩ := hT.lent (by omega)
  have HC2 := hid (HA.out _ hll _ _ _ hsl2 _ hfl)
  have HT := hid hT
  have HLL := hid hll
  have H2 := hid (HCV.out _ hT.grow.fut)
  generalize w2.alloc (.cells (boolsV (s.length + 1) fun t => t == 0).toArray 4) = w3 at HC2 HT H2 ⊢
  clear hT hll hfl hsl2 k1 k2 H HC HCV e0 hf1
  rw [HTT.out] at HC2
  generalize hB : w2.heap.size = B at HC2 HT HLL ⊢
  go_wp2_with (first | (refine wpList_load54 rfl _ rfl rfl H2.out ?_) | (go_at_call 85; refine HC2.out.mono ?_; rintro e w4 ⟨mb, rfl, hg4, hb4, hc4⟩; obtain ⟨g4, hG4, hs4⟩ := ends_keep HT.out.grow.fut (hg4.under HLL.out) hb4 hc4 (by omega); have HG4 := hid hG4; have HS4 := hid hs4; have hf4 := hG4.fut; clear hg4 hb4 hc4 hG4 hs4) | fail)
  obtain ⟨mb', mo, em, -, hcm, -⟩ := from_row HS4.out
  simp only [Option.some.injEq, Addr.mk.injEq] at em
  obtain ⟨rfl, rfl, -⟩ := em
  have HCM := hid hcm
  have HG := hid ((((HG1.out.trans HG2.out).trans HT.out.grow)).trans HG4.out)
  clear hcm HG1 HG2 HT HG4 HS4 HC2 HLL H2 hf2
  go_loopg [9, 10] (s.length + 1) (fun rem s9 i wr => ∃ (q : Nat) (la : Option Addr) (lc : Nat), q + rem = s.length + 1 ∧ s9 = .slice la (hitsR q T).length lc ∧ i = .int .i64 q ∧ Grow g w g4 wr ∧ w4.heap.size ≤ wr.heap.size ∧ wr.ownsRow w4.heap.size 3 1 (.slice la (hitsR q T).length lc) (hitsR q T).length ((hitsR q T).map natV))
  case atStart => exact ⟨0, none, 0, by omega, rfl, rfl, HG.out, Nat.le_refl _, World.ownsRow_nil _ _ _ _⟩
  case round =>
    obtain ⟨q, la, lc, hq, rfl, rfl, hg, hbase, ho⟩ := hrel
    have hfr := hg.fut
    have HGR := hid hg
    have HO := hid ho
    clear hg ho
    by_cases hlt : q ≤ s.length
    · have k1 := HCM.out _ hfr q hlt
      rw [Nat.zero_add] at k1
      have hqi : (q : Int) ≤ s.length := by omega
      have hlen := hitsR_len q T
      have hbase2 : ∀ o, w4.heap.size ≤ (wr.alloc o).heap.size := fun o => by rw [World.size_alloc]; omega
      have hown : ∀ k, (Value.slice la (hitsR q T).length lc).ownBlock = some k → w.heap.size ≤ k ∧ g4.blk k = none := fun k hk => by
        have h1 := (HO.out.lt k hk).1
        exact ⟨Nat.le_trans HG.out.size h1, HG.out.fut.none_of_size h1⟩
      have HOWN := hid hown
      clear hown
      cases hT : T q with
      | true =>
        rw [hT] at k1
        have HL := hid (hitsR_yes hT)
        go_wp2_with (first | (at_builtin; refine wpList_append_lies _ rfl (.tmp 50) (.tmp 52) 70 rfl w4.heap.size 3 i0 (.int .i64 0) 1 8 Try.underlying70 hi hz0 hz1 hz2 rfl (by decide) _ (hitsR q T).length ((hitsR q T).map natV) rfl (HO.out.alloc _) ⟨wr.heap.size, 0, none⟩ 1 1 [natV q] rfl rfl (World.news_of_block (heap_alloc_new _ _)) (by simp [natV, Value.oneCell']) (by decide) (by unfold maxLen; omega) (by omega) (hbase2 _) _ rfl ?_; intro kb kcap w5 ho5 hg5 hat5 hlt5; have HG5 := hid ((HGR.out.alloc _).grown hg5 HOWN.out); have HS5 := hid (Nat.le_trans (hbase2 _) hg5.size); have HO5 := hid ho5; clear ho5 hg5 hat5 hlt5) | fail)
        go_roundg (s.length + 1 - (q + 1))
        case measure => omega
        case rel =>
          have e : (hitsR (q + 1) T).length = (hitsR q T).length + 1 := by rw [HL.out]; simp
          have ho := HO5.out
          have e2 : (hitsR (q + 1) T).map natV = (hitsR q T).map natV ++ [natV q] := by rw [HL.out, List.map_append]; rfl
          rw [← e, ← e2] at ho
          exact ⟨q + 1, _, _, by omega, by rw [e], by go_num, HG5.out, HS5.out, ho⟩
      | false =>
        rw [hT] at k1
        have HL := hid (hitsR_no hT)
        go_wp2_with fail
        go_roundg (s.length + 1 - (q + 1))
        case measure => omega
        case rel => exact ⟨q + 1, la, lc, by omega, by rw [HL.out], by go_num, HGR.out, hbase, by rw [HL.out]; exact HO.out⟩
    · obtain rfl : q = s.length + 1 := by omega
      go_wp2_with fail
      go_ret
      obtain ⟨g5, h5, hle5, hs5, -⟩ := sl_keep (HGR.out.step (fun _ => False)) HO.out (fun k hk => by
        have h1 := (HO.out.lt k hk).1
        exact ⟨Nat.le_trans HG.out.size h1, HG.out.fut.none_of_size h1⟩)
      exact ⟨g5, la, lc, rfl, h5.grow, hs5⟩

set_option maxRecDepth 100000 in
set_option maxHeartbeats 2000000 in
theorem refSays_any {g : G} {r : CRow} {c : Core} (h : RefV g r c) (hn : nodes c ≤ 2000) (hwf : wfC c = true) (hfm : formedF c = true) {s : List UInt8} {sa : Option Addr} {sc : Nat} (hs : s.length ≤ 256) (hsl : SliceV g sa s.length sc (s.map byteV)) (w : World) (hw : Fut g w) :
    Calls Try.prog 42 #[.agg (cellsR r), .slice sa s.length sc] w fun e w' => e = .returned (.bool (endsR s c.re (fun t => t == 0) s.length)) ∧ Grow g w g w' := by
  obtain ⟨g1, hg1, c0, cs, cn, cl, cv⟩ := box_ref hw r
  have hf1 := hg1.fut
  have HC := hid (refEnds_any (h.le hg1.le) hn hwf hfm hs (hsl.le hg1.le) _ hf1)
  have H := hid (cv _ hf1)
  have HG1 := hid hg1
  clear c0 cs cn cl cv hg1
  generalize endsR s c.re (fun t => t == 0) = T at HC ⊢
  have hlen := hitsR_len (s.length + 1) T
  by_cases hL : hitsR (s.length + 1) T = []
  · rw [hL] at HC
    have hT : T s.length = false := by
      cases h1 : T s.length with
      | false => rfl
      | true => rw [hitsR_yes h1] at hL; simp at hL
    rw [hT]
    go_enter Try.func42, Try.ntmps42
    go_wp2_with (first | (refine wpList_load54 rfl _ rfl rfl H.out ?_) | (go_at_call 67; refine HC.out.mono ?_; rintro e w2 ⟨g2, la, lc, rfl, hg2, hs2⟩; have HG2 := hid hg2; have HS2 := hid hs2; clear hg2 hs2) | fail)
    go_ret
    exact ⟨rfl, (HG1.out.trans HG2.out).forget⟩
  · obtain ⟨m, hm⟩ : ∃ m, (hitsR (s.length + 1) T).length = m + 1 := ⟨(hitsR (s.length + 1) T).length - 1, by have := List.length_pos_iff.2 hL; omega⟩
    have hlast : (hitsR (s.length + 1) T)[m]? = some ((hitsR (s.length + 1) T).getLast hL) := by
      rw [List.getLast_eq_getElem]
      rw [List.getElem?_eq_getElem (by omega)]
      congr 1
      congr 1
      omega
    have hT : ((((hitsR (s.length + 1) T).getLast hL : Nat) : Int) == (s.length : Int)) = T s.length := by
      cases h1 : T s.length with
      | true =>
        have h2 := hitsR_yes h1
        have : (hitsR (s.length + 1) T).getLast hL = s.length := by simp [h2]
        rw [this]; simp
      | false =>
        have h2 := hitsR_no h1
        have h3 := List.mem_filter.1 (List.getLast_mem hL)
        have h4 := List.mem_range.1 h3.1
        have h5 : (hitsR (s.length + 1) T).getLast hL ≠ s.length := fun e => by
          have h7 := h3.2
          rw [e, h1] at h7
          cases h7
        have h8 : ¬ ((hitsR (s.length + 1) T).getLast hL : Int) = (s.length : Int) := by omega
        simpa using h8
    generalize (hitsR (s.length + 1) T).getLast hL = z at hlast hT
    have HLA := hid hlast
    have hpos : ((m : Int) + 1 > 0) := by omega
    clear hlast hL
    rw [hm] at hlen
    go_enter Try.func42, Try.ntmps42
    go_wp2_with (first | (refine wpList_load54 rfl _ rfl rfl H.out ?_) | (go_at_call 67; refine HC.out.mono ?_; rintro e w2 ⟨g2, la, lc, rfl, hg2, hs2⟩; rw [hm] at hs2 ⊢; obtain ⟨lb, lo, rfl, hlc, hcl⟩ := hs2.at (i := m) (v := natV z) (by rw [List.getElem?_map, HLA.out]; rfl); have hf2 := hg2.fut; have k1 := hcl _ hf2; unfold natV at k1; have HG2 := hid hg2; clear hg2 hs2 hcl) | fail)
    go_ret
    exact ⟨rfl, (HG1.out.trans HG2.out).forget⟩
end Go.Proofs.Ytjodmimnbpgfcaa

/- TeA -/
namespace Go.Proofs.Ytjodmimnbpgfcaa
open Go.RowKit Go.IntWalk

/-! ### What it yields -/
def saysR (c : Core) (u : List UInt8) : Bool := endsR u c.re (fun t => t == 0) u.length
def nextW (S : List UInt8) (ws : List (List UInt8)) : List (List UInt8) := ws.flatMap fun u => S.map fun b => u ++ [b]
def wordsR (S : List UInt8) : Nat → List (List UInt8)
  | 0 => [[]]
  | k + 1 => nextW S (wordsR S k)
def textsR (c : Core) (S : List UInt8) (n : Nat) : List (List UInt8) := (List.range n).flatMap fun k => (wordsR S k).filter (saysR c)
def refTexts (c : Core) (S : List UInt8) (n most : Int) : List (List UInt8) × Int :=
  if formedF c = false ∨ n < 0 ∨ 8 < n ∨ 16 < S.length ∨ most < 0 ∨ 2000 < most then ([], 1)
  else if ((textsR c S (n.toNat + 1)).length : Int) ≤ most then (textsR c S (n.toNat + 1), 0) else ([], 6)

/-! ### In memory -/
def WordAt (g : G) (u : List UInt8) (x : Value) : Prop := ∃ a c, x = .slice a u.length c ∧ SliceV g a u.length c (u.map byteV)
theorem WordAt.le {g g' : G} {u : List UInt8} {x : Value} (h : WordAt g u x) (k : g.Le g') : WordAt g' u x := by
  obtain ⟨a, c, h1, h2⟩ := h
  exact ⟨a, c, h1, h2.le k⟩
def WordsAt (g : G) (l : List (List UInt8)) (vals : List Value) : Prop := vals.length = l.length ∧ ∀ (i : Nat) (u : List UInt8) (x : Value), l[i]? = some u → vals[i]? = some x → WordAt g u x
theorem WordsAt.le {g g' : G} {l : List (List UInt8)} {vals : List Value} (h : WordsAt g l vals) (k : g.Le g') : WordsAt g' l vals := ⟨h.1, fun i u x h1 h2 => (h.2 i u x h1 h2).le k⟩
theorem WordsAt.snoc {g : G} {l : List (List UInt8)} {vals : List Value} (h : WordsAt g l vals) {u : List UInt8} {x : Value} (hx : WordAt g u x) : WordsAt g (l ++ [u]) (vals ++ [x]) := by
  refine ⟨by simp [h.1], fun i u' x' h1 h2 => ?_⟩
  rcases Nat.lt_trichotomy i l.length with hi | hi | hi
  · rw [List.getElem?_append_left hi] at h1
    rw [List.getElem?_append_left (by rw [h.1]; exact hi)] at h2
    exact h.2 i u' x' h1 h2
  · rw [List.getElem?_append_right (by omega), hi] at h1
    rw [List.getElem?_append_right (by rw [h.1]; omega), h.1, hi] at h2
    simp at h1 h2
    subst h1 h2
    exact hx
  · rw [List.getElem?_eq_none (by simp; omega)] at h1
    cases h1
/-- Words that lie in persistent memory. -/
def SliceW (g : G) (a : Option Addr) (n c : Nat) (l : List (List UInt8)) : Prop := ∃ vals, SliceV g a n c vals ∧ n = l.length ∧ WordsAt g l vals
theorem SliceW.le {g g' : G} {a : Option Addr} {n c : Nat} {l : List (List UInt8)} (h : SliceW g a n c l) (k : g.Le g') : SliceW g' a n c l := by
  obtain ⟨vals, h1, h2, h3⟩ := h
  exact ⟨vals, h1.le k, h2, h3.le k⟩
theorem SliceW.at {g : G} {a : Option Addr} {n c : Nat} {l : List (List UInt8)} (h : SliceW g a n c l) {i : Nat} (hi : i < l.length) : ∃ b off wa wc, a = some ⟨b, off, none⟩ ∧ n ≤ c ∧ (∀ w, Fut g w → w.cell? ⟨b, off + i, none⟩ = some (.slice wa l[i].length wc)) ∧ SliceV g wa l[i].length wc (l[i].map byteV) := by
  obtain ⟨vals, h1, h2, h3⟩ := h
  have hiv : i < vals.length := by rw [h3.1]; exact hi
  have hv : vals[i]? = some vals[i] := List.getElem?_eq_getElem hiv
  obtain ⟨b, off, h4, h5, h6⟩ := h1.at hv
  obtain ⟨wa, wc, h7, h8⟩ := h3.2 i l[i] vals[i] (List.getElem?_eq_getElem hi) hv
  exact ⟨b, off, wa, wc, h4, h5, fun w hw => by rw [← h7]; exact h6 w hw, h8⟩

/-- Words under construction. -/
structure OwnT (base : Nat) (g : G) (w : World) (v : Value) (l : List (List UInt8)) (vals : List Value) : Prop where
  own : w.ownsRow base 28 1 v l.length vals
  rel : WordsAt g l vals
theorem OwnT.start (base : Nat) (g : G) (w : World) : OwnT base g w (.slice none 0 0) [] [] := ⟨World.ownsRow_nil _ _ _ _, rfl, fun i u x h => by simp at h⟩
theorem OwnT.grow {base : Nat} {g g' : G} {w w' : World} {v : Value} {l : List (List UInt8)} {vals : List Value} (h : OwnT base g w v l vals) (hg : Grow g w g' w') : OwnT base g' w' v l vals :=
  ⟨ownsRow_same h.own (fun k hk => hg.old k (h.own.lt k hk).2), h.rel.le hg.le⟩
/-- .. behind what turned another row. -/
theorem OwnT.other {base : Nat} {g g' : G} {w w' : World} {v : Value} {l : List (List UInt8)} {vals : List Value} {row : Option Nat} (h : OwnT base g w v l vals) (hg : w.grownBy w' row) (hle : g.Le g') (hne : ∀ k, v.ownBlock = some k → row ≠ some k) : OwnT base g' w' v l vals :=
  ⟨ownsRow_same h.own (fun k hk => hg.block k (h.own.lt k hk).2 (fun e => hne k hk e.symm)), h.rel.le hle⟩
theorem OwnT.snoc {base : Nat} {g : G} {w w' : World} {v : Value} {l : List (List UInt8)} {vals : List Value} {kb kcap n : Nat} {u : List UInt8} {x : Value} (h : OwnT base g w v l vals) (hn : l.length = n) (hx : WordAt g u x) (ho : w'.ownsRow base 28 1 (.slice (some ⟨kb, 0, none⟩) (n + 1) kcap) (n + 1) (vals ++ [x])) :
    OwnT base g w' (.slice (some ⟨kb, 0, none⟩) (n + 1) kcap) (l ++ [u]) (vals ++ [x]) := by
  subst hn
  exact ⟨by simpa using ho, h.rel.snoc hx⟩
theorem OwnT.keep {g0 g : G} {w0 w : World} {base n : Nat} {a : Option Addr} {c : Nat} {l : List (List UInt8)} {vals : List Value} (h : OwnT base g w (.slice a n c) l vals) (hn : l.length = n) (hg : Grow g0 w0 g w) (hb : w0.heap.size ≤ base) (hk : ∀ k, (Value.slice a n c).ownBlock = some k → g.blk k = none) :
    ∃ g2, Grow g0 w0 g2 w ∧ g.Le g2 ∧ SliceW g2 a n c l ∧ ∀ b, g.blk b = none → (Value.slice a n c).ownBlock ≠ some b → g2.blk b = none := by
  subst hn
  obtain ⟨g2, h1, h2, h3, h4⟩ := sl_keep (hg.step (fun _ => False)) h.own (fun k hk' => ⟨Nat.le_trans hb (h.own.lt k hk').1, hk k hk'⟩)
  exact ⟨g2, h1.grow, h2, ⟨vals, h3, rfl, h.rel.le h2⟩, h4⟩

set_option maxRecDepth 100000 in
set_option maxHeartbeats 2000000 in
theorem refTexts_bad {g : G} {r : CRow} {c : Core} (h : RefV g r c) (hn : nodes c ≤ 2000) {S : List UInt8} {sa : Option Addr} {sc : Nat} (n most : Int) (hS : S.length ≤ 16) (hbad : formedF c = false ∨ n < 0 ∨ 8 < n ∨ 16 < S.length ∨ most < 0 ∨ 2000 < most) (w : World) (hw : Fut g w) :
    Calls Try.prog 24 #[.agg (cellsR r), .slice sa S.length sc, .int .i64 n, .int .i64 most] w (TextsP g w ([], 1)) := by
  obtain ⟨g1, hg1, c0, cs, cn, cl, cv⟩ := box_ref hw r
  have hf1 := hg1.fut
  have HC := hid (rgood_any (h.le hg1.le) hn _ hf1)
  have H := hid (cv _ hf1)
  have HG1 := hid hg1
  have e0 : decide ((S.length : Int) > 16) = false := by simp; omega
  clear c0 cs cn cl cv hg1
  cases hfm : formedF c with
  | false =>
    rw [hfm] at HC
    go_enter Try.func24, Try.ntmps24
    go_wp2_with (first | (refine wpList_load54 rfl _ rfl rfl H.out ?_) | (go_at_call 39; refine HC.out.mono ?_; rintro e w2 ⟨rfl, hg2⟩; have HG2 := hid hg2; clear hg2) | fail)
    go_ret2
    exact textsP_nil 1 (HG1.out.trans HG2.out)
  | true =>
    rw [hfm] at HC hbad
    by_cases h1 : n < 0
    · have e1 : decide (n < 0) = true := by simpa using h1
      go_enter Try.func24, Try.ntmps24
      go_wp2_with (first | (refine wpList_load54 rfl _ rfl rfl H.out ?_) | (go_at_call 39; refine HC.out.mono ?_; rintro e w2 ⟨rfl, hg2⟩; have HG2 := hid hg2; clear hg2) | fail)
      go_ret2
      exact textsP_nil 1 (HG1.out.trans HG2.out)
    have e1 : decide (n < 0) = false := by simpa using h1
    by_cases h2 : 8 < n
    · have e2 : decide (n > 8) = true := by simpa using h2
      go_enter Try.func24, Try.ntmps24
      go_wp2_with (first | (refine wpList_load54 rfl _ rfl rfl H.out ?_) | (go_at_call 39; refine HC.out.mono ?_; rintro e w2 ⟨rfl, hg2⟩; have HG2 := hid hg2; clear hg2) | fail)
      go_ret2
      exact textsP_nil 1 (HG1.out.trans HG2.out)
    have e2 : decide (n > 8) = false := by simpa using h2
    by_cases h3 : most < 0
    · have e3 : decide (most < 0) = true := by simpa using h3
      go_enter Try.func24, Try.ntmps24
      go_wp2_with (first | (refine wpList_load54 rfl _ rfl rfl H.out ?_) | (go_at_call 39; refine HC.out.mono ?_; rintro e w2 ⟨rfl, hg2⟩; have HG2 := hid hg2; clear hg2) | fail)
      go_ret2
      exact textsP_nil 1 (HG1.out.trans HG2.out)
    have e3 : decide (most < 0) = false := by simpa using h3
    have h4 : 2000 < most := by
      rcases hbad with h | h | h | h | h | h
      · cases h
      · exact absurd h h1
      · exact absurd h h2
      · omega
      · exact absurd h h3
      · exact h
    have e4 : decide (most > 2000) = true := by simpa using h4
    go_enter Try.func24, Try.ntmps24
    go_wp2_with (first | (refine wpList_load54 rfl _ rfl rfl H.out ?_) | (go_at_call 39; refine HC.out.mono ?_; rintro e w2 ⟨rfl, hg2⟩; have HG2 := hid hg2; clear hg2) | fail)
    go_ret2
    exact textsP_nil 1 (HG1.out.trans HG2.out)
end Go.Proofs.Ytjodmimnbpgfcaa
