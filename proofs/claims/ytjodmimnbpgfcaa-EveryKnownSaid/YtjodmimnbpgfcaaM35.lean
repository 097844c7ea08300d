/- value.Kids, value.Text, walked. A library text: no claim is stated here. value.Text, walked. A library text: no claim is stated here. awake, walked. A library text: no claim is stated here. -/
import Derived.Test.YtjodmimnbpgfcaaM34
import Derived.Test.YtjodmimnbpgfcaaM33
import Derived.Test.YtjodmimnbpgfcaaM31
import Derived.Lib.SlBytesConst

/- Text -/
namespace Go.Proofs.Ytjodmimnbpgfcaa
open Go.RowKit Go.IntWalk

/-- How many of a value's L count. -/
def manyF (k : Int) (n : Nat) : Nat := if k = 3 then 2 else if k = 4 ∨ k = 5 ∨ k = 7 then 1 else if k = 6 then n else 0

mutual
def wfV : Val → Bool
  | .mk k b l => decide (1 ≤ k ∧ k ≤ 7) && decide (k = 2 → b = 97) && decide (manyF k l.length = l.length) && wfVs l
def wfVs : List Val → Bool
  | [] => true
  | v :: r => wfV v && wfVs r
end

set_option maxRecDepth 100000 in
set_option maxHeartbeats 2000000 in
theorem kidsV_any {g : G} {k b : Int} {a : Option Addr} {n c : Nat} {l : List Val} (h : ValV g ⟨k, b, a, n, c⟩ (.mk k b l)) (hk : 1 ≤ k ∧ k ≤ 7) (hn : manyF k l.length = l.length) (w : World) (hw : Fut g w) :
    Calls Try.prog 61 #[VRow.val ⟨k, b, a, n, c⟩] w fun e w' => e = .returned (.slice a n c) ∧ Grow g w g w' := by
  obtain ⟨g1, hg1, -, c0, c1, c2⟩ := box_val hw ⟨k, b, a, n, c⟩
  have hf1 := hg1.fut
  have HG := hid hg1
  clear hg1
  unfold VRow.val
  simp only at c0 c1 c2
  cases h with
  | nil =>
    have hk7 : k = 1 ∨ k = 2 ∨ k = 6 := by
      simp only [manyF, List.length_nil] at hn
      split at hn
      · omega
      · split at hn
        · omega
        · split at hn <;> omega
    rcases hk7 with rfl | rfl | rfl
    all_goals
      go_enter Try.func61, Try.ntmps61
      go_wp2_with fail
      go_ret
      exact ⟨rfl, HG.out.forget⟩
  | row _ _ blk off _ _ f hpos hcap hm hc hr =>
    have hk7 : (k = 3 ∧ l.length = 2) ∨ (k = 4 ∧ l.length = 1) ∨ (k = 5 ∧ l.length = 1) ∨ (k = 7 ∧ l.length = 1) ∨ k = 6 := by
      simp only [manyF] at hn
      split at hn
      · omega
      · split at hn
        · omega
        · split at hn <;> omega
    clear hc hr hn
    simp only at HG c2
    generalize l.length = m at hpos hcap HG c2 hk7 ⊢
    rcases hk7 with ⟨rfl, rfl⟩ | ⟨rfl, rfl⟩ | ⟨rfl, rfl⟩ | ⟨rfl, rfl⟩ | rfl
    all_goals
      go_enter Try.func61, Try.ntmps61
      go_wp2_with fail
      go_ret
      exact ⟨rfl, HG.out.forget⟩

/-- A value's text (each byte is an 'a'). -/
def openF (k : Int) : List UInt8 := if k = 1 then [69] else if k = 2 then [54, 49] else if k = 3 then [40] else if k = 4 then [76] else if k = 5 then [82] else if k = 6 then [91] else if k = 7 then [60] else [63]
def closeF (k : Int) : List UInt8 := if k = 3 then [41] else if k = 6 then [93] else if k = 7 then [62] else []
mutual
def textF : Val → List UInt8
  | .mk k _ l => openF k ++ textFs true l ++ closeF k
def textFs : Bool → List Val → List UInt8
  | _, [] => []
  | first, v :: r => (if first then [] else [44]) ++ textF v ++ textFs false r
end

theorem BldS.box {g : G} {w0 : World} {g1 : G} {b : Nat} {bs : List UInt8} {w : World} (h : BldS g w0 g1 b bs w) (o : Obj) : BldS g w0 (g1.add w.heap.size o) b bs (w.alloc o) := by
  obtain ⟨pa, v, h⟩ := h
  have hlt := lt_of_block h.box
  refine ⟨pa, v, h.grow.box o, h.new, (Below.heap_alloc _ _ _ hlt).trans h.box, h.pa, h.own.alloc _, h.ne, ?_, fun k hk => ?_⟩
  · have : b ≠ w.heap.size := by omega
    simp [G.add, this, h.out.1]
  · have hk2 := (h.own.lt k hk).2
    have : k ≠ w.heap.size := by omega
    simp [G.add, this, h.out.2 k hk]

theorem BldS.fut {g : G} {w0 : World} {g1 : G} {b : Nat} {bs : List UInt8} {w : World} (h : BldS g w0 g1 b bs w) : Fut g1 w := by
  obtain ⟨pa, v, h⟩ := h
  exact h.grow.fut

theorem BldS.kids {g : G} {w0 : World} {g1 : G} {b : Nat} {bs : List UInt8} {w w' : World} (h : BldS g w0 g1 b bs w) (hg : Grow g1 w g1 w') : BldS g w0 g1 b bs w' := by
  obtain ⟨pa, v, h⟩ := h
  have hlt := lt_of_block h.box
  exact ⟨pa, v, h.grow.trans hg, h.new, (hg.old b hlt).trans h.box, h.pa, ownsRow_same h.own (fun k hk => hg.old k (h.own.lt k hk).2), h.ne, h.out⟩

/-- What text is to do. -/
def TextSpec (g : G) (r : VRow) (v : Val) : Prop := ∀ (g0 : G) (w0 : World) (g1 : G) (b : Nat) (bs : List UInt8) (w : World), g.Le g1 → BldS g0 w0 g1 b bs w → bs.length + (textF v).length ≤ 1000000 →
  Calls Try.prog 36 #[.pointer (some ⟨b, 0, none⟩), r.val] w fun e w' => e = .returned (.tuple #[]) ∧ ∃ g2, g1.Le g2 ∧ BldS g0 w0 g2 b (bs ++ textF v) w'

theorem BldS.alloc {g : G} {w0 : World} {g1 : G} {b : Nat} {bs : List UInt8} {w : World} (h : BldS g w0 g1 b bs w) (o : Obj) : BldS g w0 g1 b bs (w.alloc o) := by
  obtain ⟨pa, v, h⟩ := h
  have hlt := lt_of_block h.box
  exact ⟨pa, v, h.grow.alloc o, h.new, (Below.heap_alloc _ _ _ hlt).trans h.box, h.pa, h.own.alloc _, h.ne, h.out⟩

theorem textFs_snoc : ∀ (l : List Val) (f : Bool) (v : Val), textFs f (l ++ [v]) = textFs f l ++ (if f && l.isEmpty then [] else [44]) ++ textF v
  | [], f, v => by cases f <;> simp [textFs]
  | x :: r, f, v => by
    have := textFs_snoc r false v
    simp only [Bool.false_and, Bool.false_eq_true, if_false] at this
    simp [textFs, this]
theorem textFs_take {l : List Val} {q : Nat} (h : q < l.length) : textFs true (l.take (q + 1)) = textFs true (l.take q) ++ (if q = 0 then [] else [44]) ++ textF l[q] := by
  rw [List.take_succ_eq_append_getElem h, textFs_snoc]
  congr 2
  by_cases hq : q = 0
  · subst hq; simp
  · have : (l.take q).isEmpty = false := by
      cases l with
      | nil => simp at h
      | cons x r => cases q with
        | zero => exact absurd rfl hq
        | succ q => rfl
    simp [this, hq]
theorem textFs_le : ∀ (l : List Val) (q : Nat) (f : Bool), (textFs f (l.take q)).length ≤ (textFs f l).length
  | [], q, f => by simp [textFs]
  | x :: r, 0, f => by simp [textFs]
  | x :: r, q + 1, f => by
    have := textFs_le r q false
    simp only [List.take_succ_cons, textFs, List.length_append]
    omega

def openS (k : Int) : ByteArray := ⟨(openF k).toArray⟩
def closeS (k : Int) : ByteArray := ⟨(closeF k).toArray⟩

theorem wfVs_get : ∀ {l : List Val}, wfVs l = true → ∀ (i : Nat) (h : i < l.length), wfV l[i] = true
  | [], _, i, h => by simp at h
  | x :: r, hw, 0, _ => by simp only [wfVs, Bool.and_eq_true] at hw; exact hw.1
  | x :: r, hw, i + 1, h => by simp only [wfVs, Bool.and_eq_true] at hw; exact wfVs_get hw.2 i (by simpa using h)

theorem BldS.drew {g : G} {w0 : World} {g1 : G} {b : Nat} {bs : List UInt8} {w : World} (h : BldS g w0 g1 b bs w) : BldS g w0 g1 b bs w.drew := by
  obtain ⟨pa, v, h⟩ := h
  exact ⟨pa, v, h.grow.drew, h.new, h.box, h.pa, h.own, h.ne, h.out⟩

set_option maxRecDepth 100000 in
set_option maxHeartbeats 4000000 in
theorem text_row {g : G} (k b : Int) (a : Option Addr) (n c : Nat) (l : List Val) (hv : ValV g ⟨k, b, a, n, c⟩ (.mk k b l))
    (H : (a = none ∧ n = 0 ∧ c = 0 ∧ l = []) ∨ ∃ (blk off : Nat) (f : Nat → VRow), a = some ⟨blk, off, none⟩ ∧ n = l.length ∧ l.length ≤ c ∧ c ≤ 9223372036854775807 ∧ (∀ i, i < l.length → VCells g blk (off + i * 3) (f i)) ∧ ∀ i (h : i < l.length), TextSpec g (f i) l[i])
    (hk : 1 ≤ k ∧ k ≤ 7) (hb : k = 2 → b = 97) (hn : manyF k l.length = l.length) : TextSpec g ⟨k, b, a, n, c⟩ (.mk k b l) := by
  intro g0 w0 g1 bb bs w hle hB hlen
  have hf := hB.fut
  have hB1 := hB.box (.cells #[.int .i64 k, .int .u8 b, .slice a n c] 48)
  have hgg : g1.blk w.heap.size = none := hf.none_of_size (Nat.le_refl _)
  have hle1 : g.Le (g1.add w.heap.size (.cells #[.int .i64 k, .int .u8 b, .slice a n c] 48)) := hle.trans (G.le_add hgg)
  have hL1 : g1.Le (g1.add w.heap.size (.cells #[.int .i64 k, .int .u8 b, .slice a n c] 48)) := G.le_add hgg
  have hadd := G.add_same g1 w.heap.size (.cells #[.int .i64 k, .int .u8 b, .slice a n c] 48)
  have c0 := fut_cell hadd 0 _ rfl
  have c1 := fut_cell hadd 1 _ rfl
  have c2 := fut_cell hadd 2 _ rfl
  have hf1 := hB1.fut
  have hkids := fun w' h' => kidsV_any (hv.le hle1) hk hn w' h'
  generalize hW : w.alloc (.cells #[.int .i64 k, .int .u8 b, .slice a n c] 48) = W at hB1 hf1
  generalize hG1 : g1.add w.heap.size (.cells #[.int .i64 k, .int .u8 b, .slice a n c] 48) = G1 at *
  have HB := hid hB1
  have HL := hid hL1
  have HLE := hid hle1
  have HH := hid H
  have HKI := hid hkids
  have hlen2 : bs.length + ((openF k).length + (textFs true l).length + (closeF k).length) ≤ 1000000 := by simpa [textF, Nat.add_assoc] using hlen
  have HN := hid hlen2
  clear hadd hle1 hL1 hle hB hB1 hgg hf hv H hlen hG1 hkids hlen2
  unfold VRow.val
  go_enter Try.func36, Try.ntmps36
  go_upto_block 0 with fail
  go_cut [4, 5] from 8 (fun s4 s5 wc => s4 = .string (openS k) ∧ s5 = .string (closeS k) ∧ Hid (BldS g0 w0 G1 bb bs wc))
  case first =>
    clear HN HLE HL HKI
    have hk7 : k = 1 ∨ k = 2 ∨ k = 3 ∨ k = 4 ∨ k = 5 ∨ k = 6 ∨ k = 7 := by omega
    by_cases h2 : k = 2
    · obtain rfl := hb h2
      subst h2
      clear hb hk7
      go_wp2_with fail
      go_region
      all_goals go_wp2_with fail
      all_goals go_meet
      all_goals exact ⟨rfl, rfl, hid HB.out.drew⟩
    · by_cases h3 : k = 3
      · subst h3
        have hn2 : l.length = 2 := hn.symm
        have hn3 : n = 2 := by
          rcases HH.out with ⟨-, -, -, rfl⟩ | ⟨_, _, _, -, rfl, -⟩
          · simp at hn2
          · exact hn2
        subst hn3
        clear hb hk7
        go_wp2_with fail
        all_goals go_meet
        all_goals exact ⟨rfl, rfl, HB⟩
      · have hk5 : k = 1 ∨ k = 4 ∨ k = 5 ∨ k = 6 ∨ k = 7 := by omega
        clear hk7 hn hb h2 h3 hk
        rcases hk5 with rfl | rfl | rfl | rfl | rfl
        all_goals
          go_wp2_with fail
          go_meet
          exact ⟨rfl, rfl, HB⟩
  case rest =>
    obtain ⟨rfl, rfl, HBc⟩ := hcut
    have hfc := HBc.out.fut
    have n1 : bs.length + (openS k).size ≤ 140737488355328 := by have := HN.out; show bs.length + (openF k).length ≤ _; omega
    have hks := HKI.out
    unfold VRow.val at hks
    go_wp2_with (first | (go_at_call 60; refine (writeString_any HBc.out (openS k) n1).mono ?_; rintro e w1 ⟨rfl, hB2⟩; have HB2 := hid hB2; have hf2 := hB2.fut; clear hB2) | (go_at_call 61; refine (hks _ hf2).mono ?_; rintro e w2 ⟨rfl, hg2⟩; have HB3 := hid (HB2.out.kids hg2.forget); clear hg2) | fail)
    clear c0 c1 c2 hf1 hf2 hfc hks HKI HB2 HBc HB n1 hn hb hk
    have HN2 : Hid ((openS k).size = (openF k).length ∧ (closeS k).size = (closeF k).length) := ⟨rfl, rfl⟩
    have HE : Hid ((openS k).data.toList = openF k ∧ (closeS k).data.toList = closeF k) := ⟨rfl, rfl⟩
    rcases HH.out with ⟨rfl, rfl, rfl, rfl⟩ | ⟨blk, off, f, rfl, rfl, hcap, hm, hcells, ih⟩
    · refine wp_loop_rounds 1 ?_; rw [rounds_succ]
      have n2 : (bs ++ openF k).length + (closeS k).size ≤ 140737488355328 := by have := HN.out; have := HN2.out.2; simp [textFs] at *; omega
      go_wp2_with (first | (go_at_call 60; refine (writeString_any HB3.out (closeS k) n2).mono ?_; rintro e w4 ⟨rfl, hB4⟩; have HB4 := hid hB4; clear hB4) | fail)
      go_end0
      refine ⟨rfl, G1, HL.out, ?_⟩
      have := HB4.out
      rw [HE.out.1, HE.out.2] at this
      simpa [textF, textFs, List.append_assoc] using this
    · have HC := hid hcells
      have IH := hid ih
      clear hcells ih HH
      go_loopg [51] l.length (fun rem i wr => ∃ q g2, q + rem = l.length ∧ i = .int .i64 (q : Nat) ∧ Hid (G1.Le g2) ∧ Hid (BldS g0 w0 g2 bb (bs ++ openF k ++ textFs true (l.take q)) wr))
      case atStart =>
        refine ⟨0, G1, by omega, rfl, G.Le.refl _, hid ?_⟩
        have := HB3.out
        rw [HE.out.1] at this
        simpa [textFs] using this
      case round =>
        obtain ⟨q, g2, hq, rfl, HLq, HBq⟩ := hrel
        have hf4 := HBq.out.fut
        clear HB3
        by_cases hlt : q < l.length
        · obtain ⟨e0, e1, e2⟩ := (HC.out q hlt).le (HLE.out.trans HLq.out)
          have hB5 := HBq.out.box (.cells #[.int .i64 (f q).k, .int .u8 (f q).b, .slice (f q).a (f q).len (f q).cap] 48)
          have hadd5 := G.add_same g2 wr.heap.size (.cells #[.int .i64 (f q).k, .int .u8 (f q).b, .slice (f q).a (f q).len (f q).cap] 48)
          have hle5 : g2.Le (g2.add wr.heap.size (.cells #[.int .i64 (f q).k, .int .u8 (f q).b, .slice (f q).a (f q).len (f q).cap] 48)) := G.le_add (hf4.none_of_size (Nat.le_refl _))
          generalize g2.add wr.heap.size (.cells #[.int .i64 (f q).k, .int .u8 (f q).b, .slice (f q).a (f q).len (f q).cap] 48) = G5 at hB5 hadd5 hle5
          have d0 := fut_cell hadd5 0 _ rfl
          have d1 := fut_cell hadd5 1 _ rfl
          have d2 := fut_cell hadd5 2 _ rfl
          have hf5 := hB5.fut
          have HB5 := hid hB5
          have HL5 := hid hle5
          clear hB5 hadd5 hle5
          have hlq : (bs ++ openF k ++ textFs true (l.take (q + 1))).length ≤ 1000000 := by
            have h1 := HN.out
            have h2 := textFs_le l (q + 1) true
            simp only [List.length_append]; omega
          rw [textFs_take hlt] at hlq
          have IH1 := IH.out q hlt
          have htk := textFs_take hlt
          have HTK := hid htk
          clear htk
          have HLQ := hid hlt
          have HQ := hid hq
          by_cases hq0 : q = 0
          · have HQ0 := hid hq0
            have hlt1 : decide (q > 0) = false := by simp; omega
            have hcall := IH1 g0 w0 G5 bb _ _ (HLE.out.trans (HLq.out.trans HL5.out)) HB5.out (by simp [hq0] at hlq ⊢; omega)
            unfold VRow.val at hcall
            clear IH1 hq0 hlq
            go_wp2_with (first | (go_at_call 36; refine hcall.mono ?_; rintro e w5 ⟨rfl, g6, hL6, hB6⟩; have HB6 := hid hB6; have HL6 := hid hL6; clear hB6 hL6 hcall) | fail)
            go_roundg (l.length - (q + 1))
            case measure => have h1 := HLQ.out; have h2 := HQ.out; omega
            case rel =>
              refine ⟨q + 1, g6, by have := HLQ.out; omega, by go_num, HLq.out.trans (HL5.out.trans HL6.out), hid ?_⟩
              have := HB6.out
              rw [HTK.out, if_pos HQ0.out]
              simpa [List.append_assoc] using this
          · have HQ0 := hid hq0
            have hlt1 : decide (q > 0) = true := by simp; omega
            have n3 : (bs ++ openF k ++ textFs true (l.take q)).length + (ByteArray.mk #[44]).size ≤ 140737488355328 := by
              simp [hq0] at hlq ⊢; show _ + 1 ≤ _; omega
            have hcall := fun w' (hB : BldS g0 w0 G5 bb ((bs ++ openF k ++ textFs true (l.take q)) ++ (ByteArray.mk #[44]).data.toList) w') => IH1 g0 w0 G5 bb _ w' (HLE.out.trans (HLq.out.trans HL5.out)) hB (by simp [hq0] at hlq ⊢; omega)
            unfold VRow.val at hcall
            clear IH1 hq0 hlq
            go_wp2_with (first | (go_at_call 60; refine (writeString_any HB5.out (ByteArray.mk #[44]) n3).mono ?_; rintro e w4 ⟨rfl, hB4⟩; have HB4 := hid hB4; have hf6 := hB4.fut; clear hB4) | (go_at_call 36; refine (hcall _ HB4.out).mono ?_; rintro e w5 ⟨rfl, g6, hL6, hB6⟩; have HB6 := hid hB6; have HL6 := hid hL6; clear hB6 hL6 hcall) | fail)
            go_roundg (l.length - (q + 1))
            case measure => have h1 := HLQ.out; have h2 := HQ.out; omega
            case rel =>
              refine ⟨q + 1, g6, by have := HLQ.out; omega, by go_num, HLq.out.trans (HL5.out.trans HL6.out), hid ?_⟩
              have := HB6.out
              rw [HTK.out, if_neg HQ0.out]
              simpa [List.append_assoc] using this
        · have hql : q = l.length := by omega
          subst hql
          have n2 : (bs ++ openF k ++ textFs true (l.take l.length)).length + (closeS k).size ≤ 140737488355328 := by have := HN.out; have := HN2.out.2; simp at *; omega
          go_wp2_with (first | (go_at_call 60; refine (writeString_any HBq.out (closeS k) n2).mono ?_; rintro e w4 ⟨rfl, hB4⟩; have HB4 := hid hB4; clear hB4) | fail)
          go_end0
          refine ⟨rfl, g2, HL.out.trans HLq.out, ?_⟩
          have := HB4.out
          rw [HE.out.2] at this
          simpa [textF, List.append_assoc] using this

theorem text_any {g : G} {r : VRow} {v : Val} (h : ValV g r v) : wfV v = true → TextSpec g r v := by
  induction h with
  | nil k b =>
    intro hw
    simp only [wfV, Bool.and_eq_true, decide_eq_true_eq] at hw
    exact text_row k b none 0 0 [] (.nil k b) (.inl ⟨rfl, rfl, rfl, rfl⟩) hw.1.1.1 hw.1.1.2 hw.1.2
  | row k b blk off cap l f hpos hcap hm hc hr ih =>
    intro hw
    simp only [wfV, Bool.and_eq_true, decide_eq_true_eq] at hw
    exact text_row k b _ l.length cap l (.row k b blk off cap l f hpos hcap hm hc hr) (.inr ⟨blk, off, f, rfl, rfl, hcap, hm, hc, fun i hi => ih i hi (wfVs_get hw.2 i hi)⟩) hw.1.1.1 hw.1.1.2 hw.1.2
end Go.Proofs.Ytjodmimnbpgfcaa

/- TextA -/
namespace Go.Proofs.Ytjodmimnbpgfcaa
open Go.RowKit Go.IntWalk

/-- A builder that the call has just laid. -/
theorem BldS.fresh {g : G} {w0 w : World} {g1 : G} (h : Grow g w0 g1 w) : BldS g w0 g1 w.heap.size [] (w.alloc (.cells #[.pointer none, .slice none 0 0] 84)) := by
  have hn : g1.blk w.heap.size = none := h.fut.none_of_size (Nat.le_refl _)
  exact ⟨none, .slice none 0 0, h.alloc _, h.size, heap_alloc_new _ _, .inl rfl, World.ownsRow_nil _ _ _ _, by simp [Value.ownBlock], hn, fun k hk => by simp [Value.ownBlock] at hk⟩

theorem textF_ne (v : Val) : textF v ≠ [] := by
  cases v with
  | mk k b l =>
    rw [textF]
    intro h
    have h1 := congrArg List.length h
    simp only [List.length_append, List.length_nil] at h1
    have : 0 < (openF k).length := by
      unfold openF
      repeat' split
      all_goals decide
    omega

set_option maxRecDepth 100000 in
set_option maxHeartbeats 2000000 in
theorem Text_any {g : G} {r : VRow} {v : Val} (h : ValV g r v) (hwf : wfV v = true) (hlen : (textF v).length ≤ 1000000) (w : World) (hw : Fut g w) :
    Calls Try.prog 18 #[r.val] w fun e w' => e = .returned (.string ⟨(textF v).toArray⟩) ∧ Grow g w g w' := by
  obtain ⟨g1, hg1, -, c0, c1, c2⟩ := box_val hw r
  have hf1 := hg1.fut
  have hB := BldS.fresh hg1
  have hcall := text_any h hwf g w g1 _ [] _ hg1.le hB (by simpa using hlen)
  have fa := fun o => hf1.alloc o
  unfold VRow.val at *
  simp only [List.nil_append, World.size_alloc] at hcall
  have HC := hid hcall
  clear hcall hB hg1
  go_enter Try.func18, Try.ntmps18
  go_wp2_with (first | (go_at_call 36; refine HC.out.mono ?_; rintro e w5 ⟨rfl, g6, hL6, hB6⟩; have hS := string_any hB6 (textF_ne v); have HS := hid hS; clear hS hB6 hL6) | (go_at_call 37; refine HS.out.mono ?_; rintro e w6 ⟨rfl, hg6⟩; have HG6 := hid hg6; clear hg6) | fail)
  go_ret
  exact ⟨rfl, HG6.out.forget⟩
end Go.Proofs.Ytjodmimnbpgfcaa

/- Awake -/
namespace Go.Proofs.Ytjodmimnbpgfcaa
open Go.RowKit Go.IntWalk

def chC (l : List UInt8) : Core := .mk 2 (ofF l) 0 []
def altC (a b : Core) : Core := .mk 4 set0 0 [a, b]
def seqC (a b : Core) : Core := .mk 3 set0 0 [a, b]
def starC (a : Core) : Core := .mk 5 set0 0 [a]
def epsC : Core := .mk 1 set0 0 []

theorem awake_all : allF (altC (chC [97]) (chC [97])) [97] 10 = ([.mk 4 0 [.mk 2 97 []], .mk 5 0 [.mk 2 97 []]], 0) := by
  kernel_rfl
theorem awake_good : wfC (altC (chC [97]) (chC [97])) = true ∧ nodes (altC (chC [97]) (chC [97])) ≤ 100000 := by
  refine ⟨by kernel_rfl, ?_⟩
  simp [altC, chC, nodes, nodesL]
theorem awake_t1 : textF (.mk 4 0 [.mk 2 97 []]) = [76, 54, 49] := by kernel_rfl
theorem awake_t2 : textF (.mk 5 0 [.mk 2 97 []]) = [82, 54, 49] := by kernel_rfl

theorem sl_bytes {g : G} {w : World} (hw : Fut g w) (l : List UInt8) : ∃ g1, Grow g w g1 (w.alloc (.cells (l.map byteV).toArray 5)) ∧ SliceV g1 (some ⟨w.heap.size, 0, none⟩) l.length l.length (l.map byteV) ∨ 9223372036854775807 < l.length := by
  by_cases hl : l.length ≤ 9223372036854775807
  · obtain ⟨g1, hg, hb⟩ := box1 hw (.cells (l.map byteV).toArray 5)
    refine ⟨g1, .inl ⟨hg, ?_⟩⟩
    have := SliceV.row (g := g1) w.heap.size 0 l.length (l.map byteV) (by simp) hl (fun w2 hw2 j v hi => by rw [Nat.zero_add]; exact fut_cell hb j v (by simpa using hi) w2 hw2)
    simpa using this
  · exact ⟨g, .inr (by omega)⟩
theorem sl_bytes' {g : G} {w : World} (hw : Fut g w) (l : List UInt8) (hl : l.length ≤ 1000) : ∃ g1, Grow g w g1 (w.alloc (.cells (l.map byteV).toArray 5)) ∧ SliceV g1 (some ⟨w.heap.size, 0, none⟩) l.length l.length (l.map byteV) := by
  obtain ⟨g1, h | h⟩ := sl_bytes hw l
  · exact ⟨g1, h⟩
  · omega

/-- '[]byte(..)' of a constant. -/
theorem sl_marked {g : G} {w : World} (hw : Fut g w) (l : List UInt8) (hl : l.length ≤ 1000) : ∃ g1, Grow g w g1 (w.alloc (.cells (l.map byteV).toArray 5 (l.length, l.length + 1))) ∧ SliceV g1 (some ⟨w.heap.size, 0, none⟩) l.length l.length (l.map byteV) := by
  obtain ⟨g1, hg, hb⟩ := box1 hw (.cells (l.map byteV).toArray 5 (l.length, l.length + 1))
  refine ⟨g1, hg, ?_⟩
  have := SliceV.row (g := g1) w.heap.size 0 l.length (l.map byteV) (by simp) (by omega) (fun w2 hw2 j v hi => by rw [Nat.zero_add]; exact fut_cell hb j v (by simpa using hi) w2 hw2)
  simpa using this
theorem conv_const (w : World) (C : Array Value) (n c : Nat) : (convert 28 28 (.slice (some ⟨w.heap.size, 0, none⟩) n c)).run Try.prog (w.alloc (.cells C 5)) = .ok (.slice (some ⟨w.heap.size, 0, none⟩) n c) (w.alloc (.cells C 5 (C.size, C.size + 1))) :=
  Lib.run_convert_bytes_const w 28 5 C n c Try.underlying28 Try.underlying5

/-- Two values of a slice. -/
theorem vals_two {g : G} {a : Option Addr} {n c : Nat} {x y : Val} (h : ValsV g a n c [x, y]) : ∃ b off r q, a = some ⟨b, off, none⟩ ∧ n = 2 ∧ VCells g b off r ∧ ValV g r x ∧ VCells g b (off + 3) q ∧ ValV g q y := by
  unfold ValsV at h
  cases h with
  | row _ _ blk off _ _ f hpos hcap hm hc hr =>
    have h0 := hc 0 (by simp)
    have h1 := hc 1 (by simp)
    simp only [Nat.zero_mul, Nat.add_zero, Nat.one_mul] at h0 h1
    exact ⟨blk, off, f 0, f 1, rfl, rfl, h0, hr 0 (by simp), h1, hr 1 (by simp)⟩

set_option maxRecDepth 100000 in
set_option maxHeartbeats 4000000 in
theorem awake_any {g : G} (w : World) (hw : Fut g w) : Calls Try.prog 6 #[] w fun e w' => e = .returned (.bool true) ∧ Grow g w g w' := by
  obtain ⟨g1, hg1, hs1⟩ := sl_bytes' hw [97] (by simp)
  have hc1 := ch_any hs1 _ hg1.fut
  simp only [List.map_cons, List.map_nil, byteV] at hg1 hc1
  have HC1 := hid hc1
  have HG1 := hid hg1
  clear hc1 hg1 hs1
  go_enter Try.func6, Try.ntmps6
  go_wp2_with (first | (go_at_call 13; refine HC1.out.mono ?_) | fail)
  rintro e w2 ⟨r1, rfl, hg2, hv1⟩
  obtain ⟨g3, hg3, hs3⟩ := sl_bytes' hg2.fut [97] (by simp)
  have hc2 := ch_any hs3 _ hg3.fut
  simp only [List.map_cons, List.map_nil, byteV] at hg3 hc2
  have HC2 := hid hc2
  have HG3 := hid ((HG1.out.trans hg2).trans hg3)
  have HV1 := hid (hv1.le hg3.le)
  clear hc2 hg3 hs3 hg2 hv1 HC1 HG1
  go_wp2_with (first | (go_at_call 13; refine HC2.out.mono ?_) | fail)
  rintro e w4 ⟨r2, rfl, hg4, hv2⟩
  have hc3 := alt_any HV1.out hv2 w4 hg4.fut
  have HC3 := hid hc3
  have HG4 := hid (HG3.out.trans hg4)
  clear hc3 hg4 hv2 HC2 HG3 HV1
  go_wp2_with (first | (go_at_call 16; refine HC3.out.mono ?_) | fail)
  rintro e w5 ⟨g5, x, rfl, hg5, hx⟩
  obtain ⟨g6, hg6, hs6⟩ := sl_marked hg5.fut [97] (by simp)
  have kc := conv_const w5 #[.int .u8 97] 1 1
  have hall := all_any (s := [97]) (hx.le hg6.le) hs6 (fun _ => awake_good) 10 _ hg6.fut
  have e1 : Core.mk 4 set0 0 [.mk 2 (ofF [97]) 0 [], .mk 2 (ofF [97]) 0 []] = altC (chC [97]) (chC [97]) := rfl
  rw [e1] at hall
  simp only [awake_all] at hall
  simp only [List.map_cons, List.map_nil, byteV, List.length_cons, List.length_nil, Nat.zero_add, Nat.reduceAdd] at hg6 hall
  have HALL := hid hall
  have HG6 := hid ((HG4.out.trans hg5).trans hg6)
  clear hall hg6 hs6 hg5 hx HC3 HG4 e1
  go_wp2_with (first | (go_at_call 14; refine HALL.out.mono ?_) | fail)
  rintro e w7 ⟨g7, la, lc, rfl, hg7, hv7⟩
  obtain ⟨b, off, r, q, rfl, -, ⟨c0, c1, c2⟩, hr, ⟨d0, d1, d2⟩, hq⟩ := vals_two hv7
  have hf7 := hg7.fut
  have ht1 := fun w' hf => Text_any hr (by kernel_rfl) (by rw [awake_t1]; simp) w' hf
  have ht2 := fun w' hf => Text_any hq (by kernel_rfl) (by rw [awake_t2]; simp) w' hf
  rw [awake_t1] at ht1
  rw [awake_t2] at ht2
  unfold VRow.val at ht1 ht2
  have HT1 := hid ht1
  have HT2 := hid ht2
  have HG7 := hid (HG6.out.trans hg7)
  clear ht1 ht2 hg7 hv7 hr hq HALL HG6
  go_wp2_with (first | (go_at_call 18; refine (HT1.out _ hf7).mono ?_; rintro e w8 ⟨rfl, hg8⟩; have HG8 := hid hg8; have hf8 := hg8.fut; clear hg8 HT1) | (go_at_call 18; refine (HT2.out _ hf8).mono ?_; rintro e w9 ⟨rfl, hg9⟩; have HG9 := hid hg9; clear hg9) | fail)
  go_ret
  exact ⟨rfl, ((HG7.out.trans HG8.out).trans HG9.out).forget⟩
end Go.Proofs.Ytjodmimnbpgfcaa
