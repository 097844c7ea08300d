/- The reference's Bits, walked. A library text: no claim is stated here. The reference's Eager, walked. A library text: no claim is stated here. All ways of saying a text come in the strict order of their bits. Plain Lean, no program. A library text: no claim is stated here. -/
import Derived.Test.YtjodmimnbpgfcaaS12

/- RefX -/
namespace Go.Proofs.Ytjodmimnbpgfcaa
open Go.RowKit Go.IntWalk

mutual
def shapeV : Val → Bool
  | .mk k _ l => decide ((l.length : Int) = partsV k l.length) && shapeL l
def shapeL : List Val → Bool
  | [] => true
  | x :: r => shapeV x && shapeL r
end
mutual
def bitsV : Val → List UInt8
  | .mk k _ l => (if k = 4 then [48] else if k = 5 then [49] else []) ++ bitsL (decide (k = 6)) l ++ (if k = 6 then [49] else [])
def bitsL : Bool → List Val → List UInt8
  | _, [] => []
  | s, x :: r => (if s then [48] else []) ++ bitsV x ++ bitsL s r
end
theorem bitsL_snoc (s : Bool) : ∀ (l : List Val) (x : Val), bitsL s (l ++ [x]) = bitsL s l ++ ((if s then [48] else []) ++ bitsV x)
  | [], x => by simp [bitsL]
  | y :: r, x => by simp only [List.cons_append, bitsL, bitsL_snoc s r x, List.append_assoc]
theorem bitsL_take (s : Bool) {l : List Val} {q : Nat} (hq : q < l.length) : bitsL s (l.take (q + 1)) = bitsL s (l.take q) ++ ((if s then [48] else []) ++ bitsV l[q]) := by
  rw [List.take_succ_eq_append_getElem hq, bitsL_snoc]
theorem shapeL_at : ∀ {l : List Val} {q : Nat} (hq : q < l.length), shapeL l = true → shapeV l[q] = true
  | x :: r, 0, _, h => by simp only [shapeL, Bool.and_eq_true] at h; exact h.1
  | x :: r, q + 1, hq, h => by simp only [shapeL, Bool.and_eq_true] at h; exact shapeL_at (l := r) (by simpa using hq) h.2
theorem bitsL_part (s : Bool) : ∀ {l : List Val} (q : Nat), (bitsL s (l.take q)).length ≤ (bitsL s l).length
  | [], q => by simp
  | x :: r, 0 => by simp [bitsL]
  | x :: r, q + 1 => by
    have := bitsL_part s (l := r) q
    simp only [List.take_succ_cons, bitsL, List.length_append]
    omega
theorem str_app (a b : List UInt8) : (⟨a.toArray⟩ : ByteArray) ++ ⟨b.toArray⟩ = ⟨(a ++ b).toArray⟩ := by
  apply ByteArray.ext
  simp

def preB (k : Int) : List UInt8 := if k = 4 then [48] else if k = 5 then [49] else []

set_option maxRecDepth 20000 in
set_option maxHeartbeats 1000000 in
theorem bits_four {g : G} (k b : Int) (a : Option Addr) (c : Nat) (l : List Val) (hk : k = 4) (hcap : l.length ≤ c) (hmax : c ≤ 9223372036854775807) (ha : (a = none ∧ l.length = 0 ∧ c = 0) ∨ ∃ blk off, a = some ⟨blk, off, none⟩) (hp : (l.length : Int) = partsV k l.length)
    (hlen : (bitsL false l).length ≤ 1000000)
    (hR : ∀ q (hq : q < l.length), ∃ blk off x, a = some ⟨blk, off, none⟩ ∧ VCells g blk (off + q * 3) x ∧ ∀ g', g.Le g' → ∀ w, Fut g' w → Calls Try.prog 66 #[x.val] w fun e w' => e = .returned (.string ⟨(bitsV l[q]).toArray⟩) ∧ Grow g' w g' w')
    (w : World) (hw : Fut g w) : Calls Try.prog 66 #[VRow.val ⟨k, b, a, l.length, c⟩] w fun e w' => e = .returned (.string ⟨(([48] : List UInt8) ++ bitsL false l ++ ([] : List UInt8)).toArray⟩) ∧ Grow g w g w' := by
  obtain ⟨g1, hg1, e1⟩ := box1 hw (.cells #[.int .i64 k, .int .u8 b, .slice a l.length c] 61)
  have a0 := fut_cell e1 0 _ rfl
  have a1 := fut_cell e1 1 _ rfl
  have a2 := fut_cell e1 2 _ rfl
  have hf1 := hg1.fut
  have hc := counts_row k b a l.length c hcap hmax ha hp _ hf1
  have HC := hid hc
  have HG := hid hg1
  have HR := hid hR
  have HLEN := hid hlen
  have hle := hid hg1.le
  have h4 : (k == 4) = true := by simp [hk]
  have h6 : (k == 6) = false := by simp [hk]
  unfold VRow.val at HC ⊢
  clear hc hg1 hR e1 ha hp hlen hk
  go_enter Try.func66, Try.ntmps66
  go_wp2_with (first | (go_at_call 84; refine HC.out.mono ?_; rintro e w2 ⟨rfl, hg2⟩; have HG2 := hid (HG.out.trans hg2); have hf2 := hg2.fut; clear hg2 HC HG) | fail)
  go_loopg [3, 5] l.length (fun rem sv i wr => ∃ q : Nat, q + rem = l.length ∧ i = .int .i64 q ∧ sv = .string ⟨(([48] : List UInt8) ++ bitsL false (l.take q)).toArray⟩ ∧ Hid (Grow g w g1 wr))
  case atStart => exact ⟨0, by omega, rfl, by simp [bitsL], HG2.out⟩
  case round =>
    obtain ⟨q, hq, rfl, rfl, HGr⟩ := hrel
    have hfr := HGr.out.fut
    by_cases hlt : q < l.length
    · obtain ⟨blk, off, x, rfl, ⟨x0, x1, x2⟩, ih⟩ := HR.out q hlt
      have X0 := fun w' (hf : Fut g1 w') => x0 w' (hf.le hle.out)
      have X1 := fun w' (hf : Fut g1 w') => x1 w' (hf.le hle.out)
      have X2 := fun w' (hf : Fut g1 w') => x2 w' (hf.le hle.out)
      have IH := ih g1 hle.out wr hfr
      unfold VRow.val at IH
      have IHH := hid IH
      have hst := bitsL_take false hlt
      have hpt := bitsL_part false (l := l) (q + 1)
      generalize hB1 : bitsL false (l.take (q + 1)) = B1 at hst hpt
      have HB1 := hid hB1
      clear hB1
      generalize bitsV l[q] = bv at hst IHH
      generalize bitsL false (l.take q) = B0 at *
      have hlb : B1.length ≤ 1000000 := by have := HLEN.out; omega
      have HST := hid hst
      have hs1 : ¬ 9223372036854775807 < B0.length + 1 := by rw [hst] at hlb; simp only [List.length_append] at hlb; omega
      have hs2 : ¬ 9223372036854775807 < B0.length + 1 + 1 := by rw [hst] at hlb; simp only [List.length_append] at hlb; omega
      have hs3 : ¬ 9223372036854775807 < B0.length + 1 + bv.length := by rw [hst] at hlb; simp only [List.length_append] at hlb; omega
      have hs4 : ¬ 9223372036854775807 < B0.length + bv.length := by rw [hst] at hlb; simp only [List.length_append] at hlb; omega
      have HQ := hid hq
      have HLT := hid hlt
      have hqi : (q : Int) < (l.length : Int) := by omega
      clear x0 x1 x2 ih IH hst hpt hlb
      go_wp2_with (first | (go_at_call 66; refine IHH.out.mono ?_; rintro e w3 ⟨rfl, hg3⟩; have HG3 := hid (HGr.out.trans hg3); clear hg3) | fail)
      go_roundg (l.length - (q + 1))
      case measure => have h1 := HLT.out; have h2 := HQ.out; omega
      case rel => exact ⟨q + 1, by have := HLT.out; omega, by go_num, by rw [HB1.out, HST.out]; simp [str_app], HG3.out⟩
    · obtain rfl : q = l.length := by omega
      rw [List.take_length]
      have hs5 : ¬ 9223372036854775807 < (bitsL false l).length + 1 := by have := HLEN.out; omega
      generalize hB : bitsL false l = B at hs5
      have HB := hid hB
      try simp only [hB]
      clear hB
      go_wp2_with fail
      go_ret
      exact ⟨by rw [HB.out]; simp, HGr.out.forget⟩
set_option maxRecDepth 20000 in
set_option maxHeartbeats 1000000 in
theorem bits_five {g : G} (k b : Int) (a : Option Addr) (c : Nat) (l : List Val) (hk : k = 5) (hcap : l.length ≤ c) (hmax : c ≤ 9223372036854775807) (ha : (a = none ∧ l.length = 0 ∧ c = 0) ∨ ∃ blk off, a = some ⟨blk, off, none⟩) (hp : (l.length : Int) = partsV k l.length)
    (hlen : (bitsL false l).length ≤ 1000000)
    (hR : ∀ q (hq : q < l.length), ∃ blk off x, a = some ⟨blk, off, none⟩ ∧ VCells g blk (off + q * 3) x ∧ ∀ g', g.Le g' → ∀ w, Fut g' w → Calls Try.prog 66 #[x.val] w fun e w' => e = .returned (.string ⟨(bitsV l[q]).toArray⟩) ∧ Grow g' w g' w')
    (w : World) (hw : Fut g w) : Calls Try.prog 66 #[VRow.val ⟨k, b, a, l.length, c⟩] w fun e w' => e = .returned (.string ⟨(([49] : List UInt8) ++ bitsL false l ++ ([] : List UInt8)).toArray⟩) ∧ Grow g w g w' := by
  obtain ⟨g1, hg1, e1⟩ := box1 hw (.cells #[.int .i64 k, .int .u8 b, .slice a l.length c] 61)
  have a0 := fut_cell e1 0 _ rfl
  have a1 := fut_cell e1 1 _ rfl
  have a2 := fut_cell e1 2 _ rfl
  have hf1 := hg1.fut
  have hc := counts_row k b a l.length c hcap hmax ha hp _ hf1
  have HC := hid hc
  have HG := hid hg1
  have HR := hid hR
  have HLEN := hid hlen
  have hle := hid hg1.le
  have h4 : (k == 4) = false := by simp [hk]
  have h5 : (k == 5) = true := by simp [hk]
  have h6 : (k == 6) = false := by simp [hk]
  unfold VRow.val at HC ⊢
  clear hc hg1 hR e1 ha hp hlen hk
  go_enter Try.func66, Try.ntmps66
  go_wp2_with (first | (go_at_call 84; refine HC.out.mono ?_; rintro e w2 ⟨rfl, hg2⟩; have HG2 := hid (HG.out.trans hg2); have hf2 := hg2.fut; clear hg2 HC HG) | fail)
  go_loopg [3, 5] l.length (fun rem sv i wr => ∃ q : Nat, q + rem = l.length ∧ i = .int .i64 q ∧ sv = .string ⟨(([49] : List UInt8) ++ bitsL false (l.take q)).toArray⟩ ∧ Hid (Grow g w g1 wr))
  case atStart => exact ⟨0, by omega, rfl, by simp [bitsL], HG2.out⟩
  case round =>
    obtain ⟨q, hq, rfl, rfl, HGr⟩ := hrel
    have hfr := HGr.out.fut
    by_cases hlt : q < l.length
    · obtain ⟨blk, off, x, rfl, ⟨x0, x1, x2⟩, ih⟩ := HR.out q hlt
      have X0 := fun w' (hf : Fut g1 w') => x0 w' (hf.le hle.out)
      have X1 := fun w' (hf : Fut g1 w') => x1 w' (hf.le hle.out)
      have X2 := fun w' (hf : Fut g1 w') => x2 w' (hf.le hle.out)
      have IH := ih g1 hle.out wr hfr
      unfold VRow.val at IH
      have IHH := hid IH
      have hst := bitsL_take false hlt
      have hpt := bitsL_part false (l := l) (q + 1)
      generalize hB1 : bitsL false (l.take (q + 1)) = B1 at hst hpt
      have HB1 := hid hB1
      clear hB1
      generalize bitsV l[q] = bv at hst IHH
      generalize bitsL false (l.take q) = B0 at *
      have hlb : B1.length ≤ 1000000 := by have := HLEN.out; omega
      have HST := hid hst
      have hs1 : ¬ 9223372036854775807 < B0.length + 1 := by rw [hst] at hlb; simp only [List.length_append] at hlb; omega
      have hs2 : ¬ 9223372036854775807 < B0.length + 1 + 1 := by rw [hst] at hlb; simp only [List.length_append] at hlb; omega
      have hs3 : ¬ 9223372036854775807 < B0.length + 1 + bv.length := by rw [hst] at hlb; simp only [List.length_append] at hlb; omega
      have hs4 : ¬ 9223372036854775807 < B0.length + bv.length := by rw [hst] at hlb; simp only [List.length_append] at hlb; omega
      have HQ := hid hq
      have HLT := hid hlt
      have hqi : (q : Int) < (l.length : Int) := by omega
      clear x0 x1 x2 ih IH hst hpt hlb
      go_wp2_with (first | (go_at_call 66; refine IHH.out.mono ?_; rintro e w3 ⟨rfl, hg3⟩; have HG3 := hid (HGr.out.trans hg3); clear hg3) | fail)
      go_roundg (l.length - (q + 1))
      case measure => have h1 := HLT.out; have h2 := HQ.out; omega
      case rel => exact ⟨q + 1, by have := HLT.out; omega, by go_num, by rw [HB1.out, HST.out]; simp [str_app], HG3.out⟩
    · obtain rfl : q = l.length := by omega
      rw [List.take_length]
      have hs5 : ¬ 9223372036854775807 < (bitsL false l).length + 1 := by have := HLEN.out; omega
      generalize hB : bitsL false l = B at hs5
      have HB := hid hB
      try simp only [hB]
      clear hB
      go_wp2_with fail
      go_ret
      exact ⟨by rw [HB.out]; simp, HGr.out.forget⟩
set_option maxRecDepth 20000 in
set_option maxHeartbeats 1000000 in
theorem bits_else {g : G} (k b : Int) (a : Option Addr) (c : Nat) (l : List Val) (hk : k ≠ 4 ∧ k ≠ 5 ∧ k ≠ 6) (hcap : l.length ≤ c) (hmax : c ≤ 9223372036854775807) (ha : (a = none ∧ l.length = 0 ∧ c = 0) ∨ ∃ blk off, a = some ⟨blk, off, none⟩) (hp : (l.length : Int) = partsV k l.length)
    (hlen : (bitsL false l).length ≤ 1000000)
    (hR : ∀ q (hq : q < l.length), ∃ blk off x, a = some ⟨blk, off, none⟩ ∧ VCells g blk (off + q * 3) x ∧ ∀ g', g.Le g' → ∀ w, Fut g' w → Calls Try.prog 66 #[x.val] w fun e w' => e = .returned (.string ⟨(bitsV l[q]).toArray⟩) ∧ Grow g' w g' w')
    (w : World) (hw : Fut g w) : Calls Try.prog 66 #[VRow.val ⟨k, b, a, l.length, c⟩] w fun e w' => e = .returned (.string ⟨(([] : List UInt8) ++ bitsL false l ++ ([] : List UInt8)).toArray⟩) ∧ Grow g w g w' := by
  obtain ⟨g1, hg1, e1⟩ := box1 hw (.cells #[.int .i64 k, .int .u8 b, .slice a l.length c] 61)
  have a0 := fut_cell e1 0 _ rfl
  have a1 := fut_cell e1 1 _ rfl
  have a2 := fut_cell e1 2 _ rfl
  have hf1 := hg1.fut
  have hc := counts_row k b a l.length c hcap hmax ha hp _ hf1
  have HC := hid hc
  have HG := hid hg1
  have HR := hid hR
  have HLEN := hid hlen
  have hle := hid hg1.le
  have h4 : (k == 4) = false := by simp [hk.1]
  have h5 : (k == 5) = false := by simp [hk.2.1]
  have h6 : (k == 6) = false := by simp [hk.2.2]
  unfold VRow.val at HC ⊢
  clear hc hg1 hR e1 ha hp hlen hk
  go_enter Try.func66, Try.ntmps66
  go_wp2_with (first | (go_at_call 84; refine HC.out.mono ?_; rintro e w2 ⟨rfl, hg2⟩; have HG2 := hid (HG.out.trans hg2); have hf2 := hg2.fut; clear hg2 HC HG) | fail)
  go_loopg [3, 5] l.length (fun rem sv i wr => ∃ q : Nat, q + rem = l.length ∧ i = .int .i64 q ∧ sv = .string ⟨(([] : List UInt8) ++ bitsL false (l.take q)).toArray⟩ ∧ Hid (Grow g w g1 wr))
  case atStart => exact ⟨0, by omega, rfl, by simp [bitsL], HG2.out⟩
  case round =>
    obtain ⟨q, hq, rfl, rfl, HGr⟩ := hrel
    have hfr := HGr.out.fut
    by_cases hlt : q < l.length
    · obtain ⟨blk, off, x, rfl, ⟨x0, x1, x2⟩, ih⟩ := HR.out q hlt
      have X0 := fun w' (hf : Fut g1 w') => x0 w' (hf.le hle.out)
      have X1 := fun w' (hf : Fut g1 w') => x1 w' (hf.le hle.out)
      have X2 := fun w' (hf : Fut g1 w') => x2 w' (hf.le hle.out)
      have IH := ih g1 hle.out wr hfr
      unfold VRow.val at IH
      have IHH := hid IH
      have hst := bitsL_take false hlt
      have hpt := bitsL_part false (l := l) (q + 1)
      generalize hB1 : bitsL false (l.take (q + 1)) = B1 at hst hpt
      have HB1 := hid hB1
      clear hB1
      generalize bitsV l[q] = bv at hst IHH
      generalize bitsL false (l.take q) = B0 at *
      have hlb : B1.length ≤ 1000000 := by have := HLEN.out; omega
      have HST := hid hst
      have hs1 : ¬ 9223372036854775807 < B0.length + 1 := by rw [hst] at hlb; simp only [List.length_append] at hlb; omega
      have hs2 : ¬ 9223372036854775807 < B0.length + 1 + 1 := by rw [hst] at hlb; simp only [List.length_append] at hlb; omega
      have hs3 : ¬ 9223372036854775807 < B0.length + 1 + bv.length := by rw [hst] at hlb; simp only [List.length_append] at hlb; omega
      have hs4 : ¬ 9223372036854775807 < B0.length + bv.length := by rw [hst] at hlb; simp only [List.length_append] at hlb; omega
      have HQ := hid hq
      have HLT := hid hlt
      have hqi : (q : Int) < (l.length : Int) := by omega
      clear x0 x1 x2 ih IH hst hpt hlb
      go_wp2_with (first | (go_at_call 66; refine IHH.out.mono ?_; rintro e w3 ⟨rfl, hg3⟩; have HG3 := hid (HGr.out.trans hg3); clear hg3) | fail)
      go_roundg (l.length - (q + 1))
      case measure => have h1 := HLT.out; have h2 := HQ.out; omega
      case rel => exact ⟨q + 1, by have := HLT.out; omega, by go_num, by rw [HB1.out, HST.out]; simp [str_app], HG3.out⟩
    · obtain rfl : q = l.length := by omega
      rw [List.take_length]
      have hs5 : ¬ 9223372036854775807 < (bitsL false l).length + 1 := by have := HLEN.out; omega
      generalize hB : bitsL false l = B at hs5
      have HB := hid hB
      try simp only [hB]
      clear hB
      go_wp2_with fail
      go_ret
      exact ⟨by rw [HB.out]; simp, HGr.out.forget⟩
set_option maxRecDepth 20000 in
set_option maxHeartbeats 1000000 in
theorem bits_six {g : G} (k b : Int) (a : Option Addr) (c : Nat) (l : List Val) (hk : k = 6) (hcap : l.length ≤ c) (hmax : c ≤ 9223372036854775807) (ha : (a = none ∧ l.length = 0 ∧ c = 0) ∨ ∃ blk off, a = some ⟨blk, off, none⟩) (hp : (l.length : Int) = partsV k l.length)
    (hlen : (bitsL true l).length ≤ 1000000)
    (hR : ∀ q (hq : q < l.length), ∃ blk off x, a = some ⟨blk, off, none⟩ ∧ VCells g blk (off + q * 3) x ∧ ∀ g', g.Le g' → ∀ w, Fut g' w → Calls Try.prog 66 #[x.val] w fun e w' => e = .returned (.string ⟨(bitsV l[q]).toArray⟩) ∧ Grow g' w g' w')
    (w : World) (hw : Fut g w) : Calls Try.prog 66 #[VRow.val ⟨k, b, a, l.length, c⟩] w fun e w' => e = .returned (.string ⟨(([] : List UInt8) ++ bitsL true l ++ [49]).toArray⟩) ∧ Grow g w g w' := by
  obtain ⟨g1, hg1, e1⟩ := box1 hw (.cells #[.int .i64 k, .int .u8 b, .slice a l.length c] 61)
  have a0 := fut_cell e1 0 _ rfl
  have a1 := fut_cell e1 1 _ rfl
  have a2 := fut_cell e1 2 _ rfl
  have hf1 := hg1.fut
  have hc := counts_row k b a l.length c hcap hmax ha hp _ hf1
  have HC := hid hc
  have HG := hid hg1
  have HR := hid hR
  have HLEN := hid hlen
  have hle := hid hg1.le
  have h4 : (k == 4) = false := by simp [hk]
  have h5 : (k == 5) = false := by simp [hk]
  have h6 : (k == 6) = true := by simp [hk]
  unfold VRow.val at HC ⊢
  clear hc hg1 hR e1 ha hp hlen hk
  go_enter Try.func66, Try.ntmps66
  go_wp2_with (first | (go_at_call 84; refine HC.out.mono ?_; rintro e w2 ⟨rfl, hg2⟩; have HG2 := hid (HG.out.trans hg2); have hf2 := hg2.fut; clear hg2 HC HG) | fail)
  go_loopg [3, 5] l.length (fun rem sv i wr => ∃ q : Nat, q + rem = l.length ∧ i = .int .i64 q ∧ sv = .string ⟨(([] : List UInt8) ++ bitsL true (l.take q)).toArray⟩ ∧ Hid (Grow g w g1 wr))
  case atStart => exact ⟨0, by omega, rfl, by simp [bitsL], HG2.out⟩
  case round =>
    obtain ⟨q, hq, rfl, rfl, HGr⟩ := hrel
    have hfr := HGr.out.fut
    by_cases hlt : q < l.length
    · obtain ⟨blk, off, x, rfl, ⟨x0, x1, x2⟩, ih⟩ := HR.out q hlt
      have X0 := fun w' (hf : Fut g1 w') => x0 w' (hf.le hle.out)
      have X1 := fun w' (hf : Fut g1 w') => x1 w' (hf.le hle.out)
      have X2 := fun w' (hf : Fut g1 w') => x2 w' (hf.le hle.out)
      have IH := ih g1 hle.out wr hfr
      unfold VRow.val at IH
      have IHH := hid IH
      have hst := bitsL_take true hlt
      have hpt := bitsL_part true (l := l) (q + 1)
      generalize hB1 : bitsL true (l.take (q + 1)) = B1 at hst hpt
      have HB1 := hid hB1
      clear hB1
      generalize bitsV l[q] = bv at hst IHH
      generalize bitsL true (l.take q) = B0 at *
      have hlb : B1.length ≤ 1000000 := by have := HLEN.out; omega
      have HST := hid hst
      have hs1 : ¬ 9223372036854775807 < B0.length + 1 := by rw [hst] at hlb; simp only [List.length_append] at hlb; omega
      have hs2 : ¬ 9223372036854775807 < B0.length + 1 + 1 := by rw [hst] at hlb; simp only [List.length_append] at hlb; omega
      have hs3 : ¬ 9223372036854775807 < B0.length + 1 + bv.length := by rw [hst] at hlb; simp only [List.length_append] at hlb; omega
      have hs4 : ¬ 9223372036854775807 < B0.length + bv.length := by rw [hst] at hlb; simp only [List.length_append] at hlb; omega
      have HQ := hid hq
      have HLT := hid hlt
      have hqi : (q : Int) < (l.length : Int) := by omega
      clear x0 x1 x2 ih IH hst hpt hlb
      go_wp2_with (first | (go_at_call 66; refine IHH.out.mono ?_; rintro e w3 ⟨rfl, hg3⟩; have HG3 := hid (HGr.out.trans hg3); clear hg3) | fail)
      go_roundg (l.length - (q + 1))
      case measure => have h1 := HLT.out; have h2 := HQ.out; omega
      case rel => exact ⟨q + 1, by have := HLT.out; omega, by go_num, by rw [HB1.out, HST.out]; simp [str_app], HG3.out⟩
    · obtain rfl : q = l.length := by omega
      rw [List.take_length]
      have hs5 : ¬ 9223372036854775807 < (bitsL true l).length + 1 := by have := HLEN.out; omega
      generalize hB : bitsL true l = B at hs5
      have HB := hid hB
      try simp only [hB]
      clear hB
      go_wp2_with fail
      go_ret
      exact ⟨by rw [HB.out]; simp [str_app], HGr.out.forget⟩
theorem ValV.addr {g : G} {r : VRow} {v : Val} (h : ValV g r v) : (r.a = none ∧ r.len = 0 ∧ r.cap = 0) ∨ ∃ blk off, r.a = some ⟨blk, off, none⟩ := by
  cases h with
  | nil k b => exact .inl ⟨rfl, rfl, rfl⟩
  | row k b blk off cap l f hpos hcap hm hc hr => exact .inr ⟨blk, off, rfl⟩
theorem bitsV_part {s : Bool} : ∀ {l : List Val} {q : Nat} (hq : q < l.length), (bitsV l[q]).length ≤ (bitsL s l).length
  | x :: r, 0, _ => by simp only [bitsL, List.length_append, List.getElem_cons_zero]; omega
  | x :: r, q + 1, hq => by
    have := bitsV_part (s := s) (l := r) (q := q) (by simpa using hq)
    simp only [bitsL, List.length_append, List.getElem_cons_succ]
    omega

theorem bits_any {g : G} {r : VRow} {v : Val} (hv : ValV g r v) : ∀ g', g.Le g' → shapeV v = true → (bitsV v).length ≤ 1000000 → ∀ w, Fut g' w →
    Calls Try.prog 66 #[r.val] w fun e w' => e = .returned (.string ⟨(bitsV v).toArray⟩) ∧ Grow g' w g' w' := by
  refine (hv.step (motive := fun r v => ValV g r v → ∀ g', g.Le g' → shapeV v = true → (bitsV v).length ≤ 1000000 → ∀ w, Fut g' w → Calls Try.prog 66 #[r.val] w fun e w' => e = .returned (.string ⟨(bitsV v).toArray⟩) ∧ Grow g' w g' w') ?_) hv
  intro k b a c l hcap hmax re hv g' hle hsh hlen w hw
  have ha := hv.addr
  simp only [shapeV, Bool.and_eq_true, decide_eq_true_eq] at hsh
  obtain ⟨hp, hshl⟩ := hsh
  have hbl : (bitsL (decide (k = 6)) l).length ≤ 1000000 := by
    simp only [bitsV, List.length_append] at hlen
    omega
  have hR : ∀ q (hq : q < l.length), ∃ blk off x, a = some ⟨blk, off, none⟩ ∧ VCells g' blk (off + q * 3) x ∧ ∀ g'', g'.Le g'' → ∀ w, Fut g'' w → Calls Try.prog 66 #[x.val] w fun e w' => e = .returned (.string ⟨(bitsV l[q]).toArray⟩) ∧ Grow g'' w g'' w' := by
    intro q hq
    obtain ⟨blk, off, x, h1, h2, h3, ih⟩ := re q hq
    exact ⟨blk, off, x, h1, h2.le hle, fun g'' h4 w hw => ih h3 g'' (hle.trans h4) (shapeL_at hq hshl) (by have := bitsV_part (s := decide (k = 6)) hq; omega) w hw⟩
  rw [bitsV]
  by_cases h6 : k = 6
  · have e : decide (k = 6) = true := by simpa using h6
    rw [e] at hbl ⊢
    have := bits_six k b a c l h6 hcap hmax ha hp hbl hR w hw
    have n4 : k ≠ 4 := by omega
    have n5 : k ≠ 5 := by omega
    rw [if_neg n4, if_neg n5, if_pos h6]
    exact this
  · have e : decide (k = 6) = false := by simpa using h6
    rw [e] at hbl ⊢
    rw [if_neg h6]
    by_cases h4 : k = 4
    · rw [if_pos h4]
      exact bits_four k b a c l h4 hcap hmax ha hp hbl hR w hw
    · rw [if_neg h4]
      by_cases h5 : k = 5
      · rw [if_pos h5]
        exact bits_five k b a c l h5 hcap hmax ha hp hbl hR w hw
      · rw [if_neg h5]
        exact bits_else k b a c l ⟨h4, h5, h6⟩ hcap hmax ha hp hbl hR w hw
end Go.Proofs.Ytjodmimnbpgfcaa

/- RefY -/
namespace Go.Proofs.Ytjodmimnbpgfcaa
open Go.RowKit Go.IntWalk

def eagerF (v u : Val) : Int := if Op.bytesLess (bitsV v) (bitsV u) then -1 else if bitsV v == bitsV u then 0 else 1

set_option maxRecDepth 20000 in
set_option maxHeartbeats 4000000 in
theorem eager_any {g : G} {r q : VRow} {v u : Val} (hv : ValV g r v) (hu : ValV g q u) (sv : shapeV v = true) (su : shapeV u = true) (lv : (bitsV v).length ≤ 1000000) (lu : (bitsV u).length ≤ 1000000) (w : World) (hw : Fut g w) :
    Calls Try.prog 41 #[r.val, q.val] w fun e w' => e = .returned (.int .i64 (eagerF v u)) ∧ Grow g w g w' := by
  obtain ⟨g1, hg1, e1, e2⟩ := box2 hw (.cells #[.int .i64 r.k, .int .u8 r.b, .slice r.a r.len r.cap] 61) (.cells #[.int .i64 q.k, .int .u8 q.b, .slice q.a q.len q.cap] 61)
  have a0 := fut_cell e1 0 _ rfl
  have a1 := fut_cell e1 1 _ rfl
  have a2 := fut_cell e1 2 _ rfl
  have b0 := fut_cell e2 0 _ rfl
  have b1 := fut_cell e2 1 _ rfl
  have b2 := fut_cell e2 2 _ rfl
  have hf1 := hg1.fut
  have HB1 := hid (fun w' (hf : Fut g1 w') => bits_any hv g1 hg1.le sv lv w' hf)
  have HB2 := hid (fun w' (hf : Fut g1 w') => bits_any hu g1 hg1.le su lu w' hf)
  have HG := hid hg1
  unfold VRow.val at *
  unfold eagerF
  generalize bitsV v = x at *
  generalize bitsV u = y at *
  clear hg1 e1 e2 hv hu
  cases h1 : Op.bytesLess x y <;> cases h2 : (x == y)
  all_goals
    go_enter Try.func41, Try.ntmps41
    go_wp2_with fail
    refine wp_region_cls (g := g1) (w0 := (w.alloc (.cells #[.int .i64 r.k, .int .u8 r.b, .slice r.a r.len r.cap] 61)).alloc (.cells #[.int .i64 q.k, .int .u8 q.b, .slice q.a q.len q.cap] 61)) (by kernel_rfl) (by kernel_rfl) (Grow.refl hf1) ?_
    have hx : ∀ z : Wg g1 ((w.alloc (.cells #[.int .i64 r.k, .int .u8 r.b, .slice r.a r.len r.cap] 61)).alloc (.cells #[.int .i64 q.k, .int .u8 q.b, .slice q.a q.len q.cap] 61)), Fut g1 z.w := fun z => z.h.fut
    have hne : Nonempty (Wg g1 ((w.alloc (.cells #[.int .i64 r.k, .int .u8 r.b, .slice r.a r.len r.cap] 61)).alloc (.cells #[.int .i64 q.k, .int .u8 q.b, .slice q.a q.len q.cap] 61))) := ⟨⟨_, Grow.refl hf1⟩⟩
    go_big_quiet_step (fail)
    go_big_quiet_step (exact quiet_grow (HB1.out _ (hx _)))
    go_big_quiet_step (fail)
    go_big_quiet_step (exact quiet_grow (HB2.out _ (hx _)))
    repeat (go_big_quiet_step (fail))
    refine wpQuiet_nil ?_
    rintro wa ⟨⟨_, hga⟩, rfl⟩
    have HGA := hid (HG.out.trans hga)
    clear hga hx hne
    go_wp2_with fail
    go_ret
    exact ⟨by first | rfl | (simp only [h1, h2]; rfl), HGA.out.forget⟩
end Go.Proofs.Ytjodmimnbpgfcaa

/- Ord -/
namespace Go.Proofs.Ytjodmimnbpgfcaa

/-- At the first place where they part, the first has 0 and the second 1. -/
def LexS (x y : List UInt8) : Prop := ∃ p q r, x = p ++ 48 :: q ∧ y = p ++ 49 :: r
theorem LexS.app {x y : List UInt8} (h : LexS x y) (a b : List UInt8) : LexS (x ++ a) (y ++ b) := by
  obtain ⟨p, q, r, rfl, rfl⟩ := h
  exact ⟨p, q ++ a, r ++ b, by simp, by simp⟩
theorem LexS.pre {x y : List UInt8} (h : LexS x y) (a : List UInt8) : LexS (a ++ x) (a ++ y) := by
  obtain ⟨p, q, r, rfl, rfl⟩ := h
  exact ⟨a ++ p, q, r, by simp, by simp⟩
theorem bits3 (x y : Val) : bitsV (.mk 3 0 [x, y]) = bitsV x ++ bitsV y := by simp [bitsV, bitsL]
theorem bits4 (x : Val) : bitsV (.mk 4 0 [x]) = 48 :: bitsV x := by simp [bitsV, bitsL]
theorem bits5 (x : Val) : bitsV (.mk 5 0 [x]) = 49 :: bitsV x := by simp [bitsV, bitsL]
theorem bits7 (x : Val) : bitsV (.mk 7 0 [x]) = bitsV x := by simp [bitsV, bitsL]
theorem bits6 (l : List Val) : bitsV (.mk 6 0 l) = bitsL true l ++ [49] := by simp [bitsV]

/-- Items behind some: each begins with what is had. -/
theorem often_pre {W : Nat → (Nat → Bool) → List (Val × Nat)} {may ok : Nat → Bool} : ∀ (d f : Nat) (had : List Val) (x : Val × Nat), x ∈ oftenW W may ok d f had → ∃ l, x.1 = .mk 6 0 (had ++ l)
  | 0, _, _, x, h => by simp [oftenW] at h
  | d + 1, f, had, x, h => by
    rw [oftenW, List.mem_append, List.mem_flatMap] at h
    rcases h with ⟨y, -, h⟩ | h
    · obtain ⟨l, hl⟩ := often_pre d y.2 (had ++ [y.1]) x h
      exact ⟨y.1 :: l, by rw [hl]; simp⟩
    · split at h
      · simp at h
        subst h
        exact ⟨[], by simp⟩
      · simp at h
theorem bitsL_app (s : Bool) : ∀ (a b : List Val), bitsL s (a ++ b) = bitsL s a ++ bitsL s b
  | [], b => by simp [bitsL]
  | x :: r, b => by simp only [List.cons_append, bitsL, bitsL_app s r b, List.append_assoc]

theorem often_sorted {W : Nat → (Nat → Bool) → List (Val × Nat)} (hW : ∀ f P, (W f P).Pairwise fun x y => LexS (bitsV x.1) (bitsV y.1)) {may ok : Nat → Bool} : ∀ (d f : Nat) (had : List Val),
    (oftenW W may ok d f had).Pairwise fun x y => LexS (bitsV x.1) (bitsV y.1)
  | 0, _, _ => by simp [oftenW]
  | d + 1, f, had => by
    rw [oftenW, List.pairwise_append]
    refine ⟨?_, ?_, ?_⟩
    · rw [List.pairwise_flatMap]
      refine ⟨fun x _ => often_sorted hW d x.2 (had ++ [x.1]), (hW f _).imp fun {x y} hxy u hu v hv => ?_⟩
      obtain ⟨l, hl⟩ := often_pre d x.2 _ u hu
      obtain ⟨m, hm⟩ := often_pre d y.2 _ v hv
      rw [hl, hm, bits6, bits6, bitsL_app, bitsL_app, bitsL_app, bitsL_app]
      simp only [bitsL, if_true, List.append_nil, List.append_assoc]
      exact ((hxy.app _ _).pre [48]).pre _
    · split <;> simp
    · intro u hu v hv
      split at hv
      · simp at hv
        subst hv
        obtain ⟨x, -, hu⟩ := List.mem_flatMap.1 hu
        obtain ⟨l, hl⟩ := often_pre d x.2 _ u hu
        rw [hl, bits6, bits6, bitsL_app, bitsL_app]
        simp only [bitsL, if_true, List.append_nil, List.append_assoc]
        exact ⟨bitsL true had, bitsV x.1 ++ (bitsL true l ++ [49]), [], by simp, by simp⟩
      · simp at hv

theorem ways_sorted (s : List UInt8) : ∀ (r : Re) (f : Nat) (ok : Nat → Bool), (ways s r f ok).Pairwise fun x y => LexS (bitsV x.1) (bitsV y.1)
  | .none, _, _ => by simp [ways]
  | .empty, f, ok => by rw [ways]; split <;> simp
  | .byte S, f, ok => by
    rw [ways]
    split
    · split <;> simp
    · simp
  | .both a b, f, ok => by
    rw [ways, List.pairwise_flatMap]
    refine ⟨fun x _ => ?_, (ways_sorted s a f _).imp fun {x y} hxy u hu v hv => ?_⟩
    · rw [List.pairwise_map]
      exact (ways_sorted s b x.2 ok).imp fun {u v} h => by
        simp only [bits3]
        exact h.pre _
    · obtain ⟨u', -, rfl⟩ := List.mem_map.1 hu
      obtain ⟨v', -, rfl⟩ := List.mem_map.1 hv
      simp only [bits3]
      exact hxy.app _ _
  | .or a b, f, ok => by
    rw [ways, List.pairwise_append]
    refine ⟨?_, ?_, ?_⟩
    · rw [List.pairwise_map]
      exact (ways_sorted s a f ok).imp fun {u v} h => by
        simp only [bits4]
        exact h.pre [48]
    · rw [List.pairwise_map]
      exact (ways_sorted s b f ok).imp fun {u v} h => by
        simp only [bits5]
        exact h.pre [49]
    · intro u hu v hv
      obtain ⟨u', -, rfl⟩ := List.mem_map.1 hu
      obtain ⟨v', -, rfl⟩ := List.mem_map.1 hv
      simp only [bits4, bits5]
      exact ⟨[], _, _, rfl, rfl⟩
  | .star a, f, ok => by
    rw [ways]
    exact often_sorted (fun f P => ways_sorted s a f P) _ _ _
  | .group a, f, ok => by
    rw [ways, List.pairwise_map]
    exact (ways_sorted s a f ok).imp fun {u v} h => by
      simp only [bits7]
      exact h
  | .anew a, f, ok => by
    rw [ways]
    exact ways_sorted s a f ok
end Go.Proofs.Ytjodmimnbpgfcaa
