/- The reference's SameValue, walked. A library text: no claim is stated here. The reference's counts, Bits, Eager, walked. A library text: no claim is stated here. -/
import Derived.Test.YtjodmimnbpgfcaaS11
import Derived.Laws.Cover1

/- RefV -/
namespace Go.Proofs.Ytjodmimnbpgfcaa
open Go.RowKit Go.IntWalk

mutual
def sameF : Val → Val → Bool
  | .mk k b l, .mk k' b' l' => (k == k') && ((b == b') && (((l.length : Int) == (l'.length : Int)) && sameL l l'))
def sameL : List Val → List Val → Bool
  | [], _ => true
  | _ :: _, [] => true
  | x :: r, y :: s => sameF x y && sameL r s
end

/-- What a value's row tells. -/
theorem ValV.elems {g : G} {r : VRow} {v : Val} (h : ValV g r v) : r.k = v.kind ∧ r.b = v.b ∧ r.len = v.l.length ∧ r.len ≤ r.cap ∧ r.cap ≤ 9223372036854775807 ∧
    ∀ q (hq : q < v.l.length), ∃ blk off x, r.a = some ⟨blk, off, none⟩ ∧ VCells g blk (off + q * 3) x ∧ ValV g x v.l[q] := by
  cases h with
  | nil k b => exact ⟨rfl, rfl, rfl, Nat.le_refl _, by show (0 : Nat) ≤ _; omega, fun q hq => absurd hq (Nat.not_lt_zero _)⟩
  | row k b blk off cap l f hpos hcap hm hc hr => exact ⟨rfl, rfl, rfl, hcap, hm, fun q hq => ⟨blk, off, f q, rfl, hc q hq, hr q hq⟩⟩

theorem sameL_drop {l l' : List Val} {q : Nat} (h1 : q < l.length) (h2 : q < l'.length) : sameL (l.drop q) (l'.drop q) = (sameF l[q] l'[q] && sameL (l.drop (q + 1)) (l'.drop (q + 1))) := by
  rw [List.drop_eq_getElem_cons h1, List.drop_eq_getElem_cons h2, sameL]

/-- By induction on the value, the nil slice and the row as one. -/
theorem ValV.step {g : G} {motive : VRow → Val → Prop} (step : ∀ (k b : Int) (a : Option Addr) (cap : Nat) (l : List Val), l.length ≤ cap → cap ≤ 9223372036854775807 →
      (∀ q (hq : q < l.length), ∃ blk off x, a = some ⟨blk, off, none⟩ ∧ VCells g blk (off + q * 3) x ∧ ValV g x l[q] ∧ motive x l[q]) → motive ⟨k, b, a, l.length, cap⟩ (.mk k b l)) {r : VRow} {v : Val} (h : ValV g r v) : motive r v := by
  induction h with
  | nil k b => exact step k b none 0 [] (Nat.le_refl _) (by omega) (fun q hq => absurd hq (Nat.not_lt_zero _))
  | row k b blk off cap l f hpos hcap hm hc hr ih => exact step k b _ cap l hcap hm (fun q hq => ⟨blk, off, f q, rfl, hc q hq, hr q hq, ih q hq⟩)

set_option maxRecDepth 20000 in
set_option maxHeartbeats 1000000 in
theorem same_any {g : G} {r : VRow} {v : Val} (hv : ValV g r v) : ∀ g', g.Le g' → ∀ {q : VRow} {u : Val}, ValV g' q u → ∀ w, Fut g' w →
    Calls Try.prog 22 #[r.val, q.val] w fun e w' => e = .returned (.bool (sameF v u)) ∧ Grow g' w g' w' := by
  refine hv.step (motive := fun r v => ∀ g', g.Le g' → ∀ {q : VRow} {u : Val}, ValV g' q u → ∀ w, Fut g' w → Calls Try.prog 22 #[r.val, q.val] w fun e w' => e = .returned (.bool (sameF v u)) ∧ Grow g' w g' w') ?_
  intro k b a c l hcap hmax re g' hle q u hu w hw
  obtain ⟨qk, qb, ql, qc, qm, qe⟩ := hu.elems
  obtain ⟨k', b', a', n', c'⟩ := q
  obtain ⟨uk, ub, l'⟩ := u
  simp only [Val.kind, Val.b, Val.l] at qk qb ql qc qm qe
  subst qk qb ql
  obtain ⟨g1, hg1, e1, e2⟩ := box2 hw (.cells #[.int .i64 k, .int .u8 b, .slice a l.length c] 61) (.cells #[.int .i64 k', .int .u8 b', .slice a' l'.length c'] 61)
  have a0 := fut_cell e1 0 _ rfl
  have a1 := fut_cell e1 1 _ rfl
  have a2 := fut_cell e1 2 _ rfl
  have b0 := fut_cell e2 0 _ rfl
  have b1 := fut_cell e2 1 _ rfl
  have b2 := fut_cell e2 2 _ rfl
  have hf1 := hg1.fut
  have HG := hid hg1
  have RE := hid re
  have QE := hid qe
  have hle1 := hid hg1.le
  have HLE := hid hle
  clear hg1 re qe hu e1 e2 hle
  unfold VRow.val
  rw [sameF]
  cases hk : (k == k') with
  | false =>
    have hk' : (k != k') = true := by simp [bne, hk]
    go_enter Try.func22, Try.ntmps22
    go_wp2_with fail
    go_ret
    exact ⟨rfl, HG.out.forget⟩
  | true =>
    have hk' : (k != k') = false := by simp [bne, hk]
    cases hb : (b == b') with
    | false =>
      have hb' : (b != b') = true := by simp [bne, hb]
      go_enter Try.func22, Try.ntmps22
      go_wp2_with fail
      go_ret
      exact ⟨rfl, HG.out.forget⟩
    | true =>
      have hb' : (b != b') = false := by simp [bne, hb]
      cases hl : ((l.length : Int) == (l'.length : Int)) with
      | false =>
        have hl' : ((l.length : Int) != (l'.length : Int)) = true := by simp [bne, hl]
        go_enter Try.func22, Try.ntmps22
        go_wp2_with fail
        go_ret
        exact ⟨rfl, HG.out.forget⟩
      | true =>
        have hl' : ((l.length : Int) != (l'.length : Int)) = false := by simp [bne, hl]
        have hll : l'.length = l.length := by simp at hl; omega
        have HLL := hid hll
        clear hll hl
        go_enter Try.func22, Try.ntmps22
        go_wp2_with fail
        clear hl' hk' hb' hk hb
        go_loopg [5] l.length (fun rem i wr => ∃ q : Nat, q + rem = l.length ∧ i = .int .i64 q ∧ Hid (Grow g' w g1 wr) ∧ Hid (sameL (l.drop q) (l'.drop q) = sameL l l'))
        case atStart => exact ⟨0, by omega, rfl, HG.out, rfl⟩
        case round =>
          obtain ⟨q, hq, rfl, HGr, H3⟩ := hrel
          have hfr := HGr.out.fut
          by_cases hlt : q < l.length
          · have hlt' : q < l'.length := by have := HLL.out; omega
            obtain ⟨blk, off, x, rfl, ⟨x0, x1, x2⟩, -, ih⟩ := RE.out q hlt
            obtain ⟨blk', off', y, rfl, ⟨y0, y1, y2⟩, hy⟩ := QE.out q hlt'
            have h3 := H3.out
            rw [sameL_drop hlt hlt'] at h3
            have X0 := fun w' (hf : Fut g1 w') => x0 w' (hf.le (HLE.out.trans hle1.out))
            have X1 := fun w' (hf : Fut g1 w') => x1 w' (hf.le (HLE.out.trans hle1.out))
            have X2 := fun w' (hf : Fut g1 w') => x2 w' (hf.le (HLE.out.trans hle1.out))
            have Y0 := fun w' (hf : Fut g1 w') => y0 w' (hf.le hle1.out)
            have Y1 := fun w' (hf : Fut g1 w') => y1 w' (hf.le hle1.out)
            have Y2 := fun w' (hf : Fut g1 w') => y2 w' (hf.le hle1.out)
            generalize hsv : sameF l[q] l'[q] = sv at h3
            have IH : ∀ w', Fut g1 w' → Calls Try.prog 22 #[x.val, y.val] w' fun e w'' => e = .returned (.bool sv) ∧ Grow g1 w' g1 w'' := fun w' hf => by
              have := ih g1 (HLE.out.trans hle1.out) (hy.le hle1.out) w' hf
              rw [← hsv]
              exact this
            unfold VRow.val at IH
            have hqi : (q : Int) < (l.length : Int) := by omega
            have hqi' : (q : Int) < (l'.length : Int) := by omega
            have HQ := hid hq
            have HLT := hid hlt
            clear x0 x1 x2 y0 y1 y2 ih H3 hy hsv hlt'
            cases sv with
            | false =>
              have IHH := hid IH
              have H4 := hid h3
              clear IH h3
              go_wp2_with fail
              refine wp_region_cls (g := g1) (w0 := wr) (by kernel_rfl) (by kernel_rfl) (Grow.refl hfr) ?_
              have hx : ∀ z : Wg g1 wr, Fut g1 z.w := fun z => z.h.fut
              have hne : Nonempty (Wg g1 wr) := ⟨⟨wr, Grow.refl hfr⟩⟩
              repeat (go_big_quiet_step (exact quiet_grow (IHH.out _ (hx _))))
              refine wpQuiet_nil ?_
              rintro wa ⟨⟨_, hga⟩, rfl⟩
              have HGA := hid hga
              clear hga hx hne
              go_wp2_with fail
              go_ret
              exact ⟨by rw [← H4.out]; rfl, (HGr.out.trans HGA.out).forget⟩
            | true =>
              have IHH := hid IH
              have H4 := hid h3
              clear IH h3
              go_wp2_with fail
              refine wp_region_cls (g := g1) (w0 := wr) (by kernel_rfl) (by kernel_rfl) (Grow.refl hfr) ?_
              have hx : ∀ z : Wg g1 wr, Fut g1 z.w := fun z => z.h.fut
              have hne : Nonempty (Wg g1 wr) := ⟨⟨wr, Grow.refl hfr⟩⟩
              repeat (go_big_quiet_step (exact quiet_grow (IHH.out _ (hx _))))
              refine wpQuiet_nil ?_
              rintro wa ⟨⟨_, hga⟩, rfl⟩
              have HGA := hid hga
              clear hga hx hne
              go_wp2_with fail
              go_roundg (l.length - (q + 1))
              case measure => have h1 := HLT.out; have h2 := HQ.out; omega
              case rel => exact ⟨q + 1, by have := HLT.out; omega, by go_num, HGr.out.trans HGA.out, by rw [← H4.out]; rfl⟩
          · obtain rfl : q = l.length := by omega
            have h3 := H3.out
            rw [List.drop_length] at h3
            have H4 := hid h3
            clear h3 H3
            go_wp2_with fail
            go_ret
            exact ⟨by rw [← H4.out]; rfl, HGr.out.forget⟩
end Go.Proofs.Ytjodmimnbpgfcaa

/- RefW -/
namespace Go.Proofs.Ytjodmimnbpgfcaa
open Go.RowKit Go.IntWalk

/-- How many parts a value of the kind has. -/
def partsV (k : Int) (n : Nat) : Int := if k = 3 then 2 else if k = 4 ∨ k = 5 ∨ k = 7 then 1 else if k = 6 then n else 0

theorem counts_row {g : G} (k b : Int) (ao : Option Addr) (n c : Nat) (hc : n ≤ c) (hm : c ≤ 9223372036854775807) (ha : (ao = none ∧ n = 0 ∧ c = 0) ∨ ∃ blk off, ao = some ⟨blk, off, none⟩) (hp : (n : Int) = partsV k n) (w : World) (hw : Fut g w) :
    Calls Try.prog 84 #[VRow.val ⟨k, b, ao, n, c⟩] w fun e w' => e = .returned (.slice ao n c) ∧ Grow g w g w' := by
  have hG := (Grow.refl hw).alloc (.cells #[.int .i64 k, .int .u8 b, .slice ao n c] 61)
  have HG := hid hG
  clear hG
  unfold VRow.val
  have hk : k = 3 ∨ k = 4 ∨ k = 5 ∨ k = 7 ∨ k = 6 ∨ (k ≠ 3 ∧ k ≠ 4 ∧ k ≠ 5 ∧ k ≠ 7 ∧ k ≠ 6) := by omega
  rcases ha with ⟨rfl, rfl, rfl⟩ | ⟨blk, off, rfl⟩
  · rcases hk with rfl | rfl | rfl | rfl | rfl | ⟨h3, h4, h5, h7, h6⟩
    · simp [partsV] at hp
    · simp [partsV] at hp
    · simp [partsV] at hp
    · simp [partsV] at hp
    · go_enter Try.func84, Try.ntmps84
      go_wp2
      go_ret
      exact ⟨rfl, HG.out⟩
    · have e3 : (k == 3) = false := by simpa using h3
      have e4 : (k == 4) = false := by simpa using h4
      have e5 : (k == 5) = false := by simpa using h5
      have e6 : (k == 6) = false := by simpa using h6
      have e7 : (k == 7) = false := by simpa using h7
      go_enter Try.func84, Try.ntmps84
      go_wp2
      go_ret
      exact ⟨rfl, HG.out⟩
  · rcases hk with rfl | rfl | rfl | rfl | rfl | ⟨h3, h4, h5, h7, h6⟩
    · obtain rfl : n = 2 := by simp [partsV] at hp; omega
      go_enter Try.func84, Try.ntmps84
      go_wp2
      go_ret
      exact ⟨rfl, HG.out⟩
    · obtain rfl : n = 1 := by simp [partsV] at hp; omega
      go_enter Try.func84, Try.ntmps84
      go_wp2
      go_ret
      exact ⟨rfl, HG.out⟩
    · obtain rfl : n = 1 := by simp [partsV] at hp; omega
      go_enter Try.func84, Try.ntmps84
      go_wp2
      go_ret
      exact ⟨rfl, HG.out⟩
    · obtain rfl : n = 1 := by simp [partsV] at hp; omega
      go_enter Try.func84, Try.ntmps84
      go_wp2
      go_ret
      exact ⟨rfl, HG.out⟩
    · go_enter Try.func84, Try.ntmps84
      go_wp2
      go_ret
      exact ⟨rfl, HG.out⟩
    · have e3 : (k == 3) = false := by simpa using h3
      have e4 : (k == 4) = false := by simpa using h4
      have e5 : (k == 5) = false := by simpa using h5
      have e6 : (k == 6) = false := by simpa using h6
      have e7 : (k == 7) = false := by simpa using h7
      obtain rfl : n = 0 := by simp [partsV, h3, h4, h5, h6, h7] at hp; omega
      go_enter Try.func84, Try.ntmps84
      go_wp2
      go_ret
      exact ⟨rfl, HG.out⟩
end Go.Proofs.Ytjodmimnbpgfcaa
