/-  every's web: which texts lead to the end; sets of bytes. Plain Lean. A library text: no claim is stated here. every's walk: the texts that it makes, in order. Plain Lean. A library text: no claim is stated here. -/
import Derived.Test.YtjodmimnbpgfcaaS15

/- Len -/
namespace Go.Proofs.Ytjodmimnbpgfcaa
open Go.RowKit Go.IntWalk

theorem wrapN {n : Nat} (h : n < 18446744073709551616) : IntKind.u64.wrap (n : Int) = n := by rw [IntKind.wrap_u64]; omega
theorem andN {a m : Nat} (ha : a < 18446744073709551616) (hm : m < 18446744073709551616) {x y : Int} (hx : x = (a : Int)) (hy : y = (m : Int)) : bits BinOp.and IntKind.u64 x y = ((a &&& m : Nat) : Int) := by
  rw [hx, hy]; exact bits_and_u64_nat a m ha hm
theorem oy1_le (m x : Nat) : oy1 m x ≤ m + m := Nat.add_le_add Nat.and_le_right Nat.and_le_right
theorem oy2_le (m x : Nat) : oy2 m x ≤ m + m := Nat.add_le_add Nat.and_le_right Nat.and_le_right
theorem oy1_int {x : Nat} (hx : x < 18446744073709551616) : bits BinOp.and IntKind.u64 ((x : Int) / 2) 6148914691236517205 + bits BinOp.and IntKind.u64 (x : Int) 6148914691236517205 = ((oy1 6148914691236517205 x : Nat) : Int) := by
  rw [andN (a := x / 2) (m := 6148914691236517205) (x := (x : Int) / 2) (y := 6148914691236517205) (by omega) (by decide) (by simp) rfl, andN (a := x) (m := 6148914691236517205) (x := (x : Int)) (y := 6148914691236517205) hx (by decide) rfl rfl]; rfl
theorem oy2_int {x : Nat} (hx : x < 18446744073709551616) : bits BinOp.and IntKind.u64 ((x : Int) / 4) 3689348814741910323 + bits BinOp.and IntKind.u64 (x : Int) 3689348814741910323 = ((oy2 3689348814741910323 x : Nat) : Int) := by
  rw [andN (a := x / 4) (m := 3689348814741910323) (x := (x : Int) / 4) (y := 3689348814741910323) (by omega) (by decide) (by simp) rfl, andN (a := x) (m := 3689348814741910323) (x := (x : Int)) (y := 3689348814741910323) hx (by decide) rfl rfl]; rfl
theorem oy3_int {x : Nat} (hx : x < 9223372036854775808) : bits BinOp.and IntKind.u64 (IntKind.u64.wrap ((x : Int) / 16 + (x : Int))) 1085102592571150095 = ((oy3 1085102592571150095 x : Nat) : Int) := by
  have e : ((x : Int) / 16 + (x : Int)) = ((x / 16 + x : Nat) : Int) := by simp
  rw [e, wrapN (by omega), andN (a := x / 16 + x) (m := 1085102592571150095) (x := ((x / 16 + x : Nat) : Int)) (y := 1085102592571150095) (by omega) (by decide) rfl rfl]; rfl
theorem fold_int {x k : Nat} {K : Int} (hx : x < 9000000000000000000) (hK : K = (k : Int)) : IntKind.u64.wrap ((x : Int) + (x : Int) / K) = ((x + x / k : Nat) : Int) := by
  subst hK
  have e : ((x : Int) + (x : Int) / (k : Int)) = ((x + x / k : Nat) : Int) := by simp
  have : x / k ≤ x := Nat.div_le_self _ _
  rw [e, wrapN (by omega)]

theorem ones_any (x : Nat) (hx : x < 18446744073709551616) (w : World) :
    Calls Try.prog 86 #[.int .u64 x] w fun e w' => e = .returned (.int .i64 (ones x)) ∧ w = w' := by
  go_enter Try.func86, Try.ntmps86
  go_wp2
  go_ret
  refine ⟨ret_int ?_, rfl⟩
  have sp := ones_spec x hx
  have b1 := oy1_le 6148914691236517205 x
  have b2 := oy2_le 3689348814741910323 (oy1 6148914691236517205 x)
  rw [oy1_int hx, wrapN (by omega), oy2_int (by omega), wrapN (by omega), oy3_int (by omega)]
  have b3 := sp.1
  unfold ones
  dsimp only
  generalize oy3 1085102592571150095 (oy2 3689348814741910323 (oy1 6148914691236517205 x)) = y3 at *
  rw [fold_int (x := y3) (k := 256) (K := 256) (by omega) rfl]
  have b4 : y3 + y3 / 256 < 1100000000000000000 := by omega
  generalize y3 + y3 / 256 = y4 at *
  rw [fold_int (x := y4) (k := 65536) (K := 65536) (by omega) rfl]
  have b5 : y4 + y4 / 65536 < 1200000000000000000 := by omega
  generalize y4 + y4 / 65536 = y5 at *
  rw [fold_int (x := y5) (k := 4294967296) (K := 4294967296) (by omega) rfl]
  have b6 : y5 + y5 / 4294967296 < 1300000000000000000 := by omega
  generalize y5 + y5 / 4294967296 = y6 at *
  have e7 : wrap64 (y6 : Int) = y6 := by unfold wrap64; omega
  rw [e7]
  have := bits_mask .i64 63 (by decide) (fun n h0 h1 => by rw [IntKind.wrap_i64]; omega) 7 (by omega) (y6 : Int) (by omega) (by omega)
  rw [show (2 : Int) ^ 7 - 1 = 127 from rfl, show (2 : Int) ^ 7 = 128 from rfl] at this
  rw [this]; simp

def Set4.len (s : Set4) : Nat := ones s.a + ones s.b + ones s.c + ones s.d

set_option maxHeartbeats 400000 in
theorem len_any {g : G} (s : Set4) (hs : s.wf) (w : World) (hw : Fut g w) :
    Calls Try.prog 71 #[s.val] w fun e w' => e = .returned (.int .i64 s.len) ∧ Grow g w g w' := by
  unfold Set4.val
  obtain ⟨hs0, hs1, hs2, hs3⟩ := hs
  have b0 := (ones_spec _ hs0).2.1
  have b1 := (ones_spec _ hs1).2.1
  have b2 := (ones_spec _ hs2).2.1
  have b3 := (ones_spec _ hs3).2.1
  have i0 : ∀ w, (Instr.index 24 (.agg #[.int .u64 s.a, .int .u64 s.b, .int .u64 s.c, .int .u64 s.d]) (.int .i64 0)).run Try.prog w = .ok (.int .u64 s.a) w := fun _ => by kernel_rfl
  have i1 : ∀ w, (Instr.index 24 (.agg #[.int .u64 s.a, .int .u64 s.b, .int .u64 s.c, .int .u64 s.d]) (.int .i64 1)).run Try.prog w = .ok (.int .u64 s.b) w := fun _ => by kernel_rfl
  have i2 : ∀ w, (Instr.index 24 (.agg #[.int .u64 s.a, .int .u64 s.b, .int .u64 s.c, .int .u64 s.d]) (.int .i64 2)).run Try.prog w = .ok (.int .u64 s.c) w := fun _ => by kernel_rfl
  have i3 : ∀ w, (Instr.index 24 (.agg #[.int .u64 s.a, .int .u64 s.b, .int .u64 s.c, .int .u64 s.d]) (.int .i64 3)).run Try.prog w = .ok (.int .u64 s.d) w := fun _ => by kernel_rfl
  go_enter Try.func71, Try.ntmps71
  go_wp2
  refine wp_loop_rounds 5 ?_
  iterate 5 (rw [rounds_succ]; go_wp2_with (go_at_call 86; refine (ones_any _ (by assumption) _).mono ?_; rintro e w' ⟨rfl, rfl⟩))
  go_ret
  refine ⟨ret_int ?_, (Grow.refl hw).alloc _⟩
  unfold Set4.len
  omega

theorem len_zero {s : Set4} (hs : s.wf) : s.len = 0 ↔ s = ⟨0, 0, 0, 0⟩ := by
  obtain ⟨hs0, hs1, hs2, hs3⟩ := hs
  have b0 := (ones_spec _ hs0).2.2
  have b1 := (ones_spec _ hs1).2.2
  have b2 := (ones_spec _ hs2).2.2
  have b3 := (ones_spec _ hs3).2.2
  obtain ⟨a, b, c, d⟩ := s
  simp only [Set4.len, Set4.mk.injEq] at *
  omega
end Go.Proofs.Ytjodmimnbpgfcaa

/- Can -/
namespace Go.Proofs.Ytjodmimnbpgfcaa

/-- From a place the end is reached by a text. -/
inductive Rch (L : List Nd) : Nat → List UInt8 → Prop
  | done {i : Nat} (h : RS L i 0) : Rch L i []
  | byte {i j : Nat} {x : Nd} {b : UInt8} {u : List UInt8} (h : RS L i j) (hx : L[j]? = some x) (hb : x.set.has b.toNat = true) (h2 : Rch L x.next u) : Rch L i (b :: u)

open Classical in
/-- The end is reached by just so many bytes of some. -/
noncomputable def CanB (L : List Nd) (S : List UInt8) (k i : Nat) : Bool := decide (∃ u : List UInt8, u.length = k ∧ (∀ b ∈ u, b ∈ S) ∧ Rch L i u)

/-- What reaches asks of one place. -/
noncomputable def stepB (L : List Nd) (S : List UInt8) : Nat → Nat → Nd → Bool
  | 0, i, _ => decide (i = 0)
  | k + 1, _, x => CanB L S k x.next && decide (0 < (x.set.and (ofF S)).len)

theorem Set4.has_and (s o : Set4) (x : Nat) : (s.and o).has x = (s.has x && o.has x) := by
  unfold Set4.has Set4.and
  have : ∀ i, Set4.word ⟨s.a &&& o.a, s.b &&& o.b, s.c &&& o.c, s.d &&& o.d⟩ i = s.word i &&& o.word i := fun i => by
    unfold Set4.word
    split <;> rfl
  rw [this, Nat.testBit_and]

theorem zero_bits {a : Nat} (ha : a < 2 ^ 64) (h : ∀ i, i < 64 → a.testBit i = false) : a = 0 := by
  apply Nat.eq_of_testBit_eq
  intro i
  rw [Nat.zero_testBit]
  by_cases hi : i < 64
  · exact h i hi
  · exact Nat.testBit_lt_two_pow (Nat.lt_of_lt_of_le ha (Nat.pow_le_pow_right (by omega) (by omega)))

theorem Set4.zero_of_has {s : Set4} (hs : s.wf) (h : ∀ x, x < 256 → s.has x = false) : s = ⟨0, 0, 0, 0⟩ := by
  obtain ⟨a, b, c, d⟩ := s
  obtain ⟨h0, h1, h2, h3⟩ := hs
  have key : ∀ q i, q < 4 → i < 64 → (Set4.word ⟨a, b, c, d⟩ q).testBit i = false := fun q i hq hi => by
    have := h (q * 64 + i) (by omega)
    unfold Set4.has at this
    rwa [show (q * 64 + i) / 64 = q by omega, show (q * 64 + i) % 64 = i by omega] at this
  have e0 := zero_bits h0 (fun i hi => key 0 i (by omega) hi)
  have e1 := zero_bits h1 (fun i hi => key 1 i (by omega) hi)
  have e2 := zero_bits h2 (fun i hi => key 2 i (by omega) hi)
  have e3 := zero_bits h3 (fun i hi => key 3 i (by omega) hi)
  simp only at e0 e1 e2 e3
  subst e0 e1 e2 e3
  rfl

theorem Set4.has_put (s : Set4) (x y : Nat) (hx : x < 256) (hy : y < 256) : (s.put x).has y = (s.has y || decide (x = y)) := by
  have hxy : (x = y) ↔ (x / 64 = y / 64 ∧ x % 64 = y % 64) := by omega
  unfold Set4.has Set4.put
  have hq : x / 64 = 0 ∨ x / 64 = 1 ∨ x / 64 = 2 ∨ x / 64 = 3 := by omega
  have hp : y / 64 = 0 ∨ y / 64 = 1 ∨ y / 64 = 2 ∨ y / 64 = 3 := by omega
  rcases hq with hq | hq | hq | hq <;> rcases hp with hp | hp | hp | hp <;> simp only [hq, hp] at hxy ⊢ <;> simp [Set4.word, Nat.testBit_or, Nat.testBit_two_pow, hxy]

theorem zero4_has (y : Nat) : zero4.has y = false := by
  unfold Set4.has zero4 Set4.word
  split <;> simp

theorem fold_has : ∀ (l : List UInt8) (s : Set4) (y : Nat), y < 256 → (l.foldl (fun s x => s.put x.toNat) s).has y = (s.has y || decide (∃ b ∈ l, b.toNat = y))
  | [], s, y, _ => by simp
  | x :: r, s, y, hy => by
    rw [List.foldl_cons, fold_has r _ y hy, Set4.has_put _ _ _ x.toNat_lt hy, Bool.or_assoc]
    congr 1
    rw [Bool.eq_iff_iff]
    simp
theorem ofF_has (l : List UInt8) (y : Nat) (hy : y < 256) : (ofF l).has y = decide (∃ b ∈ l, b.toNat = y) := by
  unfold ofF
  rw [fold_has l _ y hy, zero4_has, Bool.false_or]
theorem fold_wf : ∀ (l : List UInt8) (s : Set4), s.wf → (l.foldl (fun s x => s.put x.toNat) s).wf
  | [], _, h => h
  | _ :: r, _, h => fold_wf r _ (Set4.put_wf h _)
theorem ofF_wf (l : List UInt8) : (ofF l).wf := fold_wf l _ zero4_wf
theorem and_wf {s o : Set4} (hs : s.wf) : (s.and o).wf := by
  obtain ⟨h0, h1, h2, h3⟩ := hs
  exact ⟨Nat.lt_of_le_of_lt Nat.and_le_left h0, Nat.lt_of_le_of_lt Nat.and_le_left h1, Nat.lt_of_le_of_lt Nat.and_le_left h2, Nat.lt_of_le_of_lt Nat.and_le_left h3⟩

theorem meet_pos {s : Set4} (hs : s.wf) (S : List UInt8) : 0 < (s.and (ofF S)).len ↔ ∃ b ∈ S, s.has b.toNat = true := by
  have hw := and_wf (o := ofF S) hs
  constructor
  · intro h
    have hne : s.and (ofF S) ≠ ⟨0, 0, 0, 0⟩ := fun e => by rw [(len_zero hw).2 e] at h; omega
    apply Classical.byContradiction
    intro hno
    refine hne (Set4.zero_of_has hw fun x hx => ?_)
    rw [Set4.has_and, ofF_has S x hx]
    cases hsx : s.has x
    · rfl
    · rw [Bool.true_and, decide_eq_false_iff_not]
      rintro ⟨b, hb, rfl⟩
      exact hno ⟨b, hb, hsx⟩
  · rintro ⟨b, hb, hsb⟩
    rcases Nat.eq_zero_or_pos (s.and (ofF S)).len with h | h
    · have e := (len_zero hw).1 h
      have h2 := Set4.has_and s (ofF S) b.toNat
      rw [e, ofF_has S _ b.toNat_lt, hsb] at h2
      have h3 : (⟨0, 0, 0, 0⟩ : Set4).has b.toNat = false := zero4_has _
      rw [h3] at h2
      simp at h2
      exact absurd rfl (h2 b hb)
    · exact h

theorem canB_iff {L : List Nd} {S : List UInt8} {k i : Nat} : CanB L S k i = true ↔ ∃ u : List UInt8, u.length = k ∧ (∀ b ∈ u, b ∈ S) ∧ Rch L i u := by
  unfold CanB
  exact @decide_eq_true_iff _ (Classical.propDecidable _)

/-- What reaches tells. -/
theorem can_step {L : List Nd} (hw : WfW L) {S : List UInt8} {k i : Nat} (hi : i < L.length) {out : List Nat} (hc : ClosedOf L [i] out) : CanB L S k i = out.any fun j => match L[j]? with | some x => stepB L S k j x | none => false := by
  rw [Bool.eq_iff_iff, List.any_eq_true, canB_iff]
  have hat : ∀ j, RS L i j → ∃ x, L[j]? = some x := fun j hj => ⟨_, List.getElem?_eq_getElem (hj.lt hw hi)⟩
  cases k with
  | zero =>
    constructor
    · rintro ⟨u, hu, -, hr⟩
      obtain rfl := List.eq_nil_of_length_eq_zero hu
      cases hr with
      | done h =>
        obtain ⟨x, hx⟩ := hat 0 h
        refine ⟨0, (hc.mem 0).2 ⟨i, by simp, h⟩, ?_⟩
        rw [hx]
        simp [stepB]
    · rintro ⟨j, hj, h⟩
      obtain ⟨f, hf, hr⟩ := (hc.mem j).1 hj
      simp at hf
      subst hf
      refine ⟨[], rfl, by simp, .done ?_⟩
      cases hx : L[j]? with
      | none => rw [hx] at h; simp at h
      | some x =>
        rw [hx] at h
        simp [stepB] at h
        subst h
        exact hr
  | succ k =>
    constructor
    · rintro ⟨u, hu, hS, hr⟩
      cases hr with
      | done h => simp at hu
      | @byte _ j x b u h hx hb h2 =>
        refine ⟨j, (hc.mem j).2 ⟨i, by simp, h⟩, ?_⟩
        rw [hx]
        simp only [stepB, Bool.and_eq_true, decide_eq_true_eq]
        refine ⟨canB_iff.2 ⟨u, by simpa using hu, fun c hc => hS c (by simp [hc]), h2⟩, ?_⟩
        exact (meet_pos (hw.set x (List.mem_of_getElem? hx)) S).2 ⟨b, hS b (by simp), hb⟩
    · rintro ⟨j, hj, h⟩
      obtain ⟨f, hf, hr⟩ := (hc.mem j).1 hj
      simp at hf
      subst hf
      cases hx : L[j]? with
      | none => rw [hx] at h; simp at h
      | some x =>
        rw [hx] at h
        simp only [stepB, Bool.and_eq_true, decide_eq_true_eq] at h
        obtain ⟨u, hu, hS, h2⟩ := canB_iff.1 h.1
        obtain ⟨b, hb, hxb⟩ := (meet_pos (hw.set x (List.mem_of_getElem? hx)) S).1 h.2
        exact ⟨b :: u, by simp [hu], fun c hc => by rcases List.mem_cons.1 hc with rfl | hc; exact hb; exact hS c hc, .byte hr hx hxb h2⟩
end Go.Proofs.Ytjodmimnbpgfcaa

/- Words -/
namespace Go.Proofs.Ytjodmimnbpgfcaa

/-- All texts of just so many bytes of some, in their order. -/
def allWords (S : List UInt8) : Nat → List (List UInt8)
  | 0 => [[]]
  | k + 1 => S.flatMap fun b => (allWords S k).map fun u => b :: u

theorem allWords_mem (S : List UInt8) : ∀ (k : Nat) (u : List UInt8), u ∈ allWords S k ↔ u.length = k ∧ ∀ b ∈ u, b ∈ S
  | 0, u => by
    simp only [allWords, List.mem_singleton]
    constructor
    · rintro rfl; simp
    · rintro ⟨h, -⟩; exact List.eq_nil_of_length_eq_zero h
  | k + 1, u => by
    simp only [allWords, List.mem_flatMap, List.mem_map]
    constructor
    · rintro ⟨b, hb, v, hv, rfl⟩
      obtain ⟨h1, h2⟩ := (allWords_mem S k v).1 hv
      exact ⟨by simp [h1], fun c hc => by rcases List.mem_cons.1 hc with rfl | hc; exact hb; exact h2 c hc⟩
    · rintro ⟨h1, h2⟩
      cases u with
      | nil => simp at h1
      | cons b v => exact ⟨b, h2 b (by simp), v, (allWords_mem S k v).2 ⟨by simpa using h1, fun c hc => h2 c (by simp [hc])⟩, rfl⟩

/-- Takes them one by one, till there are enough. -/
def runW (most : Int) : List (List UInt8) → List (List UInt8) → Bool × List (List UInt8)
  | [], ws => (true, ws)
  | u :: r, ws => if (ws.length : Int) + 1 ≤ most then runW most r (ws ++ [u]) else (false, ws ++ [u])

theorem runW_append (most : Int) : ∀ (a b ws : List (List UInt8)), runW most (a ++ b) ws = if (runW most a ws).1 then runW most b (runW most a ws).2 else runW most a ws
  | [], b, ws => by simp [runW]
  | u :: r, b, ws => by
    simp only [List.cons_append, runW]
    split
    · exact runW_append most r b _
    · simp
theorem runW_live (most : Int) : ∀ (a ws : List (List UInt8)), (ws.length : Int) ≤ most → (runW most a ws).1 = true → ((runW most a ws).2.length : Int) ≤ most
  | [], ws, h, _ => h
  | u :: r, ws, h, ht => by
    simp only [runW] at ht ⊢
    split
    · rename_i hc
      rw [if_pos hc] at ht
      exact runW_live most r _ (by simp; omega) ht
    · rename_i hc
      rw [if_neg hc] at ht
      cases ht
/-- In one go. -/
theorem runW_all (most : Int) : ∀ (a ws : List (List UInt8)), (ws.length : Int) ≤ most → ((ws.length : Int) + a.length ≤ most → runW most a ws = (true, ws ++ a)) ∧ (most < (ws.length : Int) + a.length → (runW most a ws).1 = false)
  | [], ws, h => ⟨fun _ => by simp [runW], fun h2 => by simp at h2; omega⟩
  | u :: r, ws, h => by
    by_cases hc : (ws.length : Int) + 1 ≤ most
    · have ih := runW_all most r (ws ++ [u]) (by simp; omega)
      simp only [runW, if_pos hc]
      refine ⟨fun h2 => ?_, fun h2 => ih.2 (by simp at h2 ⊢; omega)⟩
      rw [ih.1 (by simp at h2 ⊢; omega)]
      simp
    · simp only [runW, if_neg hc]
      exact ⟨fun h2 => by simp at h2; omega, fun _ => trivial⟩

open Classical in
/-- A text leads from some places to the end. -/
noncomputable def AtB (L : List Nd) (at_ : List Nat) (u : List UInt8) : Bool := decide (∃ i ∈ at_, Rch L i u)
open Classical in
theorem atB_iff {L : List Nd} {at_ : List Nat} {u : List UInt8} : AtB L at_ u = true ↔ ∃ i ∈ at_, Rch L i u := by
  unfold AtB
  exact decide_eq_true_iff

/-- The texts of just so many bytes more that lead from some places to the end. -/
noncomputable def wordsAt (L : List Nd) (S : List UInt8) (k : Nat) (at_ : List Nat) (had : List UInt8) : List (List UInt8) :=
  ((allWords S k).filter (AtB L at_)).map fun u => had ++ u

/-- .. those of them that begin with a byte. -/
noncomputable def wordsB (L : List Nd) (S : List UInt8) (k : Nat) (at_ : List Nat) (had : List UInt8) (b : UInt8) : List (List UInt8) :=
  ((allWords S k).filter fun u => AtB L at_ (b :: u)).map fun u => had ++ b :: u

/-- From where they go on. -/
def toF (L : List Nd) (at_ : List Nat) (b : UInt8) : List Nat := at_.filterMap fun i => match L[i]? with | some x => if x.set.has b.toNat then some x.next else none | none => none

theorem wordsAt_succ (L : List Nd) (S : List UInt8) (k : Nat) (at_ : List Nat) (had : List UInt8) : wordsAt L S (k + 1) at_ had = S.flatMap (wordsB L S k at_ had) := by
  unfold wordsAt wordsB
  rw [allWords, List.filter_flatMap, List.map_flatMap]
  congr 1
  funext b
  rw [List.filter_map, List.map_map]
  rfl

theorem Rch.from_ {L : List Nd} {i j : Nat} {u : List UInt8} (h : RS L i j) (k : Rch L j u) : Rch L i u := by
  cases k with
  | done h2 => exact .done (h.trans h2)
  | byte h2 hx hb h3 => exact .byte (h.trans h2) hx hb h3

theorem wordsB_eq {L : List Nd} {S : List UInt8} {k : Nat} {at_ to_ : List Nat} {had : List UInt8} {b : UInt8} (hat : ∀ i ∈ at_, ∀ j, RS L i j → j ∈ at_) (hto : ClosedOf L (toF L at_ b) to_) : wordsAt L S k to_ (had ++ [b]) = wordsB L S k at_ had b := by
  have key : ∀ u, (∃ i ∈ to_, Rch L i u) ↔ ∃ i ∈ at_, Rch L i (b :: u) := fun u => by
    constructor
    · rintro ⟨i, hi, hr⟩
      obtain ⟨f, hf, hfi⟩ := (hto.mem i).1 hi
      unfold toF at hf
      obtain ⟨j, hj, hjf⟩ := List.mem_filterMap.1 hf
      cases hx : L[j]? with
      | none => rw [hx] at hjf; cases hjf
      | some x =>
        rw [hx] at hjf
        simp only at hjf
        split at hjf
        · rename_i hb
          cases hjf
          exact ⟨j, hj, .byte (.refl j) hx hb (hr.from_ hfi)⟩
        · cases hjf
    · rintro ⟨i, hi, hr⟩
      cases hr with
      | @byte _ j x _ _ h hx hb h2 =>
        have hj := hat i hi j h
        refine ⟨x.next, (hto.mem _).2 ⟨x.next, ?_, .refl _⟩, h2⟩
        unfold toF
        rw [List.mem_filterMap]
        exact ⟨j, hj, by rw [hx]; simp [hb]⟩
  unfold wordsAt wordsB
  have e : (fun u => had ++ [b] ++ u) = fun u => had ++ b :: u := by funext u; simp
  rw [e]
  congr 1
  congr 1
  funext u
  rw [Bool.eq_iff_iff, atB_iff, atB_iff]
  exact key u

theorem wordsAt_none {L : List Nd} {S : List UInt8} {k : Nat} {at_ : List Nat} {had : List UInt8} (h : at_.any (CanB L S k) = false) : wordsAt L S k at_ had = [] := by
  unfold wordsAt
  rw [List.map_eq_nil_iff, List.filter_eq_nil_iff]
  intro u hu
  rw [atB_iff]
  rintro ⟨i, hi, hr⟩
  obtain ⟨h1, h2⟩ := (allWords_mem S k u).1 hu
  rw [List.any_eq_false] at h
  exact h i hi (canB_iff.2 ⟨u, h1, h2, hr⟩)
theorem wordsAt_zero {L : List Nd} {S : List UInt8} {at_ : List Nat} {had : List UInt8} (h : at_.any (CanB L S 0) = true) : wordsAt L S 0 at_ had = [had] := by
  obtain ⟨i, hi, hc⟩ := List.any_eq_true.1 h
  obtain ⟨u, h1, -, h3⟩ := canB_iff.1 hc
  obtain rfl := List.eq_nil_of_length_eq_zero h1
  unfold wordsAt allWords
  have : AtB L at_ [] = true := atB_iff.2 ⟨i, hi, h3⟩
  simp [this]
end Go.Proofs.Ytjodmimnbpgfcaa
