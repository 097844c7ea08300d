/-   every's web: which texts lead to the end; sets of bytes. Plain Lean. A library text: no claim is stated here. -/
import Derived.Test.YtjodmimnbpgfcaaM01
import Derived.Test.YtjodmimnbpgfcaaM13

/- Ones -/
namespace Go.Proofs.Ytjodmimnbpgfcaa

/-! The count of the bits that are set in a word, as math/bits counts them: it is 0 just for 0. -/

def oy1 (m1 x : Nat) : Nat := (x / 2 &&& m1) + (x &&& m1)
def oy2 (m2 y : Nat) : Nat := (y / 4 &&& m2) + (y &&& m2)
def oy3 (m3 y : Nat) : Nat := (y / 16 + y) &&& m3

theorem and_split (a b c d : Nat) (hb : b < 256) (hd : d < 256) : (256 * a + b) &&& (256 * c + d) = 256 * (a &&& c) + (b &&& d) := by
  have h1 : ((256 * a + b) &&& (256 * c + d)) / 2 ^ 8 = (a &&& c) := by
    rw [Nat.and_div_two_pow]; congr 1 <;> omega
  have h2 : ((256 * a + b) &&& (256 * c + d)) % 2 ^ 8 = (b &&& d) := by
    rw [Nat.and_mod_two_pow]; congr 1 <;> omega
  omega

theorem byte1 : ∀ q, q < 2 → ∀ r, r < 256 → ((q * 128 + r / 2) &&& 85) = (r / 2 &&& 85) := by decide +kernel
theorem byte2 : ∀ q, q < 4 → ∀ r, r < 171 → ((q * 64 + r / 4) &&& 51) = (r / 4 &&& 51) := by decide +kernel
theorem byte_y1 : ∀ r, r < 256 → oy1 85 r < 171 := by decide +kernel
theorem byte_y2 : ∀ r, r < 256 → oy2 51 (oy1 85 r) ≤ 68 ∧ oy2 51 (oy1 85 r) % 16 ≤ 4 := by decide +kernel
theorem byte_y3 : ∀ r, r < 256 → oy3 15 (oy2 51 (oy1 85 r)) ≤ 8 ∧ (oy3 15 (oy2 51 (oy1 85 r)) = 0 → r = 0) := by decide +kernel

theorem split1 (m q r : Nat) (hr : r < 256) : oy1 (256 * m + 85) (256 * q + r) = 256 * oy1 m q + oy1 85 r := by
  unfold oy1
  have e : (256 * q + r) / 2 = 256 * (q / 2) + (q % 2 * 128 + r / 2) := by omega
  rw [e, and_split _ _ _ _ (by omega) (by omega), and_split _ _ _ _ hr (by omega), byte1 _ (Nat.mod_lt _ (by omega)) _ hr]
  omega
theorem split2 (m q r : Nat) (hr : r < 171) : oy2 (256 * m + 51) (256 * q + r) = 256 * oy2 m q + oy2 51 r := by
  unfold oy2
  have e : (256 * q + r) / 4 = 256 * (q / 4) + (q % 4 * 64 + r / 4) := by omega
  rw [e, and_split _ _ _ _ (by omega) (by omega), and_split _ _ _ _ (by omega) (by omega), byte2 _ (Nat.mod_lt _ (by omega)) _ hr]
  omega
theorem split3 (m q r : Nat) (hr : r ≤ 68) (hq : q % 16 ≤ 4) : oy3 (256 * m + 15) (256 * q + r) = 256 * oy3 m q + oy3 15 r := by
  unfold oy3
  have e : (256 * q + r) / 16 + (256 * q + r) = 256 * (q / 16 + q) + (q % 16 * 16 + (r / 16 + r)) := by omega
  rw [e, and_split _ _ _ _ (by omega) (by omega)]
  have e2 : (q % 16 * 16 + (r / 16 + r)) &&& 15 = (r / 16 + r) &&& 15 := by
    rw [show (15 : Nat) = 2 ^ 4 - 1 from rfl, Nat.and_two_pow_sub_one_eq_mod, Nat.and_two_pow_sub_one_eq_mod]; omega
  rw [e2]

def om1 : Nat → Nat | 0 => 0 | n + 1 => 256 * om1 n + 85
def om2 : Nat → Nat | 0 => 0 | n + 1 => 256 * om2 n + 51
def om3 : Nat → Nat | 0 => 0 | n + 1 => 256 * om3 n + 15
/-- The bytes' counts, byte by byte. -/
def oP : Nat → Nat → Nat | 0, _ => 0 | n + 1, x => oy3 15 (oy2 51 (oy1 85 (x % 256))) + 256 * oP n (x / 256)

theorem oy_zero_mask (x : Nat) : oy3 0 (oy2 0 (oy1 0 x)) = 0 := by simp [oy1, oy2, oy3]

theorem oy_all : ∀ n x, oy3 (om3 n) (oy2 (om2 n) (oy1 (om1 n) x)) = oP n x ∧ oy2 (om2 n) (oy1 (om1 n) x) % 16 ≤ 4
  | 0, x => by simp [om1, om2, om3, oP, oy1, oy2, oy3]
  | n + 1, x => by
    obtain ⟨h1, h2⟩ := oy_all n (x / 256)
    have hr : x % 256 < 256 := Nat.mod_lt _ (by omega)
    have hx : x = 256 * (x / 256) + x % 256 := by omega
    generalize x / 256 = q at *
    generalize x % 256 = r at *
    subst hx
    have e1 := split1 (om1 n) q r hr
    have e2 := split2 (om2 n) (oy1 (om1 n) q) (oy1 85 r) (byte_y1 r hr)
    have b2 := byte_y2 r hr
    have e3 := split3 (om3 n) (oy2 (om2 n) (oy1 (om1 n) q)) (oy2 51 (oy1 85 r)) b2.1 h2
    simp only [om1, om2, om3, e1, e2, e3, oP]
    have q1 : (256 * q + r) / 256 = q := by omega
    have q2 : (256 * q + r) % 256 = r := by omega
    rw [q1, q2, h1]
    exact ⟨Nat.add_comm _ _, by omega⟩

/-- What math/bits computes. -/
def ones (x : Nat) : Nat :=
  let y3 := oy3 1085102592571150095 (oy2 3689348814741910323 (oy1 6148914691236517205 x))
  let y4 := y3 + y3 / 256
  let y5 := y4 + y4 / 65536
  let y6 := y5 + y5 / 4294967296
  y6 % 128

theorem sum_bytes (p0 p1 p2 p3 p4 p5 p6 p7 A1 A2 A3 A4 A5 A6 y3 y4 y5 : Nat) (h0 : p0 ≤ 8) (h1 : p1 ≤ 8) (h2 : p2 ≤ 8) (h3 : p3 ≤ 8) (h4 : p4 ≤ 8) (h5 : p5 ≤ 8) (h6 : p6 ≤ 8) (h7 : p7 ≤ 8)
    (a6 : A6 = p6 + 256 * p7) (a5 : A5 = p5 + 256 * A6) (a4 : A4 = p4 + 256 * A5) (a3 : A3 = p3 + 256 * A4) (a2 : A2 = p2 + 256 * A3) (a1 : A1 = p1 + 256 * A2) (e3 : y3 = p0 + 256 * A1)
    (e4 : y4 = y3 + y3 / 256) (e5 : y5 = y4 + y4 / 65536) : y3 < 1000000000000000000 ∧ (y5 + y5 / 4294967296) % 128 = p0 + p1 + p2 + p3 + p4 + p5 + p6 + p7 := by
  have hb : y3 < 1000000000000000000 := by omega
  refine ⟨hb, ?_⟩
  have d3 : y3 / 256 = A1 := by omega
  rw [d3] at e4
  have d4 : y4 / 65536 = A2 + A3 := by omega
  rw [d4] at e5
  have d5 : y5 / 4294967296 = A4 + A5 + A6 + p7 := by
    have : y5 = (p0 + p1 + p2 + p3) + 256 * (p1 + p2 + p3 + p4) + 65536 * (p2 + p3 + p4 + p5) + 16777216 * (p3 + p4 + p5 + p6) + 4294967296 * (A4 + A5 + A6 + p7) := by omega
    clear a6 a5 a4 a3 a2 a1 e3 e4 e5 d3 d4 hb
    omega
  rw [d5]
  omega

/-- A number's eight bytes are 0 just if it is. -/
theorem bytes_zero (x : Nat) (hx : x < 18446744073709551616) (h0 : x % 256 = 0) (h1 : x / 256 % 256 = 0) (h2 : x / 256 / 256 % 256 = 0) (h3 : x / 256 / 256 / 256 % 256 = 0) (h4 : x / 256 / 256 / 256 / 256 % 256 = 0)
    (h5 : x / 256 / 256 / 256 / 256 / 256 % 256 = 0) (h6 : x / 256 / 256 / 256 / 256 / 256 / 256 % 256 = 0) (h7 : x / 256 / 256 / 256 / 256 / 256 / 256 / 256 % 256 = 0) : x = 0 := by
  have l1 : x / 256 < 72057594037927936 := by omega
  have m0 : x = 256 * (x / 256) := by omega
  generalize x / 256 = q1 at *
  have l2 : q1 / 256 < 281474976710656 := by omega
  have m1 : q1 = 256 * (q1 / 256) := by omega
  generalize q1 / 256 = q2 at *
  have l3 : q2 / 256 < 1099511627776 := by omega
  have m2 : q2 = 256 * (q2 / 256) := by omega
  generalize q2 / 256 = q3 at *
  have l4 : q3 / 256 < 4294967296 := by omega
  have m3 : q3 = 256 * (q3 / 256) := by omega
  generalize q3 / 256 = q4 at *
  have l5 : q4 / 256 < 16777216 := by omega
  have m4 : q4 = 256 * (q4 / 256) := by omega
  generalize q4 / 256 = q5 at *
  have l6 : q5 / 256 < 65536 := by omega
  have m5 : q5 = 256 * (q5 / 256) := by omega
  generalize q5 / 256 = q6 at *
  have l7 : q6 / 256 < 256 := by omega
  have m6 : q6 = 256 * (q6 / 256) := by omega
  generalize q6 / 256 = q7 at *
  omega

theorem ones_spec (x : Nat) (hx : x < 18446744073709551616) :
    oy3 1085102592571150095 (oy2 3689348814741910323 (oy1 6148914691236517205 x)) < 1000000000000000000 ∧ ones x ≤ 64 ∧ (ones x = 0 ↔ x = 0) := by
  have h := (oy_all 8 x).1
  have k1 : om1 8 = 6148914691236517205 := by decide
  have k2 : om2 8 = 3689348814741910323 := by decide
  have k3 : om3 8 = 1085102592571150095 := by decide
  rw [k1, k2, k3] at h
  by_cases h0 : x = 0
  · subst h0; exact ⟨by decide, by decide, by decide⟩
  have b := byte_y3
  have z0 := b (x % 256) (Nat.mod_lt _ (by omega))
  have z1 := b (x / 256 % 256) (Nat.mod_lt _ (by omega))
  have z2 := b (x / 256 / 256 % 256) (Nat.mod_lt _ (by omega))
  have z3 := b (x / 256 / 256 / 256 % 256) (Nat.mod_lt _ (by omega))
  have z4 := b (x / 256 / 256 / 256 / 256 % 256) (Nat.mod_lt _ (by omega))
  have z5 := b (x / 256 / 256 / 256 / 256 / 256 % 256) (Nat.mod_lt _ (by omega))
  have z6 := b (x / 256 / 256 / 256 / 256 / 256 / 256 % 256) (Nat.mod_lt _ (by omega))
  have z7 := b (x / 256 / 256 / 256 / 256 / 256 / 256 / 256 % 256) (Nat.mod_lt _ (by omega))
  have hne := fun a0 a1 a2 a3 a4 a5 a6 a7 => h0 (bytes_zero x hx (z0.2 a0) (z1.2 a1) (z2.2 a2) (z3.2 a3) (z4.2 a4) (z5.2 a5) (z6.2 a6) (z7.2 a7))
  simp only [oP] at h
  have S := sum_bytes _ _ _ _ _ _ _ _ _ _ _ _ _ _ _ _ _ z0.1 z1.1 z2.1 z3.1 z4.1 z5.1 z6.1 z7.1 rfl rfl rfl rfl rfl rfl rfl rfl rfl
  have hb := Nat.add_le_add (Nat.add_le_add (Nat.add_le_add (Nat.add_le_add (Nat.add_le_add (Nat.add_le_add (Nat.add_le_add z0.1 z1.1) z2.1) z3.1) z4.1) z5.1) z6.1) z7.1
  clear z0 z1 z2 z3 z4 z5 z6 z7 b k1 k2 k3
  generalize oy3 15 (oy2 51 (oy1 85 (x % 256))) = p0 at *
  generalize oy3 15 (oy2 51 (oy1 85 (x / 256 % 256))) = p1 at *
  generalize oy3 15 (oy2 51 (oy1 85 (x / 256 / 256 % 256))) = p2 at *
  generalize oy3 15 (oy2 51 (oy1 85 (x / 256 / 256 / 256 % 256))) = p3 at *
  generalize oy3 15 (oy2 51 (oy1 85 (x / 256 / 256 / 256 / 256 % 256))) = p4 at *
  generalize oy3 15 (oy2 51 (oy1 85 (x / 256 / 256 / 256 / 256 / 256 % 256))) = p5 at *
  generalize oy3 15 (oy2 51 (oy1 85 (x / 256 / 256 / 256 / 256 / 256 / 256 % 256))) = p6 at *
  generalize oy3 15 (oy2 51 (oy1 85 (x / 256 / 256 / 256 / 256 / 256 / 256 / 256 % 256))) = p7 at *
  have S1 := S.1
  have S2 := S.2
  clear S
  unfold ones
  rw [h]
  simp only [Nat.mul_zero, Nat.add_zero] at S1 S2 ⊢
  refine ⟨S1, ?_, ?_⟩
  · rw [S2]; exact hb
  · rw [S2]
    refine ⟨fun e => (hne ?_ ?_ ?_ ?_ ?_ ?_ ?_ ?_).elim, fun e => (h0 e).elim⟩ <;> omega
end Go.Proofs.Ytjodmimnbpgfcaa

/- Len -/
namespace Go.Proofs.Ytjodmimnbpgfcaa
open Go.RowKit Go.IntWalk

theorem wrapN {n : Nat} (h : n < 18446744073709551616) : IntKind.u64.wrap (n : Int) = n := by rw [IntKind.wrap_u64]; omega
theorem andN {a m : Nat} (ha : a < 18446744073709551616) (hm : m < 18446744073709551616) {x y : Int} (hx : x = (a : Int)) (hy : y = (m : Int)) : bits BinOp.and IntKind.u64 x y = ((a &&& m : Nat) : Int) := by
  rw [hx, hy]; exact bits_and_u64_nat a m ha hm
theorem oy1_le (m x : Nat) : oy1 m x ≤ m + m := Nat.add_le_add Nat.and_le_right Nat.and_le_right
theorem oy2_le (m x : Nat) : oy2 m x ≤ m + m := Nat.add_le_add Nat.and_le_right Nat.and_le_right
theorem oy1_int {x : Nat} (hx : x < 18446744073709551616) : bits BinOp.and IntKind.u64 ((x : Int) / 2) 6148914691236517205 + bits BinOp.and IntKind.u64 (x : Int) 6148914691236517205 = ((oy1 6148914691236517205 x : Nat) : Int) := by
  rw [andN (a := x / 2) (m := 6148914691236517205) (x := (x : Int) / 2) (y := 6148914691236517205) (by omega) (by decide) (by simp) rfl, andN (a := x) (m := 6148914691236517205) (x := (x : Int)) (y := 6148914691236517205) hx (by decide) rfl rfl]; rfl
theorem oy2_int {x : Nat} (hx : x < 18446744073709551616) : bits BinOp.and IntKind.u64 ((x : Int) / 4) 3689348814741910323 + bits BinOp.and IntKind.u64 (x : Int) 3689348814741910323 = ((oy2 3689348814741910323 x : Nat) : Int) := by
  rw [andN (a := x / 4) (m := 3689348814741910323) (x := (x : Int) / 4) (y := 3689348814741910323) (by omega) (by decide) (by simp) rfl, andN (a := x) (m := 3689348814741910323) (x := (x : Int)) (y := 3689348814741910323) hx (by decide) rfl rfl]; rfl
theorem oy3_int {x : Nat} (hx : x < 9223372036854775808) : bits BinOp.and IntKind.u64 (IntKind.u64.wrap ((x : Int) / 16 + (x : Int))) 1085102592571150095 = ((oy3 1085102592571150095 x : Nat) : Int) := by
  have e : ((x : Int) / 16 + (x : Int)) = ((x / 16 + x : Nat) : Int) := by simp
  rw [e, wrapN (by omega), andN (a := x / 16 + x) (m := 1085102592571150095) (x := ((x / 16 + x : Nat) : Int)) (y := 1085102592571150095) (by omega) (by decide) rfl rfl]; rfl
theorem fold_int {x k : Nat} {K : Int} (hx : x < 9000000000000000000) (hK : K = (k : Int)) : IntKind.u64.wrap ((x : Int) + (x : Int) / K) = ((x + x / k : Nat) : Int) := by
  subst hK
  have e : ((x : Int) + (x : Int) / (k : Int)) = ((x + x / k : Nat) : Int) := by simp
  have : x / k ≤ x := Nat.div_le_self _ _
  rw [e, wrapN (by omega)]

theorem ones_any (x : Nat) (hx : x < 18446744073709551616) (w : World) :
    Calls Try.prog 86 #[.int .u64 x] w fun e w' => e = .returned (.int .i64 (ones x)) ∧ w = w' := by
  go_enter Try.func86, Try.ntmps86
  go_wp2
  go_ret
  refine ⟨ret_int ?_, rfl⟩
  have sp := ones_spec x hx
  have b1 := oy1_le 6148914691236517205 x
  have b2 := oy2_le 3689348814741910323 (oy1 6148914691236517205 x)
  rw [oy1_int hx, wrapN (by omega), oy2_int (by omega), wrapN (by omega), oy3_int (by omega)]
  have b3 := sp.1
  unfold ones
  dsimp only
  generalize oy3 1085102592571150095 (oy2 3689348814741910323 (oy1 6148914691236517205 x)) = y3 at *
  rw [fold_int (x := y3) (k := 256) (K := 256) (by omega) rfl]
  have b4 : y3 + y3 / 256 < 1100000000000000000 := by omega
  generalize y3 + y3 / 256 = y4 at *
  rw [fold_int (x := y4) (k := 65536) (K := 65536) (by omega) rfl]
  have b5 : y4 + y4 / 65536 < 1200000000000000000 := by omega
  generalize y4 + y4 / 65536 = y5 at *
  rw [fold_int (x := y5) (k := 4294967296) (K := 4294967296) (by omega) rfl]
  have b6 : y5 + y5 / 4294967296 < 1300000000000000000 := by omega
  generalize y5 + y5 / 4294967296 = y6 at *
  have e7 : wrap64 (y6 : Int) = y6 := by unfold wrap64; omega
  rw [e7]
  have := bits_mask .i64 63 (by decide) (fun n h0 h1 => by rw [IntKind.wrap_i64]; omega) 7 (by omega) (y6 : Int) (by omega) (by omega)
  rw [show (2 : Int) ^ 7 - 1 = 127 from rfl, show (2 : Int) ^ 7 = 128 from rfl] at this
  rw [this]; simp

def Set4.len (s : Set4) : Nat := ones s.a + ones s.b + ones s.c + ones s.d

set_option maxHeartbeats 400000 in
theorem len_any {g : G} (s : Set4) (hs : s.wf) (w : World) (hw : Fut g w) :
    Calls Try.prog 71 #[s.val] w fun e w' => e = .returned (.int .i64 s.len) ∧ Grow g w g w' := by
  unfold Set4.val
  obtain ⟨hs0, hs1, hs2, hs3⟩ := hs
  have b0 := (ones_spec _ hs0).2.1
  have b1 := (ones_spec _ hs1).2.1
  have b2 := (ones_spec _ hs2).2.1
  have b3 := (ones_spec _ hs3).2.1
  have i0 : ∀ w, (Instr.index 24 (.agg #[.int .u64 s.a, .int .u64 s.b, .int .u64 s.c, .int .u64 s.d]) (.int .i64 0)).run Try.prog w = .ok (.int .u64 s.a) w := fun _ => by kernel_rfl
  have i1 : ∀ w, (Instr.index 24 (.agg #[.int .u64 s.a, .int .u64 s.b, .int .u64 s.c, .int .u64 s.d]) (.int .i64 1)).run Try.prog w = .ok (.int .u64 s.b) w := fun _ => by kernel_rfl
  have i2 : ∀ w, (Instr.index 24 (.agg #[.int .u64 s.a, .int .u64 s.b, .int .u64 s.c, .int .u64 s.d]) (.int .i64 2)).run Try.prog w = .ok (.int .u64 s.c) w := fun _ => by kernel_rfl
  have i3 : ∀ w, (Instr.index 24 (.agg #[.int .u64 s.a, .int .u64 s.b, .int .u64 s.c, .int .u64 s.d]) (.int .i64 3)).run Try.prog w = .ok (.int .u64 s.d) w := fun _ => by kernel_rfl
  go_enter Try.func71, Try.ntmps71
  go_wp2
  refine wp_loop_rounds 5 ?_
  iterate 5 (rw [rounds_succ]; go_wp2_with (go_at_call 86; refine (ones_any _ (by assumption) _).mono ?_; rintro e w' ⟨rfl, rfl⟩))
  go_ret
  refine ⟨ret_int ?_, (Grow.refl hw).alloc _⟩
  unfold Set4.len
  omega

theorem len_zero {s : Set4} (hs : s.wf) : s.len = 0 ↔ s = ⟨0, 0, 0, 0⟩ := by
  obtain ⟨hs0, hs1, hs2, hs3⟩ := hs
  have b0 := (ones_spec _ hs0).2.2
  have b1 := (ones_spec _ hs1).2.2
  have b2 := (ones_spec _ hs2).2.2
  have b3 := (ones_spec _ hs3).2.2
  obtain ⟨a, b, c, d⟩ := s
  simp only [Set4.len, Set4.mk.injEq] at *
  omega
end Go.Proofs.Ytjodmimnbpgfcaa

/- Can -/
namespace Go.Proofs.Ytjodmimnbpgfcaa

/-- From a place the end is reached by a text. -/
inductive Rch (L : List Nd) : Nat → List UInt8 → Prop
  | done {i : Nat} (h : RS L i 0) : Rch L i []
  | byte {i j : Nat} {x : Nd} {b : UInt8} {u : List UInt8} (h : RS L i j) (hx : L[j]? = some x) (hb : x.set.has b.toNat = true) (h2 : Rch L x.next u) : Rch L i (b :: u)

open Classical in
/-- The end is reached by just so many bytes of some. -/
noncomputable def CanB (L : List Nd) (S : List UInt8) (k i : Nat) : Bool := decide (∃ u : List UInt8, u.length = k ∧ (∀ b ∈ u, b ∈ S) ∧ Rch L i u)

/-- What reaches asks of one place. -/
noncomputable def stepB (L : List Nd) (S : List UInt8) : Nat → Nat → Nd → Bool
  | 0, i, _ => decide (i = 0)
  | k + 1, _, x => CanB L S k x.next && decide (0 < (x.set.and (ofF S)).len)

theorem Set4.has_and (s o : Set4) (x : Nat) : (s.and o).has x = (s.has x && o.has x) := by
  unfold Set4.has Set4.and
  have : ∀ i, Set4.word ⟨s.a &&& o.a, s.b &&& o.b, s.c &&& o.c, s.d &&& o.d⟩ i = s.word i &&& o.word i := fun i => by
    unfold Set4.word
    split <;> rfl
  rw [this, Nat.testBit_and]

theorem zero_bits {a : Nat} (ha : a < 2 ^ 64) (h : ∀ i, i < 64 → a.testBit i = false) : a = 0 := by
  apply Nat.eq_of_testBit_eq
  intro i
  rw [Nat.zero_testBit]
  by_cases hi : i < 64
  · exact h i hi
  · exact Nat.testBit_lt_two_pow (Nat.lt_of_lt_of_le ha (Nat.pow_le_pow_right (by omega) (by omega)))

theorem Set4.zero_of_has {s : Set4} (hs : s.wf) (h : ∀ x, x < 256 → s.has x = false) : s = ⟨0, 0, 0, 0⟩ := by
  obtain ⟨a, b, c, d⟩ := s
  obtain ⟨h0, h1, h2, h3⟩ := hs
  have key : ∀ q i, q < 4 → i < 64 → (Set4.word ⟨a, b, c, d⟩ q).testBit i = false := fun q i hq hi => by
    have := h (q * 64 + i) (by omega)
    unfold Set4.has at this
    rwa [show (q * 64 + i) / 64 = q by omega, show (q * 64 + i) % 64 = i by omega] at this
  have e0 := zero_bits h0 (fun i hi => key 0 i (by omega) hi)
  have e1 := zero_bits h1 (fun i hi => key 1 i (by omega) hi)
  have e2 := zero_bits h2 (fun i hi => key 2 i (by omega) hi)
  have e3 := zero_bits h3 (fun i hi => key 3 i (by omega) hi)
  simp only at e0 e1 e2 e3
  subst e0 e1 e2 e3
  rfl

theorem Set4.has_put (s : Set4) (x y : Nat) (hx : x < 256) (hy : y < 256) : (s.put x).has y = (s.has y || decide (x = y)) := by
  have hxy : (x = y) ↔ (x / 64 = y / 64 ∧ x % 64 = y % 64) := by omega
  unfold Set4.has Set4.put
  have hq : x / 64 = 0 ∨ x / 64 = 1 ∨ x / 64 = 2 ∨ x / 64 = 3 := by omega
  have hp : y / 64 = 0 ∨ y / 64 = 1 ∨ y / 64 = 2 ∨ y / 64 = 3 := by omega
  rcases hq with hq | hq | hq | hq <;> rcases hp with hp | hp | hp | hp <;> simp only [hq, hp] at hxy ⊢ <;> simp [Set4.word, Nat.testBit_or, Nat.testBit_two_pow, hxy]

theorem zero4_has (y : Nat) : zero4.has y = false := by
  unfold Set4.has zero4 Set4.word
  split <;> simp

theorem fold_has : ∀ (l : List UInt8) (s : Set4) (y : Nat), y < 256 → (l.foldl (fun s x => s.put x.toNat) s).has y = (s.has y || decide (∃ b ∈ l, b.toNat = y))
  | [], s, y, _ => by simp
  | x :: r, s, y, hy => by
    rw [List.foldl_cons, fold_has r _ y hy, Set4.has_put _ _ _ x.toNat_lt hy, Bool.or_assoc]
    congr 1
    rw [Bool.eq_iff_iff]
    simp
theorem ofF_has (l : List UInt8) (y : Nat) (hy : y < 256) : (ofF l).has y = decide (∃ b ∈ l, b.toNat = y) := by
  unfold ofF
  rw [fold_has l _ y hy, zero4_has, Bool.false_or]
theorem fold_wf : ∀ (l : List UInt8) (s : Set4), s.wf → (l.foldl (fun s x => s.put x.toNat) s).wf
  | [], _, h => h
  | _ :: r, _, h => fold_wf r _ (Set4.put_wf h _)
theorem ofF_wf (l : List UInt8) : (ofF l).wf := fold_wf l _ zero4_wf
theorem and_wf {s o : Set4} (hs : s.wf) : (s.and o).wf := by
  obtain ⟨h0, h1, h2, h3⟩ := hs
  exact ⟨Nat.lt_of_le_of_lt Nat.and_le_left h0, Nat.lt_of_le_of_lt Nat.and_le_left h1, Nat.lt_of_le_of_lt Nat.and_le_left h2, Nat.lt_of_le_of_lt Nat.and_le_left h3⟩

theorem meet_pos {s : Set4} (hs : s.wf) (S : List UInt8) : 0 < (s.and (ofF S)).len ↔ ∃ b ∈ S, s.has b.toNat = true := by
  have hw := and_wf (o := ofF S) hs
  constructor
  · intro h
    have hne : s.and (ofF S) ≠ ⟨0, 0, 0, 0⟩ := fun e => by rw [(len_zero hw).2 e] at h; omega
    apply Classical.byContradiction
    intro hno
    refine hne (Set4.zero_of_has hw fun x hx => ?_)
    rw [Set4.has_and, ofF_has S x hx]
    cases hsx : s.has x
    · rfl
    · rw [Bool.true_and, decide_eq_false_iff_not]
      rintro ⟨b, hb, rfl⟩
      exact hno ⟨b, hb, hsx⟩
  · rintro ⟨b, hb, hsb⟩
    rcases Nat.eq_zero_or_pos (s.and (ofF S)).len with h | h
    · have e := (len_zero hw).1 h
      have h2 := Set4.has_and s (ofF S) b.toNat
      rw [e, ofF_has S _ b.toNat_lt, hsb] at h2
      have h3 : (⟨0, 0, 0, 0⟩ : Set4).has b.toNat = false := zero4_has _
      rw [h3] at h2
      simp at h2
      exact absurd rfl (h2 b hb)
    · exact h

theorem canB_iff {L : List Nd} {S : List UInt8} {k i : Nat} : CanB L S k i = true ↔ ∃ u : List UInt8, u.length = k ∧ (∀ b ∈ u, b ∈ S) ∧ Rch L i u := by
  unfold CanB
  exact @decide_eq_true_iff _ (Classical.propDecidable _)

/-- What reaches tells. -/
theorem can_step {L : List Nd} (hw : WfW L) {S : List UInt8} {k i : Nat} (hi : i < L.length) {out : List Nat} (hc : ClosedOf L [i] out) : CanB L S k i = out.any fun j => match L[j]? with | some x => stepB L S k j x | none => false := by
  rw [Bool.eq_iff_iff, List.any_eq_true, canB_iff]
  have hat : ∀ j, RS L i j → ∃ x, L[j]? = some x := fun j hj => ⟨_, List.getElem?_eq_getElem (hj.lt hw hi)⟩
  cases k with
  | zero =>
    constructor
    · rintro ⟨u, hu, -, hr⟩
      obtain rfl := List.eq_nil_of_length_eq_zero hu
      cases hr with
      | done h =>
        obtain ⟨x, hx⟩ := hat 0 h
        refine ⟨0, (hc.mem 0).2 ⟨i, by simp, h⟩, ?_⟩
        rw [hx]
        simp [stepB]
    · rintro ⟨j, hj, h⟩
      obtain ⟨f, hf, hr⟩ := (hc.mem j).1 hj
      simp at hf
      subst hf
      refine ⟨[], rfl, by simp, .done ?_⟩
      cases hx : L[j]? with
      | none => rw [hx] at h; simp at h
      | some x =>
        rw [hx] at h
        simp [stepB] at h
        subst h
        exact hr
  | succ k =>
    constructor
    · rintro ⟨u, hu, hS, hr⟩
      cases hr with
      | done h => simp at hu
      | @byte _ j x b u h hx hb h2 =>
        refine ⟨j, (hc.mem j).2 ⟨i, by simp, h⟩, ?_⟩
        rw [hx]
        simp only [stepB, Bool.and_eq_true, decide_eq_true_eq]
        refine ⟨canB_iff.2 ⟨u, by simpa using hu, fun c hc => hS c (by simp [hc]), h2⟩, ?_⟩
        exact (meet_pos (hw.set x (List.mem_of_getElem? hx)) S).2 ⟨b, hS b (by simp), hb⟩
    · rintro ⟨j, hj, h⟩
      obtain ⟨f, hf, hr⟩ := (hc.mem j).1 hj
      simp at hf
      subst hf
      cases hx : L[j]? with
      | none => rw [hx] at h; simp at h
      | some x =>
        rw [hx] at h
        simp only [stepB, Bool.and_eq_true, decide_eq_true_eq] at h
        obtain ⟨u, hu, hS, h2⟩ := canB_iff.1 h.1
        obtain ⟨b, hb, hxb⟩ := (meet_pos (hw.set x (List.mem_of_getElem? hx)) S).1 h.2
        exact ⟨b :: u, by simp [hu], fun c hc => by rcases List.mem_cons.1 hc with rfl | hc; exact hb; exact hS c hc, .byte hr hx hxb h2⟩
end Go.Proofs.Ytjodmimnbpgfcaa
