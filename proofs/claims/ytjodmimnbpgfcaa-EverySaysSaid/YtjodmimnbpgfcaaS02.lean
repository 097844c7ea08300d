/-   Slices of one-cell elements in persistent memory; small laws on blocks. A library text: no claim is stated here. -/
import Derived.Test.YtjodmimnbpgfcaaS01

/- Good -/
namespace Go.Proofs.Ytjodmimnbpgfcaa
open Go.RowKit Go.IntWalk

theorem eqInt22 (d : Nat) (a a' : Int) (w : World) : (Op.equalIn (d + 1) 22 (.int .u64 a) (.int .u64 a')).run Try.prog w = .ok (a == a') w := by
  simp [Op.equalIn]

theorem eq4_run (d : Nat) (a b c e a' b' c' e' : Int) (w : World) : (Op.equalIn (d + 2) 24 (.agg #[.int .u64 a, .int .u64 b, .int .u64 c, .int .u64 e]) (.agg #[.int .u64 a', .int .u64 b', .int .u64 c', .int .u64 e'])).run Try.prog w =
    .ok (a == a' && (b == b' && (c == c' && e == e'))) w := by
  rw [show d + 2 = (d + 1) + 1 from rfl, Op.equalIn]
  simp only [Sem.run_bind, Try.runUnderlying24, Result.andThen_ok, Try.sizeOf22]
  simp only [Std.Legacy.Range.forIn_eq_forIn_range', Std.Legacy.Range.size, Nat.sub_zero, Nat.add_sub_cancel, Nat.div_one, List.range'_succ, List.range'_zero, List.forIn_cons, List.forIn_nil]
  cases h1 : (a == a') <;> cases h2 : (b == b') <;> cases h3 : (c == c') <;> cases h4 : (e == e') <;> simp [part, eqInt22, h1, h2, h3, h4]
theorem eq4_max (a b c e a' b' c' e' : Int) (w : World) : (Op.equalIn 10000 24 (.agg #[.int .u64 a, .int .u64 b, .int .u64 c, .int .u64 e]) (.agg #[.int .u64 a', .int .u64 b', .int .u64 c', .int .u64 e'])).run Try.prog w =
    .ok (a == a' && (b == b' && (c == c' && e == e'))) w := eq4_run 9998 a b c e a' b' c' e' w

def set0 : Set4 := ⟨0, 0, 0, 0⟩
theorem eq_set0 (s : Set4) (w : World) : (Op.equalIn 10000 24 (.agg #[.int .u64 s.a, .int .u64 s.b, .int .u64 s.c, .int .u64 s.d]) (.agg #[.int .u64 0, .int .u64 0, .int .u64 0, .int .u64 0])).run Try.prog w = .ok (decide (s = set0)) w := by
  rw [eq4_max]
  congr 1
  obtain ⟨a, b, c, d⟩ := s
  rw [Bool.eq_iff_iff]
  simp [set0]

mutual
def goodF : Core → Int → Bool
  | .mk k s n l, d => decide (1 ≤ d) && decide ((l.length : Int) = kidsF k) && (decide (k = 2) || decide (s = set0)) &&
      (decide (k = 6) && decide (1 ≤ n) && decide (n ≤ 32) || !decide (k = 6) && decide (n = 0)) && goodL l (d - 1)
def goodL : List Core → Int → Bool
  | [], _ => true
  | x :: r, d => goodF x d && goodL r d
end

/-- What good says of a core but for its parts. -/
def headF (k : Int) (s : Set4) (n : Int) (m : Nat) (d : Int) : Bool :=
  decide (1 ≤ d) && decide ((m : Int) = kidsF k) && (decide (k = 2) || decide (s = set0)) &&
      (decide (k = 6) && decide (1 ≤ n) && decide (n ≤ 32) || !decide (k = 6) && decide (n = 0))

/-- What the walk of good begins with: two boxes. -/
theorem good_boxes {g : G} {w : World} (hw : Fut g w) (k : Int) (s : Set4) (n : Int) (a : Option Addr) (m cap : Nat) (d : Int) : ∃ g1, Grow g w g1 ((w.alloc (.cells #[.int .i64 k, .int .u64 s.a, .int .u64 s.b, .int .u64 s.c, .int .u64 s.d, .int .i64 n, .slice a m cap] 27)).alloc (.cells #[.int .i64 d] 3)) ∧
    g1.blk (w.heap.size + 1) = some (.cells #[.int .i64 d] 3) ∧
    (∀ w', Fut g1 w' → w'.cell? ⟨w.heap.size, 0, none⟩ = some (.int .i64 k)) ∧ (∀ w', Fut g1 w' → w'.cell? ⟨w.heap.size, 1, none⟩ = some (.int .u64 s.a)) ∧
    (∀ w', Fut g1 w' → w'.cell? ⟨w.heap.size, 2, none⟩ = some (.int .u64 s.b)) ∧ (∀ w', Fut g1 w' → w'.cell? ⟨w.heap.size, 3, none⟩ = some (.int .u64 s.c)) ∧
    (∀ w', Fut g1 w' → w'.cell? ⟨w.heap.size, 4, none⟩ = some (.int .u64 s.d)) ∧ (∀ w', Fut g1 w' → w'.cell? ⟨w.heap.size, 5, none⟩ = some (.int .i64 n)) ∧
    (∀ w', Fut g1 w' → w'.cell? ⟨w.heap.size, 6, none⟩ = some (.slice a m cap)) ∧ (∀ w', Fut g1 w' → w'.cell? ⟨w.heap.size + 1, 0, none⟩ = some (.int .i64 d)) := by
  obtain ⟨g1, h, e1, e2⟩ := box2 hw (.cells #[.int .i64 k, .int .u64 s.a, .int .u64 s.b, .int .u64 s.c, .int .u64 s.d, .int .i64 n, .slice a m cap] 27) (.cells #[.int .i64 d] 3)
  exact ⟨g1, h, e2, fut_cell e1 0 _ rfl, fut_cell e1 1 _ rfl, fut_cell e1 2 _ rfl, fut_cell e1 3 _ rfl, fut_cell e1 4 _ rfl, fut_cell e1 5 _ rfl, fut_cell e1 6 _ rfl, fut_cell e2 0 _ rfl⟩

set_option maxHeartbeats 400000 in
theorem good_A {g : G} (k : Int) (s : Set4) (n : Int) (a : Option Addr) (m cap : Nat) (d : Int) (w : World) (hw : Fut g w) (hd : d < 1) :
    Calls Try.prog 25 #[CRow.val ⟨k, s, n, a, m, cap⟩, .int .i64 d] w fun e w' => e = .returned (.bool false) ∧ Grow g w g w' := by
  unfold CRow.val
  have hd1 : decide (d < 1) = true := by simpa using hd
  go_enter Try.func25, Try.ntmps25
  go_wp2_with fail
  go_quiet (fail)
  go_wp2_with fail
  go_ret
  exact ⟨rfl, (((Grow.refl hw).alloc _).alloc _).drewN _⟩

set_option maxHeartbeats 400000 in
theorem good_B {g : G} (k : Int) (s : Set4) (n : Int) (a : Option Addr) (m cap : Nat) (d : Int) (w : World) (hw : Fut g w) (hd : 1 ≤ d) (hk : (m : Int) ≠ kidsF k) :
    Calls Try.prog 25 #[CRow.val ⟨k, s, n, a, m, cap⟩, .int .i64 d] w fun e w' => e = .returned (.bool false) ∧ Grow g w g w' := by
  unfold CRow.val
  obtain ⟨g1, hg, hb, c0, c1, c2, c3, c4, c5, c6, d0⟩ := good_boxes hw k s n a m cap d
  have hd1 : decide (d < 1) = false := by simp; omega
  have e1 : ((m : Int) != kidsF k) = true := by simp [hk]
  have HG := hid hg
  have HB := hid hb
  clear hk hg hb
  go_enter Try.func25, Try.ntmps25
  go_wp2_with fail
  generalize hW : ((w.alloc (.cells #[.int .i64 k, .int .u64 s.a, .int .u64 s.b, .int .u64 s.c, .int .u64 s.d, .int .i64 n, .slice a m cap] 27)).alloc (.cells #[.int .i64 d] 3)) = W at HG ⊢
  clear hW
  refine wp_region_cls (g := g1) (w0 := W) (by kernel_rfl) (by kernel_rfl) (Grow.refl HG.out.fut) ?_
  have hx : ∀ x : Wg g1 W, Fut g1 x.w := fun x => x.h.fut
  have hne : Nonempty (Wg g1 W) := ⟨⟨W, Grow.refl HG.out.fut⟩⟩
  repeat (go_big_quiet_step ((go_at_call 43; exact quiet_same (kids_any _ _))))
  refine wpQuiet_nil ?_
  rintro _ ⟨⟨w2, hg2⟩, rfl⟩
  go_wp2_with fail
  go_ret
  exact ⟨rfl, (HG.out.trans hg2).forget⟩

set_option maxHeartbeats 400000 in
theorem good_C {g : G} (k : Int) (s : Set4) (n : Int) (a : Option Addr) (m cap : Nat) (d : Int) (w : World) (hw : Fut g w) (hd : 1 ≤ d) (hk : (m : Int) = kidsF k) (h2 : k ≠ 2) (hs : s ≠ set0) :
    Calls Try.prog 25 #[CRow.val ⟨k, s, n, a, m, cap⟩, .int .i64 d] w fun e w' => e = .returned (.bool false) ∧ Grow g w g w' := by
  unfold CRow.val
  obtain ⟨g1, hg, hb, c0, c1, c2, c3, c4, c5, c6, d0⟩ := good_boxes hw k s n a m cap d
  have hd1 : decide (d < 1) = false := by simp; omega
  have e1 : ((m : Int) != kidsF k) = false := by simp [hk]
  have e2 : (k != 2) = true := by simp [h2]
  have e3 := eq_set0 s
  rw [decide_eq_false hs] at e3
  have HG := hid hg
  have HB := hid hb
  clear hk hg hb h2
  go_enter Try.func25, Try.ntmps25
  go_wp2_with fail
  generalize hW : ((w.alloc (.cells #[.int .i64 k, .int .u64 s.a, .int .u64 s.b, .int .u64 s.c, .int .u64 s.d, .int .i64 n, .slice a m cap] 27)).alloc (.cells #[.int .i64 d] 3)) = W at HG ⊢
  clear hW
  refine wp_region_cls (g := g1) (w0 := W) (by kernel_rfl) (by kernel_rfl) (Grow.refl HG.out.fut) ?_
  have hx : ∀ x : Wg g1 W, Fut g1 x.w := fun x => x.h.fut
  have hne : Nonempty (Wg g1 W) := ⟨⟨W, Grow.refl HG.out.fut⟩⟩
  repeat (go_big_quiet_step ((go_at_call 43; exact quiet_same (kids_any _ _))))
  refine wpQuiet_nil ?_
  rintro _ ⟨⟨w2, hg2⟩, rfl⟩
  go_wp2_with fail
  go_ret
  exact ⟨rfl, (HG.out.trans hg2).forget⟩

set_option maxHeartbeats 1000000 in
theorem good_D {g : G} (k : Int) (s : Set4) (n : Int) (a : Option Addr) (m cap : Nat) (d : Int) (w : World) (hw : Fut g w) (hd : 1 ≤ d) (hk : (m : Int) = kidsF k)
    (h2 : ((k != 2) = false) ∨ ((k != 2) = true ∧ ∀ w, (Op.equalIn 10000 24 (.agg #[.int .u64 s.a, .int .u64 s.b, .int .u64 s.c, .int .u64 s.d]) (.agg #[.int .u64 0, .int .u64 0, .int .u64 0, .int .u64 0])).run Try.prog w = .ok true w)) 
    (h6 : ((k == 6) = true ∧ (k != 6) = false ∧ n < 1) ∨ ((k == 6) = true ∧ (k != 6) = false ∧ 1 ≤ n ∧ 32 < n) ∨ ((k == 6) = false ∧ (k != 6) = true ∧ (n != 0) = true)) :
    Calls Try.prog 25 #[CRow.val ⟨k, s, n, a, m, cap⟩, .int .i64 d] w fun e w' => e = .returned (.bool false) ∧ Grow g w g w' := by
  unfold CRow.val
  obtain ⟨g1, hg, hb, c0, c1, c2, c3, c4, c5, c6, d0⟩ := good_boxes hw k s n a m cap d
  have hd1 : decide (d < 1) = false := by simp; omega
  have e1 : ((m : Int) != kidsF k) = false := by simp [hk]
  have HG := hid hg
  have HB := hid hb
  clear hk hg hb
  rcases h2 with e2 | ⟨e2, e3⟩ <;> rcases h6 with ⟨f1, f2, f3⟩ | ⟨f1, f2, f3, f4⟩ | ⟨f1, f2, f3⟩
  all_goals
    go_enter Try.func25, Try.ntmps25
    go_wp2_with fail
    generalize hW : ((w.alloc (.cells #[.int .i64 k, .int .u64 s.a, .int .u64 s.b, .int .u64 s.c, .int .u64 s.d, .int .i64 n, .slice a m cap] 27)).alloc (.cells #[.int .i64 d] 3)) = W at HG ⊢
    clear hW
    refine wp_region_cls (g := g1) (w0 := W) (by kernel_rfl) (by kernel_rfl) (Grow.refl HG.out.fut) ?_
    have hx : ∀ x : Wg g1 W, Fut g1 x.w := fun x => x.h.fut
    have hne : Nonempty (Wg g1 W) := ⟨⟨W, Grow.refl HG.out.fut⟩⟩
    repeat (go_big_quiet_step ((go_at_call 43; exact quiet_same (kids_any _ _))))
    refine wpQuiet_nil ?_
    rintro _ ⟨⟨w2, hg2⟩, rfl⟩
    have hf2 := hg2.fut
    have HG2 := hid hg2
    clear hg2 hx hne
    go_wp2_with fail
    go_ret
    exact ⟨rfl, (HG.out.trans HG2.out).forget⟩

set_option maxHeartbeats 1000000 in
theorem good_E {g : G} (k : Int) (s : Set4) (n : Int) (a : Option Addr) (m cap : Nat) (d : Int) (w : World) (hw : Fut g w) (hd : 1 ≤ d) (hk : (m : Int) = kidsF k)
    (h2 : ((k != 2) = false) ∨ ((k != 2) = true ∧ ∀ w, (Op.equalIn 10000 24 (.agg #[.int .u64 s.a, .int .u64 s.b, .int .u64 s.c, .int .u64 s.d]) (.agg #[.int .u64 0, .int .u64 0, .int .u64 0, .int .u64 0])).run Try.prog w = .ok true w)) 
    (h6 : ((k == 6) = true ∧ (k != 6) = false ∧ 1 ≤ n ∧ n ≤ 32) ∨ ((k == 6) = false ∧ (k != 6) = true ∧ (n != 0) = false)) (r : Bool)
    (hcont : ∀ g1 bd, g.Le g1 → g1.blk bd = some (.cells #[.int .i64 d] 3) → ∀ w2, Fut g1 w2 → Calls Try.prog 44 #[.slice a m cap, .func (.func 45) #[] #[.pointer (some ⟨bd, 0, none⟩)]] w2 fun e w' => e = .returned (.bool r) ∧ Grow g1 w2 g1 w') :
    Calls Try.prog 25 #[CRow.val ⟨k, s, n, a, m, cap⟩, .int .i64 d] w fun e w' => e = .returned (.bool (!r)) ∧ Grow g w g w' := by
  unfold CRow.val
  obtain ⟨g1, hg, hb, c0, c1, c2, c3, c4, c5, c6, d0⟩ := good_boxes hw k s n a m cap d
  have hd1 : decide (d < 1) = false := by simp; omega
  have e1 : ((m : Int) != kidsF k) = false := by simp [hk]
  have HC := hcont g1 (w.heap.size + 1) hg.le hb
  have HG := hid hg
  clear hk hg hb hcont
  rcases h2 with e2 | ⟨e2, e3⟩ <;> rcases h6 with ⟨f1, f2, f3, f4⟩ | ⟨f1, f2, f3⟩
  all_goals
    go_enter Try.func25, Try.ntmps25
    go_wp2_with fail
    generalize hW : ((w.alloc (.cells #[.int .i64 k, .int .u64 s.a, .int .u64 s.b, .int .u64 s.c, .int .u64 s.d, .int .i64 n, .slice a m cap] 27)).alloc (.cells #[.int .i64 d] 3)) = W at HG ⊢
    clear hW
    refine wp_region_cls (g := g1) (w0 := W) (by kernel_rfl) (by kernel_rfl) (Grow.refl HG.out.fut) ?_
    have hx : ∀ x : Wg g1 W, Fut g1 x.w := fun x => x.h.fut
    have hne : Nonempty (Wg g1 W) := ⟨⟨W, Grow.refl HG.out.fut⟩⟩
    repeat (go_big_quiet_step ((go_at_call 43; exact quiet_same (kids_any _ _))))
    refine wpQuiet_nil ?_
    rintro _ ⟨⟨w2, hg2⟩, rfl⟩
    have hf2 := hg2.fut
    have HG2 := hid hg2
    clear hg2 hx hne
    go_wp2_with (go_at_call 44; refine (HC _ hf2).mono ?_; rintro e w3 ⟨rfl, hg3⟩)
    go_ret
    exact ⟨rfl, ((HG.out.trans HG2.out).trans hg3).forget⟩

/-- The closure of good: is a part not good? -/
theorem good1_of {g : G} {bd : Nat} {d : Int} {r : CRow} {v : Bool} (hb : g.blk bd = some (.cells #[.int .i64 d] 3)) (hd : -9223372036854775807 ≤ d) (hd2 : d ≤ 9223372036854775807)
    (h : ∀ w, Fut g w → Calls Try.prog 25 #[r.val, .int .i64 (d - 1)] w fun e w' => e = .returned (.bool v) ∧ Grow g w g w') (w : World) (hw : Fut g w) :
    Calls Try.prog 45 #[r.val, .pointer (some ⟨bd, 0, none⟩)] w fun e w' => e = .returned (.bool (!v)) ∧ Grow g w g w' := by
  have d0 := fut_cell hb 0 _ rfl
  have fa := hw.alloc
  have hw' := hw.alloc (.cells #[.int .i64 r.k, .int .u64 r.s.a, .int .u64 r.s.b, .int .u64 r.s.c, .int .u64 r.s.d, .int .i64 r.n, .slice r.a r.len r.cap] 27)
  clear hb
  unfold CRow.val at *
  go_enter Try.func45, Try.ntmps45
  go_wp2_with (go_at_call 25; refine (h _ hw').mono ?_; rintro e w3 ⟨rfl, hg3⟩)
  go_ret
  exact ⟨rfl, ((Grow.refl hw).alloc _).trans hg3⟩

end Go.Proofs.Ytjodmimnbpgfcaa

/- Big -/
namespace Go.Proofs.Ytjodmimnbpgfcaa
open Go.RowKit Go.IntWalk

theorem goodL_any (l : List Core) (d : Int) : goodL l d = !((List.range l.length).any fun i => match l[i]? with | some x => !(goodF x d) | none => false) := by
  suffices ∀ (l : List Core), goodL l d = !(l.any fun x => !(goodF x d)) by
    rw [this]
    congr 1
    rw [Bool.eq_iff_iff, List.any_eq_true, List.any_eq_true]
    constructor
    · rintro ⟨x, hx, h⟩
      obtain ⟨i, hi, rfl⟩ := List.mem_iff_getElem.1 hx
      exact ⟨i, by simpa using hi, by simpa [List.getElem?_eq_getElem hi] using h⟩
    · rintro ⟨i, hi, h⟩
      have hi' : i < l.length := by simpa using hi
      rw [List.getElem?_eq_getElem hi'] at h
      exact ⟨l[i], List.getElem_mem _, h⟩
  intro l
  induction l with
  | nil => rfl
  | cons x r ih => rw [goodL, ih, List.any_cons]; cases goodF x d <;> simp

theorem goodF_split (k : Int) (s : Set4) (n : Int) (l : List Core) (d : Int) : goodF (.mk k s n l) d = (headF k s n l.length d && goodL l (d - 1)) := rfl

theorem good_of_cont {g : G} (k : Int) (s : Set4) (n : Int) (a : Option Addr) (cap : Nat) (l : List Core) (d : Int) (w : World) (hw : Fut g w)
    (hcont : 1 ≤ d → ∀ g1 bd, g.Le g1 → g1.blk bd = some (.cells #[.int .i64 d] 3) → ∀ w2, Fut g1 w2 → Calls Try.prog 44 #[.slice a l.length cap, .func (.func 45) #[] #[.pointer (some ⟨bd, 0, none⟩)]] w2 fun e w' => e = .returned (.bool (!goodL l (d - 1))) ∧ Grow g1 w2 g1 w') :
    Calls Try.prog 25 #[CRow.val ⟨k, s, n, a, l.length, cap⟩, .int .i64 d] w fun e w' => e = .returned (.bool (goodF (.mk k s n l) d)) ∧ Grow g w g w' := by
  rw [goodF_split]
  by_cases hd : d < 1
  · have : headF k s n l.length d = false := by simp [headF]; omega
    rw [this, Bool.false_and]
    exact good_A k s n a _ cap d w hw hd
  have hd1 : 1 ≤ d := by omega
  by_cases hk : (l.length : Int) = kidsF k
  case neg =>
    have : headF k s n l.length d = false := by simp [headF, hk]
    rw [this, Bool.false_and]
    exact good_B k s n a _ cap d w hw hd1 hk
  by_cases h2 : k ≠ 2 ∧ s ≠ set0
  · have : headF k s n l.length d = false := by simp [headF, h2.1, h2.2]
    rw [this, Bool.false_and]
    exact good_C k s n a _ cap d w hw hd1 hk h2.1 h2.2
  have h2' : ((k != 2) = false) ∨ ((k != 2) = true ∧ ∀ w, (Op.equalIn 10000 24 (.agg #[.int .u64 s.a, .int .u64 s.b, .int .u64 s.c, .int .u64 s.d]) (.agg #[.int .u64 0, .int .u64 0, .int .u64 0, .int .u64 0])).run Try.prog w = .ok true w) := by
    by_cases e : k = 2
    · exact .inl (by simp [e])
    · have hs : s = set0 := by
        by_cases hs : s = set0
        · exact hs
        · exact absurd ⟨e, hs⟩ h2
      exact .inr ⟨by simp [e], fun w => by rw [eq_set0, hs]; rfl⟩
  have hh2 : (decide (k = 2) || decide (s = set0)) = true := by
    by_cases e : k = 2
    · simp [e]
    · have hs : s = set0 := by
        by_cases hs : s = set0
        · exact hs
        · exact absurd ⟨e, hs⟩ h2
      simp [hs]
  by_cases h6 : k = 6
  · by_cases hn : 1 ≤ n ∧ n ≤ 32
    · have : headF k s n l.length d = true := by simp only [headF, hh2]; simp [h6, hn.1, hn.2, hd1] at hk ⊢; exact hk
      rw [this, Bool.true_and]
      have := good_E k s n a _ cap d w hw hd1 hk h2' (.inl ⟨by simp [h6], by simp [h6], hn.1, hn.2⟩) _ (hcont hd1)
      simpa using this
    · have : headF k s n l.length d = false := by simp [headF, h6]; omega
      rw [this, Bool.false_and]
      refine good_D k s n a _ cap d w hw hd1 hk h2' ?_
      by_cases hn1 : n < 1
      · exact .inl ⟨by simp [h6], by simp [h6], hn1⟩
      · exact .inr (.inl ⟨by simp [h6], by simp [h6], by omega, by omega⟩)
  · by_cases hn : n = 0
    · have : headF k s n l.length d = true := by simp only [headF, hh2]; simp [h6, hn, hd1, hk]
      rw [this, Bool.true_and]
      have := good_E k s n a _ cap d w hw hd1 hk h2' (.inr ⟨by simp [h6], by simp [h6], by simp [hn]⟩) _ (hcont hd1)
      simpa using this
    · have : headF k s n l.length d = false := by simp [headF, h6, hn]
      rw [this, Bool.false_and]
      exact good_D k s n a _ cap d w hw hd1 hk h2' (.inr (.inr ⟨by simp [h6], by simp [h6], by simp [hn]⟩))

theorem good_any {g : G} {r : CRow} {c : Core} (h : CoreV g r c) : ∀ g', g.Le g' → ∀ (d : Int), d ≤ 9223372036854775807 → ∀ (w : World), Fut g' w →
    Calls Try.prog 25 #[r.val, .int .i64 d] w fun e w' => e = .returned (.bool (goodF c d)) ∧ Grow g' w g' w' := by
  induction h with
  | nil k s n hk hs hn ao cp =>
    intro g' hle d hd w hw
    refine good_of_cont k s n ao cp [] d w hw ?_
    intro _ g1 bd hle1 hb w2 hf2
    exact containsCore_of (indexCore_nil g1 ao cp 45 _ w2 hf2)
  | row k s n hk hs hn b off cap l f hcap hm hc _ ih =>
    intro g' hle d hd w hw
    refine good_of_cont k s n _ cap l d w hw ?_
    intro hd1 g1 bd hle1 hb w2 hf2
    have := containsCore_of (indexCore_any (fun i hi => (hc i hi).le (hle.trans hle1)) hcap hm 45 #[.pointer (some ⟨bd, 0, none⟩)] Try.call45
      (fun i => match l[i]? with | some x => !(goodF x (d - 1)) | none => false)
      (fun i hi w hw => by
        have h1 := good1_of hb (by omega) hd (fun w hw => ih i hi g1 (hle.trans hle1) (d - 1) (by omega) w hw) w hw
        simp only [List.getElem?_eq_getElem hi]
        exact h1) w2 hf2)
    rw [firstI_any] at this
    rw [goodL_any, Bool.not_not]
    exact this

/-- Good. -/
def GoodF (c : Core) : Bool := decide (sizeF c ≤ 2000) && goodF c 8000

theorem Good_any {g : G} {r : CRow} {c : Core} (h : CoreV g r c) (w : World) (hw : Fut g w) :
    Calls Try.prog 9 #[r.val] w fun e w' => e = .returned (.bool (GoodF c)) ∧ Grow g w g w' := by
  have hw' := hw.alloc (.cells #[.int .i64 r.k, .int .u64 r.s.a, .int .u64 r.s.b, .int .u64 r.s.c, .int .u64 r.s.d, .int .i64 r.n, .slice r.a r.len r.cap] 27)
  obtain ⟨g1, hg, hb⟩ := box1 hw (.cells #[.int .i64 r.k, .int .u64 r.s.a, .int .u64 r.s.b, .int .u64 r.s.c, .int .u64 r.s.d, .int .i64 r.n, .slice r.a r.len r.cap] 27)
  have c0 := fut_cell hb 0 _ rfl
  have c1 := fut_cell hb 1 _ rfl
  have c2 := fut_cell hb 2 _ rfl
  have c3 := fut_cell hb 3 _ rfl
  have c4 := fut_cell hb 4 _ rfl
  have c5 := fut_cell hb 5 _ rfl
  have c6 := fut_cell hb 6 _ rfl
  have HG := hid hg
  have h1 := size_any (h.le hg.le)
  have h2 := good_any (h.le hg.le) g1 (G.Le.refl g1) 8000 (by omega)
  have hf := hg.fut
  have hs := sizeF_bd c
  clear hb hg
  unfold GoodF
  unfold CRow.val at *
  by_cases hc : sizeF c ≤ 2000
  all_goals
    go_enter Try.func9, Try.ntmps9
    go_wp2_with (first | (go_at_call 8; refine (h1 _ hf).mono ?_; rintro e w3 ⟨rfl, hg3⟩; have hf3 := hg3.fut; have HG3 := hid hg3; clear hg3) | (go_at_call 25; refine (h2 _ hf3).mono ?_; rintro e w4 ⟨rfl, hg4⟩))
    go_ret
  · exact ⟨by simp [hc], ((HG.out.trans HG3.out).trans hg4).forget⟩
  · have hc' : ¬ sizeF c ≤ 2000 := by omega
    exact ⟨by simp [hc'], (HG.out.trans HG3.out).forget⟩

mutual
def bigF : Core → Int → Bool
  | .mk _ _ _ l, d => if d < 1 ∨ 3 < l.length then true else bigL l (d - 1)
def bigL : List Core → Int → Bool
  | [], _ => false
  | x :: r, d => bigF x d || bigL r d
end

/-- A core in its box. -/
theorem box_core {g : G} {w : World} (hw : Fut g w) (r : CRow) : ∃ g1, Grow g w g1 (w.alloc (.cells #[.int .i64 r.k, .int .u64 r.s.a, .int .u64 r.s.b, .int .u64 r.s.c, .int .u64 r.s.d, .int .i64 r.n, .slice r.a r.len r.cap] 27)) ∧
    (∀ w', Fut g1 w' → w'.cell? ⟨w.heap.size, 0, none⟩ = some (.int .i64 r.k)) ∧ (∀ w', Fut g1 w' → w'.cell? ⟨w.heap.size, 1, none⟩ = some (.int .u64 r.s.a)) ∧
    (∀ w', Fut g1 w' → w'.cell? ⟨w.heap.size, 2, none⟩ = some (.int .u64 r.s.b)) ∧ (∀ w', Fut g1 w' → w'.cell? ⟨w.heap.size, 3, none⟩ = some (.int .u64 r.s.c)) ∧
    (∀ w', Fut g1 w' → w'.cell? ⟨w.heap.size, 4, none⟩ = some (.int .u64 r.s.d)) ∧ (∀ w', Fut g1 w' → w'.cell? ⟨w.heap.size, 5, none⟩ = some (.int .i64 r.n)) ∧
    (∀ w', Fut g1 w' → w'.cell? ⟨w.heap.size, 6, none⟩ = some (.slice r.a r.len r.cap)) := by
  obtain ⟨g1, h, e1⟩ := box1 hw (.cells #[.int .i64 r.k, .int .u64 r.s.a, .int .u64 r.s.b, .int .u64 r.s.c, .int .u64 r.s.d, .int .i64 r.n, .slice r.a r.len r.cap] 27)
  exact ⟨g1, h, fut_cell e1 0 _ rfl, fut_cell e1 1 _ rfl, fut_cell e1 2 _ rfl, fut_cell e1 3 _ rfl, fut_cell e1 4 _ rfl, fut_cell e1 5 _ rfl, fut_cell e1 6 _ rfl⟩

theorem big_yes {g : G} (r : CRow) (d : Int) (w : World) (hw : Fut g w) (h : d < 1 ∨ (1 ≤ d ∧ 3 < r.len)) :
    Calls Try.prog 7 #[r.val, .int .i64 d] w fun e w' => e = .returned (.bool true) ∧ Grow g w g w' := by
  unfold CRow.val
  rcases h with h | ⟨h, h3⟩
  all_goals
    go_enter Try.func7, Try.ntmps7
    go_wp2_with fail
    go_ret
    exact ⟨rfl, (Grow.refl hw).alloc _⟩

theorem big_nil {g : G} (k : Int) (s : Set4) (n : Int) (ao : Option Addr) (cp : Nat) (d : Int) (w : World) (hw : Fut g w) (h : 1 ≤ d) :
    Calls Try.prog 7 #[CRow.val ⟨k, s, n, ao, 0, cp⟩, .int .i64 d] w fun e w' => e = .returned (.bool false) ∧ Grow g w g w' := by
  unfold CRow.val
  go_enter Try.func7, Try.ntmps7
  go_wp2_with fail
  refine wp_loop_rounds 1 ?_; rw [rounds_succ]
  go_wp2
  go_ret
  exact ⟨rfl, (Grow.refl hw).alloc _⟩

set_option maxHeartbeats 400000 in
theorem big_row {g : G} (k : Int) (s : Set4) (n : Int) (b off cap : Nat) (l : List Core) (f : Nat → CRow) (_hcap : l.length ≤ cap) (_hm : cap ≤ 9223372036854775807)
    (hc : ∀ i, i < l.length → CellsAt g b (off + i * 7) (f i)) (d : Int) (hd : 1 ≤ d) (hd2 : d ≤ 9223372036854775807) (h3 : l.length ≤ 3)
    (ih : ∀ i (h : i < l.length) g', g.Le g' → ∀ (w : World), Fut g' w → Calls Try.prog 7 #[(f i).val, .int .i64 (d - 1)] w fun e w' => e = .returned (.bool (bigF l[i] (d - 1))) ∧ Grow g' w g' w')
    (w : World) (hw : Fut g w) :
    Calls Try.prog 7 #[CRow.val ⟨k, s, n, some ⟨b, off, none⟩, l.length, cap⟩, .int .i64 d] w fun e w' => e = .returned (.bool (bigL l (d - 1))) ∧ Grow g w g w' := by
  obtain ⟨g1, hg, -, -, -, -, -, -, c6'⟩ := box_core hw ⟨k, s, n, some ⟨b, off, none⟩, l.length, cap⟩
  have HG := hid hg
  have HC := hid hc
  clear hc hg
  unfold CRow.val at *
  go_enter Try.func7, Try.ntmps7
  go_wp2_with fail
  go_loopw [5] (fun i wr => ∃ (q : Nat), q ≤ l.length ∧ i = .int .i64 q ∧ Grow g w g1 wr ∧ Hid (bigL (l.drop q) (d - 1) = bigL l (d - 1))) (fun i _ => l.length - (intOf i).toNat)
  case atStart => exact ⟨0, Nat.zero_le _, rfl, HG.out, rfl⟩
  case round =>
    obtain ⟨q, hq, rfl, hg, H3⟩ := hrel
    have HG1 := hid hg
    have hfut := hg.fut
    clear hg
    by_cases hlt : q < l.length
    · obtain ⟨c0, c1, c2, c3, c4, c5, c6⟩ := (HC.out q hlt).le HG.out.le
      have IH := ih q hlt g1 HG.out.le wr hfut
      cases hp : bigF l[q] (d - 1) with
      | true =>
        rw [hp] at IH
        have HP := hid hp
        clear hp
        go_wp2_with (with_reducible refine (IH.mono ?_); rintro e w1 ⟨rfl, hg2⟩)
        go_ret
        refine ⟨ret_bool ?_, (HG1.out.trans hg2).forget⟩
        rw [← H3.out, List.drop_eq_getElem_cons hlt, bigL, HP.out, Bool.true_or]
      | false =>
        rw [hp] at IH
        have HP := hid hp
        clear hp
        go_wp2_with (with_reducible refine (IH.mono ?_); rintro e w1 ⟨rfl, hg2⟩)
        go_roundw
        case rel =>
          refine ⟨q + 1, by omega, by go_num, HG1.out.trans hg2, ?_⟩
          have := H3.out
          rw [List.drop_eq_getElem_cons hlt, bigL, HP.out, Bool.false_or] at this
          exact this
        case measure => simp [intOf]; omega
    · go_wp2_with fail
      go_ret
      refine ⟨ret_bool ?_, HG1.out.forget⟩
      rw [← H3.out, List.drop_of_length_le (by omega), bigL]

theorem big_any {g : G} {r : CRow} {c : Core} (h : CoreV g r c) : ∀ g', g.Le g' → ∀ (d : Int), d ≤ 9223372036854775807 → ∀ (w : World), Fut g' w →
    Calls Try.prog 7 #[r.val, .int .i64 d] w fun e w' => e = .returned (.bool (bigF c d)) ∧ Grow g' w g' w' := by
  induction h with
  | nil k s n hk hs hn ao cp =>
    intro g' hle d hd w hw
    rw [bigF]
    by_cases h1 : d < 1
    · rw [if_pos (.inl h1)]; exact big_yes _ d w hw (.inl h1)
    · rw [if_neg (by simp; omega), bigL]; exact big_nil k s n ao cp d w hw (by omega)
  | row k s n hk hs hn b off cap l f hcap hm hc _ ih =>
    intro g' hle d hd w hw
    rw [bigF]
    by_cases h1 : d < 1
    · rw [if_pos (.inl h1)]; exact big_yes _ d w hw (.inl h1)
    by_cases h3 : 3 < l.length
    · rw [if_pos (.inr h3)]; exact big_yes _ d w hw (.inr ⟨by omega, h3⟩)
    · rw [if_neg (by omega)]
      exact big_row k s n b off cap l f hcap hm (fun i hi => (hc i hi).le hle) d (by omega) hd (by omega) (fun i hi g2 hg2 w hw => ih i hi g2 (hle.trans hg2) (d - 1) (by omega) w hw) w hw
end Go.Proofs.Ytjodmimnbpgfcaa

/- Mem -/
namespace Go.Proofs.Ytjodmimnbpgfcaa
open Go.RowKit

/-- A slice of one-cell elements that lies in persistent memory. -/
inductive SliceV (g : G) : Option Addr → Nat → Nat → List Value → Prop
  | nil : SliceV g none 0 0 []
  | row (b off cap : Nat) (vs : List Value) (hcap : vs.length ≤ cap) (hm : cap ≤ 9223372036854775807)
      (hc : ∀ w, Fut g w → ∀ i v, vs[i]? = some v → w.cell? ⟨b, off + i, none⟩ = some v) : SliceV g (some ⟨b, off, none⟩) vs.length cap vs

theorem SliceV.le {g g' : G} {a : Option Addr} {n c : Nat} {vs : List Value} (h : SliceV g a n c vs) (k : g.Le g') : SliceV g' a n c vs := by
  cases h with
  | nil => exact .nil
  | row b off _ _ hcap hm hc => exact .row b off _ _ hcap hm (fun w hw => hc w (hw.le k))
theorem SliceV.length {g : G} {a : Option Addr} {n c : Nat} {vs : List Value} (h : SliceV g a n c vs) : n = vs.length ∧ n ≤ c ∧ c ≤ 9223372036854775807 := by
  cases h with
  | nil => exact ⟨rfl, Nat.le_refl _, by omega⟩
  | row b off _ _ hcap hm hc => exact ⟨rfl, hcap, hm⟩

def byteV (x : UInt8) : Value := .int .u8 (x.toNat : Int)
def natV (k : Nat) : Value := .int .i64 (k : Int)

theorem heap_setCell_same {w : World} {b i : Nat} {arr : Array Value} {t : TypeId} {fz : Nat × Nat} (h : w.heap[b]? = some (.cells arr t fz)) (v : Value) :
    (w.setCell ⟨b, i, none⟩ v).heap[b]? = some (.cells (arr.setIfInBounds i v) t fz) := by
  simp [World.setCell, Array.getElem?_modify, h]
theorem heap_cell {w : World} {b : Nat} {arr : Array Value} {t : TypeId} {fz : Nat × Nat} (h : w.heap[b]? = some (.cells arr t fz)) (i : Nat) (v : Value) (hv : arr[i]? = some v) : w.cell? ⟨b, i, none⟩ = some v := by
  simp [World.cell?, h, hv]
theorem heap_free {w : World} {b : Nat} {arr : Array Value} {t : TypeId} (h : w.heap[b]? = some (.cells arr t (0, 0))) (i : Nat) : w.frozen? ⟨b, i, none⟩ = false := by
  simp [World.frozen?, h]

def Set4.val (s : Set4) : Value := .agg #[.int .u64 s.a, .int .u64 s.b, .int .u64 s.c, .int .u64 s.d]
def Set4.vals (s : Set4) : Array Value := #[.int .u64 s.a, .int .u64 s.b, .int .u64 s.c, .int .u64 s.d]

end Go.Proofs.Ytjodmimnbpgfcaa
