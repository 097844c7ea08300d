/- Where what is said ends; each number of the web's places is one. Plain Lean. A library text: no claim is stated here. every's closed, walked. A library text: no claim is stated here. -/
import Derived.Test.YtjodmimnbpgfcaaM17
import Derived.Test.YtjodmimnbpgfcaaM05
import Derived.Test.YtjodmimnbpgfcaaM13
import Derived.Deep.LoopGhost

/- LangB -/
namespace Go.Proofs.Ytjodmimnbpgfcaa

def reWf : Re → Prop
  | .none => True
  | .empty => True
  | .byte S => S.wf
  | .both a b => reWf a ∧ reWf b
  | .or a b => reWf a ∧ reWf b
  | .star a => reWf a
  | .group a => reWf a
  | .anew a => reWf a

def WfB (L : List Nd) (N : Nat) : Prop := ∀ x ∈ L, (∀ j ∈ x.free, j < N) ∧ x.free.length ≤ 2 ∧ x.next < N ∧ x.set.wf

theorem set0_wf : set0.wf := ⟨by decide, by decide, by decide, by decide⟩
theorem WfB.snoc {L : List Nd} {N : Nat} (h : WfB L N) {x : Nd} (h1 : ∀ j ∈ x.free, j < N) (h2 : x.free.length ≤ 2) (h3 : x.next < N) (h4 : x.set.wf) : WfB (L ++ [x]) N := fun y hy => by
  rcases List.mem_append.1 hy with hy | hy
  · exact h y hy
  · simp at hy; subst hy; exact ⟨h1, h2, h3, h4⟩

theorem addR_wf : ∀ (r : Re) (t : Nat) (L : List Nd) (N : Nat), reWf r → WfB L N → t < N → (addR r t L).2.length ≤ N → 0 < N → WfB (addR r t L).2 N ∧ (addR r t L).1 < N
  | .none, t, L, N, hr, hL, ht, hN, h0 => by
    simp [addR] at hN ⊢
    exact ⟨hL.snoc (by simp [nd0]) (by simp [nd0]) h0 set0_wf, by omega⟩
  | .empty, t, L, N, hr, hL, ht, hN, h0 => ⟨hL, ht⟩
  | .byte S, t, L, N, hr, hL, ht, hN, h0 => by
    simp [addR] at hN ⊢
    exact ⟨hL.snoc (by simp) (by simp) ht hr, by omega⟩
  | .both a b, t, L, N, hr, hL, ht, hN, h0 => by
    have l2 := addR_len a (addR b t L).1 (addR b t L).2
    simp only [addR] at hN ⊢
    obtain ⟨h1, h2⟩ := addR_wf b t L N hr.2 hL ht (by omega) h0
    exact addR_wf a _ _ N hr.1 h1 h2 hN h0
  | .or a b, t, L, N, hr, hL, ht, hN, h0 => by
    have l1 := addR_len a t L
    have l2 := addR_len b t (addR a t L).2
    simp only [addR, List.length_append, List.length_cons, List.length_nil] at hN ⊢
    obtain ⟨h1, h2⟩ := addR_wf a t L N hr.1 hL ht (by omega) h0
    obtain ⟨h3, h4⟩ := addR_wf b t _ N hr.2 h1 ht (by omega) h0
    exact ⟨h3.snoc (by simp; omega) (by simp) h0 set0_wf, by omega⟩
  | .star a, t, L, N, hr, hL, ht, hN, h0 => by
    have l1 := addR_len a L.length (L ++ [nd0])
    simp only [List.length_append, List.length_cons, List.length_nil] at l1
    simp only [addR, List.length_set] at hN ⊢
    obtain ⟨h1, h2⟩ := addR_wf a L.length (L ++ [nd0]) N hr (hL.snoc (by simp [nd0]) (by simp [nd0]) h0 set0_wf) (by omega) hN h0
    refine ⟨fun x hx => ?_, by omega⟩
    rcases List.mem_or_eq_of_mem_set hx with hx | rfl
    · exact h1 x hx
    · exact ⟨by simp; omega, by simp, h0, set0_wf⟩
  | .group a, t, L, N, hr, hL, ht, hN, h0 => by simp only [addR] at hN ⊢; exact addR_wf a t L N hr hL ht hN h0
  | .anew a, t, L, N, hr, hL, ht, hN, h0 => by simp only [addR] at hN ⊢; exact addR_wf a t L N hr hL ht hN h0

theorem web_wf {r : Re} (hr : reWf r) : WfW (addR r 0 [nd0]).2 ∧ (addR r 0 [nd0]).1 < (addR r 0 [nd0]).2.length := by
  have l1 := addR_len r 0 [nd0]
  simp only [List.length_cons, List.length_nil] at l1
  obtain ⟨h1, h2⟩ := addR_wf r 0 [nd0] (addR r 0 [nd0]).2.length hr (fun x hx => by simp at hx; subst hx; exact ⟨by simp [nd0], by simp [nd0], (show 0 < _ by omega), set0_wf⟩) (by omega) (Nat.le_refl _) (by omega)
  exact ⟨⟨fun x hx => (h1 x hx).1, fun x hx => (h1 x hx).2.1, fun x hx => (h1 x hx).2.2.1, fun x hx => (h1 x hx).2.2.2⟩, h2⟩

theorem flatL_sub : ∀ {l : List Core} {x : Core}, x ∈ l → ∀ y ∈ flatC x, y ∈ flatL l
  | z :: r, x, hx, y, hy => by
    simp only [flatL, List.mem_append]
    rcases List.mem_cons.1 hx with rfl | hx
    · exact .inl hy
    · exact .inr (flatL_sub hx y hy)
theorem flatC_sub {c x : Core} (hx : x ∈ c.l) : ∀ y ∈ flatC x, y ∈ flatC c := fun y hy => by
  rw [flatC_l c]
  exact List.mem_cons_of_mem _ (flatL_sub hx y hy)

theorem reWf_of : ∀ (m : Nat) (c : Core), nodes c ≤ m → wfC c = true → (∀ x ∈ flatC c, x.set.wf) → reWf c.re
  | 0, c, hm, _, _ => absurd hm (by have := nodes_pos c; omega)
  | m + 1, c, hm, hw, hs => by
    have hwl : wfL c.l = true := by
      cases c with
      | mk k s n l =>
        simp only [wfC, Bool.and_eq_true] at hw
        exact hw.2
    have hn : nodes c = 1 + nodesL c.l := by cases c; rfl
    have key : ∀ x ∈ c.l, nodes x ≤ m → reWf x.re := fun x hx hxm => reWf_of m x hxm (wfL_mem hwl hx) (fun y hy => hs y (flatC_sub hx y hy))
    have hcs : c.set.wf := hs c (by rw [flatC_l]; simp)
    rcases kids_cases hw with ⟨e, hl, hr⟩ | ⟨e, hl, hr⟩ | ⟨e, hl, hr⟩ | ⟨x, y, e, hl, hr⟩ | ⟨x, y, e, hl, hr⟩ | ⟨x, e, hl, hr⟩ | ⟨x, e, hl, hr⟩ | ⟨x, e, hl, hr⟩
    · rw [hr]; exact trivial
    · rw [hr]; exact trivial
    · rw [hr]; exact hcs
    · rw [hl] at hn key; simp only [nodesL] at hn
      rw [hr]; exact ⟨key x (by simp) (by omega), key y (by simp) (by omega)⟩
    · rw [hl] at hn key; simp only [nodesL] at hn
      rw [hr]; exact ⟨key x (by simp) (by omega), key y (by simp) (by omega)⟩
    · rw [hl] at hn key; simp only [nodesL] at hn
      rw [hr]; exact key x (by simp) (by omega)
    · rw [hl] at hn key; simp only [nodesL] at hn
      rw [hr]; exact key x (by simp) (by omega)
    · rw [hl] at hn key; simp only [nodesL] at hn
      rw [hr]; exact key x (by simp) (by omega)

/-- What is said from a place to a place. -/
def seg (s : List UInt8) (f t : Nat) : List UInt8 := (s.take t).drop f
theorem seg_self (s : List UInt8) (f : Nat) : seg s f f = [] := by unfold seg; simp
theorem seg_app {s : List UInt8} {f k t : Nat} (h1 : f ≤ k) (h2 : k ≤ t) : seg s f k ++ seg s k t = seg s f t := by
  unfold seg
  have e : s.take k = (s.take t).take k := by rw [List.take_take, Nat.min_eq_left h2]
  rw [e]
  generalize s.take t = l
  have : l.drop f = (l.take k ++ l.drop k).drop f := by rw [List.take_append_drop]
  rw [this, List.drop_append]
  congr 1
  by_cases hk : k ≤ l.length
  · rw [List.length_take, Nat.min_eq_left hk, Nat.sub_eq_zero_of_le h1, List.drop_zero]
  · rw [List.drop_eq_nil_of_le (by omega)]; simp
theorem seg_len {s : List UInt8} {f t : Nat} (h2 : t ≤ s.length) : (seg s f t).length = t - f := by
  unfold seg; simp; omega

/-- A split of a part. -/
theorem seg_split {s u v : List UInt8} {f t : Nat} (h1 : f ≤ t) (h2 : t ≤ s.length) (h : seg s f t = u ++ v) : ∃ k, f ≤ k ∧ k ≤ t ∧ seg s f k = u ∧ seg s k t = v := by
  have hl := congrArg List.length h
  rw [seg_len h2, List.length_append] at hl
  have hk : seg s f (f + u.length) ++ seg s (f + u.length) t = u ++ v := by rw [seg_app (by omega) (by omega), h]
  have := List.append_inj hk (by rw [seg_len (by omega)]; omega)
  exact ⟨f + u.length, by omega, by omega, this.1, this.2⟩

/-- Chains of what ends. -/
inductive Chain (E : Nat → Nat → Bool) : Nat → Nat → Prop
  | refl (f : Nat) : Chain E f f
  | step {f k t : Nat} (h : E f k = true) (c : Chain E k t) : Chain E f t
theorem Chain.trans {E : Nat → Nat → Bool} {f k t : Nat} (h : Chain E f k) (c : Chain E k t) : Chain E f t := by
  induction h with
  | refl => exact c
  | step h _ ih => exact .step h (ih c)

theorem star_sound {E : Nat → Nat → Bool} {f : Nat} : ∀ (l : List Nat) (P : Nat → Bool), (∀ t, P t = true → Chain E f t) → ∀ t, l.foldl (starStep E) P t = true → Chain E f t
  | [], P, hP, t, h => hP t h
  | k :: l, P, hP, t, h => by
    refine star_sound l _ ?_ t h
    intro t ht
    unfold starStep at ht
    split at ht
    · rename_i hk
      rcases Bool.or_eq_true _ _ |>.mp ht with h1 | h1
      · exact hP t h1
      · exact (hP k hk).trans (.step h1 (.refl t))
    · exact hP t ht
theorem star_mono {E : Nat → Nat → Bool} : ∀ (l : List Nat) (P : Nat → Bool) (t : Nat), P t = true → l.foldl (starStep E) P t = true
  | [], _, _, h => h
  | k :: l, P, t, h => star_mono l _ t (by unfold starStep; split <;> simp [h])
theorem star_below {E : Nat → Nat → Bool} {n : Nat} (hE : ∀ f t, f ≤ n → E f t = true → f ≤ t) : ∀ (l : List Nat) (P : Nat → Bool) (t : Nat), (∀ k ∈ l, t < k ∧ k ≤ n) → l.foldl (starStep E) P t = P t
  | [], _, _, _ => rfl
  | k :: l, P, t, h => by
    rw [List.foldl_cons, star_below hE l _ t (fun j hj => h j (by simp [hj]))]
    unfold starStep
    split
    · obtain ⟨h1, h2⟩ := h k (by simp)
      cases he : E k t
      · show (P t || E k t) = P t
        rw [he, Bool.or_false]
      · have := hE k t h2 he; omega
    · rfl
theorem star_closed {E : Nat → Nat → Bool} {n : Nat} (hE : ∀ f t, f ≤ n → E f t = true → f ≤ t) : ∀ (m : Nat) (a : Nat) (P : Nat → Bool) (k t : Nat), a ≤ k → k < a + m → a + m ≤ n + 1 → (List.range' a m).foldl (starStep E) P k = true → E k t = true → (List.range' a m).foldl (starStep E) P t = true
  | 0, a, P, k, t, h1, h2, _, _, _ => by omega
  | m + 1, a, P, k, t, h1, h2, h3, hk, he => by
    rw [List.range'_succ, List.foldl_cons] at hk ⊢
    rcases Nat.eq_or_lt_of_le h1 with h | h
    · subst h
      rw [star_below hE _ _ a (fun j hj => by simp [List.mem_range'] at hj; omega)] at hk
      refine star_mono _ _ t ?_
      unfold starStep at hk ⊢
      by_cases hp : P a = true
      · rw [if_pos hp]; simp [he]
      · rw [if_neg hp] at hk; exact absurd hk hp
    · exact star_closed hE m (a + 1) _ k t h (by omega) (by omega) hk he

theorem starSet_iff {E : Nat → Nat → Bool} {n : Nat} (hE : ∀ f t, f ≤ n → E f t = true → f ≤ t ∧ t ≤ n) {f : Nat} (hf : f ≤ n) (t : Nat) : starSet E n f t = true ↔ Chain E f t := by
  unfold starSet
  constructor
  · exact star_sound _ _ (fun t h => by simp at h; subst h; exact .refl _) t
  · intro h
    have key : ∀ (k : Nat), f ≤ k → k ≤ n → Chain E k t → (List.range' f (n + 1 - f)).foldl (starStep E) (fun j => j == f) k = true → (List.range' f (n + 1 - f)).foldl (starStep E) (fun j => j == f) t = true := by
      intro k hk hkn hc
      induction hc with
      | refl => exact id
      | @step k j t he _ ih =>
        intro hP
        have hj := hE k j hkn he
        exact ih h (by omega) hj.2 (star_closed (fun f t a b => (hE f t a b).1) _ f _ k j hk (by omega) (by omega) hP he)
    exact key f (Nat.le_refl _) hf h (star_mono _ _ f (by simp))

theorem both_iff {A : Nat → Bool} {E : Nat → Nat → Bool} : ∀ (l : List Nat) (P : Nat → Bool) (t : Nat), l.foldl (bothStep A E) P t = true ↔ P t = true ∨ ∃ k ∈ l, A k = true ∧ E k t = true
  | [], P, t => by simp
  | k :: l, P, t => by
    rw [List.foldl_cons, both_iff l _ t]
    unfold bothStep
    by_cases hk : A k = true
    · simp [hk, or_assoc]
    · simp [hk]

theorem star_of_chain {s : List UInt8} {a : Re} {E : Nat → Nat → Bool} (hE : ∀ f t, f ≤ s.length → (E f t = true ↔ f ≤ t ∧ t ≤ s.length ∧ Mt a (seg s f t))) {f t : Nat} (h : Chain E f t) : f ≤ s.length → f ≤ t ∧ t ≤ s.length ∧ Mt (.star a) (seg s f t) := by
  induction h with
  | refl f => intro hf; exact ⟨Nat.le_refl _, hf, by rw [seg_self]; exact .snil⟩
  | @step f k t he _ ih =>
    intro hf
    obtain ⟨h1, h2, h3⟩ := (hE f k hf).1 he
    obtain ⟨h4, h5, h6⟩ := ih h2
    exact ⟨by omega, h5, by rw [← seg_app h1 h4]; exact .scons h3 h6⟩
theorem chain_of_star {s : List UInt8} {a : Re} {E : Nat → Nat → Bool} (hE : ∀ f t, f ≤ s.length → (E f t = true ↔ f ≤ t ∧ t ≤ s.length ∧ Mt a (seg s f t))) {r : Re} {w : List UInt8} (h : Mt r w) : r = .star a → ∀ f t, f ≤ t → t ≤ s.length → seg s f t = w → Chain E f t := by
  induction h with
  | @snil b =>
    intro _ f t h1 h2 h3
    have := congrArg List.length h3
    rw [seg_len h2] at this
    obtain rfl : f = t := by simp at this; omega
    exact .refl f
  | @scons b u v hu _ _ ih =>
    intro e f t h1 h2 h3
    cases e
    obtain ⟨k, h4, h5, h6, h7⟩ := seg_split h1 h2 h3
    exact .step ((hE f k (by omega)).2 ⟨h4, by omega, by rw [h6]; exact hu⟩) (ih rfl k t h5 h2 h7)
  | _ => intro e; cases e

theorem endsF_iff (s : List UInt8) : ∀ (r : Re) (f t : Nat), f ≤ s.length → (endsF s r f t = true ↔ f ≤ t ∧ t ≤ s.length ∧ Mt r (seg s f t))
  | .none, f, t, hf => by
    simp only [endsF]
    constructor
    · intro h; cases h
    · rintro ⟨-, -, h⟩; cases h
  | .empty, f, t, hf => by
    simp only [endsF, beq_iff_eq]
    constructor
    · rintro rfl; exact ⟨Nat.le_refl _, hf, by rw [seg_self]; exact .empty⟩
    · rintro ⟨h1, h2, h⟩
      generalize hw : seg s f t = w at h
      cases h
      have := congrArg List.length hw
      rw [seg_len h2] at this
      simp at this
      omega
  | .byte S, f, t, hf => by
    have hseg : ∀ x, s[f]? = some x → seg s f (f + 1) = [x] := fun x hx => by
      obtain ⟨h1, rfl⟩ := List.getElem?_eq_some_iff.1 hx
      unfold seg
      rw [List.take_succ_eq_append_getElem h1, List.drop_append, List.drop_eq_nil_of_le (by simp; omega)]
      simp [Nat.min_eq_left (Nat.le_of_lt h1)]
    rw [endsF]
    constructor
    · intro h
      split at h
      · rename_i x hx
        have hl := (List.getElem?_eq_some_iff.1 hx).1
        simp only [Bool.and_eq_true, beq_iff_eq] at h
        obtain ⟨h1, rfl⟩ := h
        exact ⟨by omega, by omega, by rw [hseg x hx]; exact .byte h1⟩
      · cases h
    · rintro ⟨h1, h2, h⟩
      generalize hw : seg s f t = w at h
      cases h with
      | @byte _ b hb =>
        have hl := congrArg List.length hw
        rw [seg_len h2] at hl
        simp at hl
        obtain rfl : t = f + 1 := by omega
        have hx : s[f]? = some (s[f]'(by omega)) := List.getElem?_eq_getElem (by omega)
        rw [hseg _ hx] at hw
        cases hw
        rw [hx]
        simp [hb]
  | .both a b, f, t, hf => by
    have iha := fun f t h => endsF_iff s a f t h
    have ihb := fun f t h => endsF_iff s b f t h
    simp only [endsF, bothSet]
    rw [both_iff]
    constructor
    · rintro (h | ⟨k, hk, h1, h2⟩)
      · cases h
      · obtain ⟨h3, h4, h5⟩ := (iha f k hf).1 h1
        obtain ⟨h6, h7, h8⟩ := (ihb k t h4).1 h2
        exact ⟨by omega, h7, by rw [← seg_app h3 h6]; exact .both h5 h8⟩
    · rintro ⟨h1, h2, h⟩
      generalize hw : seg s f t = w at h
      cases h with
      | both hu hv =>
        obtain ⟨k, h4, h5, h6, h7⟩ := seg_split h1 h2 hw
        refine .inr ⟨k, List.mem_range'_1.2 ⟨h4, by omega⟩, (iha f k hf).2 ⟨h4, by omega, by rw [h6]; exact hu⟩, (ihb k t (by omega)).2 ⟨h5, h2, by rw [h7]; exact hv⟩⟩
  | .or a b, f, t, hf => by
    simp only [endsF, Bool.or_eq_true]
    rw [endsF_iff s a f t hf, endsF_iff s b f t hf]
    constructor
    · rintro (⟨h1, h2, h3⟩ | ⟨h1, h2, h3⟩)
      · exact ⟨h1, h2, .orl h3⟩
      · exact ⟨h1, h2, .orr h3⟩
    · rintro ⟨h1, h2, h⟩
      cases h with
      | orl h => exact .inl ⟨h1, h2, h⟩
      | orr h => exact .inr ⟨h1, h2, h⟩
  | .star a, f, t, hf => by
    have iha := fun f t h => endsF_iff s a f t h
    simp only [endsF]
    rw [starSet_iff (fun f t hf h => by have := (iha f t hf).1 h; exact ⟨this.1, this.2.1⟩) hf]
    constructor
    · intro h; exact star_of_chain iha h hf
    · rintro ⟨h1, h2, h⟩; exact chain_of_star iha h rfl f t h1 h2 rfl
  | .group a, f, t, hf => by
    simp only [endsF]
    rw [endsF_iff s a f t hf]
    constructor
    · rintro ⟨h1, h2, h3⟩; exact ⟨h1, h2, .group h3⟩
    · rintro ⟨h1, h2, h⟩; cases h with | group h => exact ⟨h1, h2, h⟩
  | .anew a, f, t, hf => by
    simp only [endsF]
    rw [endsF_iff s a f t hf]
    constructor
    · rintro ⟨h1, h2, h3⟩; exact ⟨h1, h2, .anew h3⟩
    · rintro ⟨h1, h2, h⟩; cases h with | anew h => exact ⟨h1, h2, h⟩

theorem says_iff (s : List UInt8) (r : Re) : endsF s r 0 s.length = true ↔ Mt r s := by
  rw [endsF_iff s r 0 s.length (Nat.zero_le _)]
  have : seg s 0 s.length = s := by unfold seg; simp
  rw [this]
  simp
end Go.Proofs.Ytjodmimnbpgfcaa

/- Closed -/
namespace Go.Proofs.Ytjodmimnbpgfcaa
open Go.RowKit Go.IntWalk

theorem HadM.same {w w' : World} {b n : Nat} {out : List Nat} (h : HadM w b n out) (hb : w'.heap[b]? = w.heap[b]?) : HadM w' b n out := by
  obtain ⟨D, ⟨es, clock, h1, h2⟩, h3⟩ := h
  exact ⟨D, ⟨es, clock, hb.trans h1, h2⟩, h3⟩

def ClosedP (g : G) (w : World) (L : List Nd) (fr : List Nat) (e : Ending) (w' : World) : Prop :=
  ∃ g' ao cap out, e = .returned (.slice ao out.length cap) ∧ Grow g w g' w' ∧ SliceV g' ao out.length cap (out.map natV) ∧ ClosedOf L fr out

theorem closed_start {g : G} {w w2 : World} {fr : List Nat} {ao : Option Addr} {cap : Nat} (hw : Fut g w) (hg : Grow g (w.alloc (.map #[] 0)) g w2) (ho : w2.ownsRow (w.alloc (.map #[] 0)).heap.size 3 1 (.slice ao (fr.map natV).length cap) (fr.map natV).length (fr.map natV)) :
    CI g w w2 ao cap fr none 0 [] ∧ HadM w2 w.heap.size 0 [] := by
  have hs : (w.alloc (.map #[] 0)).heap.size = w.heap.size + 1 := World.size_alloc _ _
  rw [hs] at ho
  refine ⟨⟨hw, ((Grow.refl hw).alloc _).trans hg, by simpa using ho, World.ownsRow_nil _ _ _ _, fun k hk => by simp [Value.ownBlock] at hk⟩, ?_⟩
  exact (HadM.made w).same (hg.old _ (by rw [hs]; omega))

theorem closed_end {g : G} {w wr : World} {L : List Nd} {fr out : List Nat} {ao oo : Option Addr} {ac oc : Nat} (hc : CI g w wr ao ac [] oo oc out) (hs : CSt L fr [] out) : ClosedP g w L fr (.returned (.slice oo out.length oc)) wr := by
  obtain ⟨g', h1, -, h3, -⟩ := sl_keep (hc.grow.step fun _ => False) hc.ro (fun k hk => by
    have := (hc.ro.lt k hk).1
    exact ⟨by omega, hc.fut0.none_of_size (by omega)⟩)
  exact ⟨g', oo, oc, out, rfl, h1.grow, h3, hs.end_⟩

set_option maxRecDepth 100000 in
set_option maxHeartbeats 4000000 in
theorem closed_any {g : G} {wb b lc : Nat} {L : List Nd} (hW : WebL g wb b lc L) (hwf : WfW L) (hL : L.length ≤ 100000) {fa : Option Addr} {fn fc : Nat} {fr : List Nat} (hf : SliceV g fa fn fc (fr.map natV)) (hfl : fr.length ≤ 100000) (hfr : ∀ i ∈ fr, i < L.length) (w : World) (hw : Fut g w) :
    Calls Try.prog 30 #[.pointer (some ⟨wb, 0, none⟩), .slice fa fn fc] w (ClosedP g w L fr) := by
  have hfw := hw.alloc (.map #[] 0)
  have hclone := clone_ints hf hfl _ hfw
  have HC := hid hclone
  have HW := hid hW
  have HF := hid hf
  have k0 := hW.c0
  have hmk : (Instr.makeMap 103 none).run Try.prog w = .ok (.map (some w.heap.size)) (w.alloc (.map #[] 0)) := run_makeMap _ _
  clear hclone hW hf
  go_enter Try.func30, Try.ntmps30
  go_wp2_with (first | (go_at_call 53; refine HC.out.mono ?_) | fail)
  rintro e w2 ⟨ao, cap, rfl, hg2, ho2⟩
  obtain ⟨hCI, hHad⟩ := closed_start hw hg2 ho2
  rw [List.length_map]
  have HCI := hid hCI
  have HHad := hid hHad
  clear hg2 ho2 hCI hHad HC hfw
  go_wp2_with fail
  go_loopg [6, 7] (3 * L.length + fr.length) (fun rem a6 a7 wr => ∃ ao ac all oo oc out, a6 = .slice ao all.length ac ∧ a7 = .slice oo out.length oc ∧ rem = 3 * (L.length - out.length) + all.length ∧ rem ≤ 3 * L.length + fr.length ∧ Hid (CI g w wr ao ac all oo oc out) ∧ Hid (HadM wr w.heap.size out.length out) ∧ Hid (CSt L fr all out))
  case atStart => exact ⟨ao, cap, fr, none, 0, [], rfl, rfl, by simp, Nat.le_refl _, HCI, HHad, CSt.start hfr⟩
  case round =>
    obtain ⟨ao, ac, all, oo, oc, out, rfl, rfl, hrem, hle, HCI, HHad, HSt⟩ := hrel
    have hfr := HCI.out.grow.fut
    have hol := HSt.out.len
    rcases List.eq_nil_or_concat all with rfl | ⟨pre, i, rfl⟩
    · go_wp2_with fail
      go_ret
      exact closed_end HCI.out HSt.out
    · rw [List.concat_eq_append] at *
      have hlen : (pre ++ [i]).length = pre.length + 1 := by simp
      have hra := HCI.out.ra
      have hne0 : 0 < (pre ++ [i]).length := by rw [hlen]; omega
      obtain ⟨ka, cap, hv, -, -⟩ := hra.form hne0
      have hil := HSt.out.alt i (by simp)
      simp only [Value.slice.injEq, true_and] at hv
      obtain ⟨rfl, rfl⟩ := hv
      have hcapi : (pre.length : Int) ≤ (ac : Int) := by
        rcases hra.2 with ⟨h1, h2⟩ | ⟨k, c, cur, h1, h2, h3, h4, -⟩
        · omega
        · simp only [Value.slice.injEq, true_and] at h1
          obtain ⟨-, rfl⟩ := h1
          omega
      have hcell : wr.cell? ⟨ka, pre.length, none⟩ = some (.int .i64 i) := by
        rw [hra.cellAt _ (by omega)]
        simp [natV]
      obtain ⟨x, hx⟩ : ∃ x, L[i]? = some x := ⟨_, List.getElem?_eq_getElem hil⟩
      obtain ⟨r, hnok, n0, n1, n2, n3, n4, n5⟩ := HW.out.nd i x hx
      have hpl : pre.length ≤ 400000 := by rw [hlen] at hrem; omega
      have hwr : wrap64 (pre.length : Int) = pre.length := wrap64_in _ (by omega)
      have hixi : (i : Int) < (L.length : Int) := by omega
      have hixp : (pre.length : Int) < ((pre.length : Int) + 1) := by omega
      have hig : (0 : Int) < (pre.length : Int) + 1 := by omega
      have HNK := hid hnok
      have HX := hid hx
      have HR := hid hrem
      have HLE := hid hle
      have HOL := hid hol
      have HIL := hid hil
      have HPL := hid hpl
      rw [hlen]
      clear hnok hx hrem hle hol hra hne0 hil hlen hpl n1 n2 n3 n4 n5
      by_cases hin : i ∈ out
      · have hd : decide (i ∈ out) = true := by simp [hin]
        have HIN := hid hin
        clear hin
        go_wp2_with (first | (at_lookup; refine wpList_lookup_had HHad.out (i := i) (by have h1 := HIL.out; omega) rfl _ _ rfl rfl rfl ?_; rw [hd]) | fail)
        go_roundg (3 * (L.length - out.length) + pre.length)
        case measure => have h1 := HR.out; simp at h1; omega
        case rel =>
          exact ⟨some ⟨ka, 0, none⟩, ac, pre, oo, oc, out, by go_num, rfl, rfl, by have h1 := HR.out; have h2 := HLE.out; simp at h1; omega, HCI.out.pop, HHad.out, HSt.out.skip HIN.out⟩
      · have hd : decide (i ∈ out) = false := by simp [hin]
        have HIN := hid hin
        have HSt2 := hid (HSt.out.add hwf hin HX.out)
        have hfl2 := hwf.two x (List.mem_of_getElem? HX.out)
        have hfn := HNK.out.free.length.1
        rw [List.length_map] at hfn
        have HFL := hid (And.intro hfn hfl2)
        clear hin hfl2 hfn
        obtain ⟨i0, hi, hz0, hz1, hz2⟩ := info_parts Try.info3'
        go_wp2_with (first | (at_lookup; refine wpList_lookup_had HHad.out (i := i) (by have h1 := HIL.out; omega) rfl _ _ rfl rfl rfl ?_; rw [hd]) | (at_mapUpdate; refine wpList_update_had HHad.out (by have h1 := HOL.out; unfold maxLen; omega) (i := i) (by have h1 := HIL.out; omega) rfl _ _ _ rfl rfl rfl rfl ?_) | fail)
        intro w3 hhad3 hg3
        have HCI3 := hid (HCI.out.pop.other hg3)
        have HH3 := hid hhad3
        have hf3 := HCI3.out.grow.fut
        clear hhad3 hg3 hcell hfr HCI HHad
        go_wp2_with (first | (at_builtin; refine wpList_append_lies _ rfl (.tmp 31) (.tmp 33) 70 rfl (w.heap.size + 1) 3 i0 (.int .i64 0) 1 8 Try.underlying70 hi hz0 hz1 hz2 rfl (by decide) (.slice oo out.length oc) out.length (out.map natV) rfl (HCI3.out.alloc _).ro ⟨w3.heap.size, 0, none⟩ 1 1 [natV i] rfl rfl (cell_one_new w3 (natV i) 3) (natV_one [i]) (by decide) (by have h1 := HOL.out; unfold maxLen; omega) (by have h1 := HOL.out; omega) (by have h1 := HCI3.out.ra.lt ka rfl; rw [World.size_alloc]; omega) _ rfl ?_) | fail)
        intro kb kcap w4 hown4 hgrow4 hat4 hlt4
        have HCI4 := hid ((HCI3.out.alloc _).appOut hgrow4 hown4 (by rw [World.size_alloc]; exact hat4))
        have HH4 := hid ((HH3.out.kept (World.grownBy_alloc _ _ none) (by simp)).kept hgrow4 (own_far (HCI3.out.alloc (.cells #[natV i] 3)).ro))
        have hf4 := HCI4.out.grow.fut
        clear hown4 hgrow4 hat4 hlt4 HCI3 HH3 hf3
        go_wp2_with (first | (at_builtin; refine wpList_append_sl _ rfl (.tmp 35) (.tmp 43) 70 rfl (w.heap.size + 1) 3 i0 (.int .i64 0) 8 Try.underlying70 hi hz0 hz1 hz2 rfl rfl HCI4.out.ra rfl HNK.out.free hf4 (natV_one _) (by have h1 := HPL.out; have h2 := HFL.out; unfold maxLen; omega) (by have h1 := HPL.out; have h2 := HFL.out; omega) (by have h1 := HCI4.out.ra.lt ka rfl; omega) ?_) | fail)
        intro aa5 ac5 w5 hown5 hgrow5 hat5
        have HCI5 := hid (HCI4.out.appAll HFL.out.1 hgrow5 hown5 hat5)
        have HH5 := hid (HH4.out.kept hgrow5 (own_far HCI4.out.ra))
        clear hown5 hgrow5 hat5 HCI4 HH4 hf4
        go_wp2_with fail
        go_roundg (3 * (L.length - (out.length + 1)) + (pre.length + x.free.length))
        case measure => have h1 := HR.out; have h2 := HSt2.out.len; have h3 := HFL.out; simp at h1 h2; omega
        case rel =>
          refine ⟨aa5, ac5, pre ++ x.free, _, kcap, out ++ [i], by simp [HFL.out.1], by simp, by simp, ?_, HCI5.out, hid (by simpa using HH5.out), HSt2.out⟩
          have h1 := HR.out; have h2 := HSt2.out.len; have h3 := HFL.out; have h4 := HLE.out; simp at h1 h2; omega
end Go.Proofs.Ytjodmimnbpgfcaa
