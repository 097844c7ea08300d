/- The reference's Texts and the program's. Plain Lean, no program. A library text: no claim is stated here. -/
import Derived.Test.YtjodmimnbpgfcaaS43
import Derived.Test.YtjodmimnbpgfcaaS46

/- PlE -/
namespace Go.Proofs.Ytjodmimnbpgfcaa

theorem Mt.star_app {r : Re} {u : List UInt8} (h : Mt r u) : ∀ {a : Re}, r = .star a → ∀ {v : List UInt8}, Mt (.star a) v → Mt (.star a) (u ++ v) := by
  induction h with
  | snil => intro a e v hv; cases e; exact hv
  | scons h _ _ ih =>
    intro a e v hv
    cases e
    rw [List.append_assoc]
    exact .scons h (ih rfl hv)
  | _ => intro a e; cases e
theorem Mt.star_one {a : Re} {u : List UInt8} (h : Mt a u) : Mt (.star a) u := by
  have := Mt.scons h (.snil (a := a))
  rwa [List.append_nil] at this

theorem count_more {P Q : Nat → Bool} : ∀ (l : List Nat), (∀ x ∈ l, P x = true → Q x = true) → (∃ x ∈ l, Q x = true ∧ P x = false) → l.countP P + 1 ≤ l.countP Q
  | [], _, h => by obtain ⟨x, hx, -⟩ := h; simp at hx
  | x :: r, hs, h => by
    rw [List.countP_cons, List.countP_cons]
    have hmono : r.countP P ≤ r.countP Q := List.countP_mono_left fun y hy => hs y (List.mem_cons_of_mem _ hy)
    obtain ⟨y, hy, h1, h2⟩ := h
    rcases List.mem_cons.1 hy with rfl | hy
    · simp [h1, h2]; omega
    · have := count_more r (fun z hz => hs z (List.mem_cons_of_mem _ hz)) ⟨y, hy, h1, h2⟩
      cases hp : P x with
      | true => simp [hs x (by simp) hp]; omega
      | false => simp; omega
theorem count_all {P : Nat → Bool} {n : Nat} (h : n + 1 ≤ (List.range (n + 1)).countP P) : ∀ t, t ≤ n → P t = true := by
  have h1 := List.countP_le_length (p := P) (l := List.range (n + 1))
  have h2 : (List.range (n + 1)).countP P = (List.range (n + 1)).length := by rw [List.length_range] at h1 ⊢; omega
  intro t ht
  exact List.countP_eq_length.1 h2 t (by simp; omega)

section
variable {s : List UInt8} {a : Re} {E : (Nat → Bool) → Nat → Bool}

def Rl (s : List UInt8) (r : Re) (P : Nat → Bool) (t : Nat) : Prop := ∃ f, f ≤ s.length ∧ P f = true ∧ f ≤ t ∧ Mt r (seg s f t)

theorem starIt_sound (hE : ∀ P t, t ≤ s.length → (E P t = true ↔ Rl s a P t)) (P0 : Nat → Bool) : ∀ (k : Nat) (P : Nat → Bool), (∀ t, t ≤ s.length → P t = true → Rl s (.star a) P0 t) → ∀ t, t ≤ s.length → starIt s.length E k P t = true → Rl s (.star a) P0 t := by
  have step : ∀ P : Nat → Bool, (∀ t, t ≤ s.length → P t = true → Rl s (.star a) P0 t) → ∀ t, t ≤ s.length → (P t || E P t) = true → Rl s (.star a) P0 t := by
    intro P hP t ht h
    rcases (Bool.or_eq_true _ _).mp h with h | h
    · exact hP t ht h
    · obtain ⟨k, hk, h1, h2, h3⟩ := (hE P t ht).1 h
      obtain ⟨f, hf, k1, k2, k3⟩ := hP k hk h1
      refine ⟨f, hf, k1, by omega, ?_⟩
      rw [← seg_app k2 h2]
      exact k3.star_app rfl h3.star_one
  intro k
  induction k with
  | zero => intro P hP t ht h; exact hP t ht h
  | succ k ih =>
    intro P hP t ht h
    rw [starIt] at h
    split at h
    · exact ih _ (fun t ht h => step P hP t ht h) t ht h
    · exact step P hP t ht h
theorem starIt_has : ∀ (k : Nat) (P : Nat → Bool) (t : Nat), P t = true → starIt s.length E k P t = true
  | 0, P, t, h => h
  | k + 1, P, t, h => by
    rw [starIt]
    split
    · exact starIt_has k _ t (by simp [h])
    · simp [h]
theorem starIt_closed (hE : ∀ P t, t ≤ s.length → (E P t = true ↔ Rl s a P t)) : ∀ (k : Nat) (P : Nat → Bool), s.length + 1 ≤ k + (List.range (s.length + 1)).countP P → ∀ f t, f ≤ t → t ≤ s.length → starIt s.length E k P f = true → Mt a (seg s f t) → starIt s.length E k P t = true
  | 0, P, hc, f, t, h1, h2, h3, h4 => by
    show P t = true
    exact count_all (P := P) (by omega) t h2
  | k + 1, P, hc, f, t, h1, h2, h3, h4 => by
    by_cases hg : (List.range (s.length + 1)).any (fun i => E P i && !P i) = true
    · rw [starIt_yes hg] at h3 ⊢
      refine starIt_closed hE k _ ?_ f t h1 h2 h3 h4
      rw [List.any_eq_true] at hg
      obtain ⟨i, hi, hg⟩ := hg
      rw [Bool.and_eq_true] at hg
      have := count_more (P := P) (Q := fun i => P i || E P i) (List.range (s.length + 1)) (fun x _ h => by simp [h]) ⟨i, hi, by simp [hg.1], by simpa using hg.2⟩
      omega
    · have hg' : (List.range (s.length + 1)).any (fun i => E P i && !P i) = false := by simpa using hg
      rw [starIt_no hg'] at h3 ⊢
      have hcl : ∀ i, i ≤ s.length → E P i = true → P i = true := fun i hi h => by
        rw [List.any_eq_false] at hg'
        have := hg' i (by simp; omega)
        rw [h] at this
        simpa using this
      have hPf : P f = true := by
        rcases (Bool.or_eq_true _ _).mp h3 with h | h
        · exact h
        · exact hcl f (by omega) h
      have : E P t = true := (hE P t h2).2 ⟨f, by omega, hPf, h1, h4⟩
      simp [this]
theorem starIt_star (hE : ∀ P t, t ≤ s.length → (E P t = true ↔ Rl s a P t)) {k : Nat} {P : Nat → Bool} (hc : s.length + 1 ≤ k + (List.range (s.length + 1)).countP P) {r : Re} {w : List UInt8} (h : Mt r w) : r = .star a → ∀ f t, f ≤ t → t ≤ s.length → seg s f t = w → starIt s.length E k P f = true → starIt s.length E k P t = true := by
  induction h with
  | snil =>
    intro _ f t h1 h2 h3 h4
    rw [seg_nil h1 h2 h3]
    exact h4
  | scons hu _ _ ih =>
    intro e f t h1 h2 h3 h4
    cases e
    obtain ⟨j, k1, k2, k3, k4⟩ := seg_split h1 h2 h3
    refine ih rfl j t k2 h2 k4 (starIt_closed hE k P hc f j k1 (by omega) h4 (by rw [k3]; exact hu))
  | _ => intro e; cases e
end

theorem endsR_iff (s : List UInt8) : ∀ (r : Re) (P : Nat → Bool) (t : Nat), t ≤ s.length → (endsR s r P t = true ↔ Rl s r P t)
  | .none, P, t, ht => by
    constructor
    · intro h; simp [endsR] at h
    · rintro ⟨f, -, -, -, h⟩; cases h
  | .empty, P, t, ht => by
    rw [endsR]
    constructor
    · intro h; exact ⟨t, ht, h, Nat.le_refl _, by rw [seg_self]; exact .empty⟩
    · rintro ⟨f, h1, h2, h3, h⟩
      generalize hu : seg s f t = u at h
      cases h
      rw [seg_nil h3 ht hu]; exact h2
  | .byte S, P, t, ht => by
    rcases t with _ | i
    · constructor
      · intro h; simp [endsR] at h
      · rintro ⟨f, h1, h2, h3, h⟩
        obtain rfl : f = 0 := by omega
        rw [seg_self] at h
        cases h
    · have hs : s[i]? = some s[i] := List.getElem?_eq_getElem (by omega)
      have e : endsR s (.byte S) P (i + 1) = (P i && S.has s[i].toNat) := by simp [endsR, hs]
      rw [e, Bool.and_eq_true]
      constructor
      · rintro ⟨h1, h2⟩
        exact ⟨i, by omega, h1, by omega, by rw [seg_one hs]; exact .byte h2⟩
      · rintro ⟨f, h1, h2, h3, h⟩
        generalize hu : seg s f (i + 1) = u at h
        cases h with
        | @byte S b hb =>
          have hl := seg_len (s := s) (f := f) ht
          rw [hu] at hl
          simp at hl
          obtain rfl : f = i := by omega
          rw [seg_one hs] at hu
          simp at hu
          rw [hu]
          exact ⟨h2, hb⟩
  | .both a b, P, t, ht => by
    rw [endsR, endsR_iff s b _ t ht]
    constructor
    · rintro ⟨k, h1, h2, h3, h4⟩
      obtain ⟨f, k1, k2, k3, k4⟩ := (endsR_iff s a P k h1).1 h2
      exact ⟨f, k1, k2, by omega, by rw [← seg_app k3 h3]; exact .both k4 h4⟩
    · rintro ⟨f, h1, h2, h3, h⟩
      generalize hu : seg s f t = u at h
      cases h with
      | both hx hy =>
        obtain ⟨k, k1, k2, k3, k4⟩ := seg_split h3 ht hu
        exact ⟨k, by omega, (endsR_iff s a P k (by omega)).2 ⟨f, h1, h2, k1, by rw [k3]; exact hx⟩, k2, by rw [k4]; exact hy⟩
  | .or a b, P, t, ht => by
    rw [endsR, Bool.or_eq_true, endsR_iff s a P t ht, endsR_iff s b P t ht]
    constructor
    · rintro (⟨f, h1, h2, h3, h4⟩ | ⟨f, h1, h2, h3, h4⟩)
      · exact ⟨f, h1, h2, h3, .orl h4⟩
      · exact ⟨f, h1, h2, h3, .orr h4⟩
    · rintro ⟨f, h1, h2, h3, h⟩
      cases h with
      | orl h => exact .inl ⟨f, h1, h2, h3, h⟩
      | orr h => exact .inr ⟨f, h1, h2, h3, h⟩
  | .star a, P, t, ht => by
    rw [endsR]
    have hE := endsR_iff s a
    constructor
    · exact starIt_sound hE P _ P (fun t ht h => ⟨t, ht, h, Nat.le_refl _, by rw [seg_self]; exact .snil⟩) t ht
    · rintro ⟨f, h1, h2, h3, h⟩
      exact starIt_star hE (by omega) h rfl f t h3 ht rfl (starIt_has _ P f h2)
  | .group a, P, t, ht => by
    rw [endsR, endsR_iff s a P t ht]
    constructor
    · rintro ⟨f, h1, h2, h3, h⟩; exact ⟨f, h1, h2, h3, .group h⟩
    · rintro ⟨f, h1, h2, h3, h⟩
      cases h with
      | group h => exact ⟨f, h1, h2, h3, h⟩
  | .anew a, P, t, ht => by
    rw [endsR, endsR_iff s a P t ht]
    constructor
    · rintro ⟨f, h1, h2, h3, h⟩; exact ⟨f, h1, h2, h3, .anew h⟩
    · rintro ⟨f, h1, h2, h3, h⟩
      cases h with
      | anew h => exact ⟨f, h1, h2, h3, h⟩

theorem saysR_iff (c : Core) (u : List UInt8) : saysR c u = true ↔ Mt c.re u := by
  have hseg : seg u 0 u.length = u := by unfold seg; simp
  unfold saysR
  rw [endsR_iff u c.re _ _ (Nat.le_refl _)]
  constructor
  · rintro ⟨f, -, h2, -, h⟩
    have : f = 0 := by simpa using h2
    rw [this, hseg] at h
    exact h
  · intro h
    exact ⟨0, Nat.zero_le _, rfl, Nat.zero_le _, by rw [hseg]; exact h⟩

theorem words_next (S : List UInt8) : ∀ k, allWords S (k + 1) = nextW S (allWords S k)
  | 0 => by
    simp only [allWords, nextW, List.map_cons, List.map_nil, List.flatMap_cons, List.flatMap_nil, List.append_nil, List.nil_append]
    induction S with
    | nil => rfl
    | cons b r ih => simp [ih]
  | k + 1 => by
    have h1 : allWords S (k + 2) = S.flatMap fun b => (allWords S (k + 1)).map fun u => b :: u := rfl
    have hL : allWords S (k + 2) = S.flatMap fun b => (nextW S (allWords S k)).map fun u => b :: u := by rw [h1, words_next S k]
    rw [hL]
    unfold nextW
    rw [show allWords S (k + 1) = S.flatMap fun b => (allWords S k).map fun u => b :: u from rfl, List.flatMap_assoc]
    congr 1
    funext b
    rw [List.map_flatMap, List.flatMap_map]
    congr 1
    funext u
    rw [List.map_map]
    rfl
theorem words_same (S : List UInt8) : ∀ k, wordsR S k = allWords S k
  | 0 => rfl
  | k + 1 => by rw [words_next, ← words_same S k]; rfl
theorem textsR_same (c : Core) (S : List UInt8) (n : Nat) : textsR c S (n + 1) = textsL c S n := by
  unfold textsR textsL
  congr 1
  funext k
  rw [words_same]
  congr 1
  funext u
  rw [Bool.eq_iff_iff, saysR_iff, atB_iff]
  simp [web_says]

theorem texts_same (c : Core) (n most : Int) (hg : GoodF c = formedF c) : textsF c [97, 98] n most = refTexts c [97, 98] n most := by
  unfold textsF refTexts
  rw [textsR_same]
  by_cases hbad : formedF c = false ∨ n < 0 ∨ 8 < n ∨ 16 < ([97, 98] : List UInt8).length ∨ most < 0 ∨ 2000 < most
  · rw [if_pos hbad, if_neg]
    unfold textsOk mayB
    rw [hg]
    rcases hbad with h | h | h | h | h | h
    · simp [h]
    · have : ¬ 0 ≤ n := by omega
      simp [this]
    · have : ¬ n ≤ 8 := by omega
      simp [this]
    · simp at h
    · have : ¬ 0 ≤ most := by omega
      simp [this]
    · have : ¬ most ≤ 2000 := by omega
      simp [this]
  · have hok : textsOk c [97, 98] n most = true := by
      have h1 : formedF c = true := by
        cases h : formedF c with
        | true => rfl
        | false => exact absurd (.inl h) hbad
      have h2 : 0 ≤ n := by
        by_cases h : n < 0
        · exact absurd (.inr (.inl h)) hbad
        · omega
      have h3 : n ≤ 8 := by
        by_cases h : 8 < n
        · exact absurd (.inr (.inr (.inl h))) hbad
        · omega
      have h4 : 0 ≤ most := by
        by_cases h : most < 0
        · exact absurd (.inr (.inr (.inr (.inr (.inl h))))) hbad
        · omega
      have h5 : most ≤ 2000 := by
        by_cases h : 2000 < most
        · exact absurd (.inr (.inr (.inr (.inr (.inr h))))) hbad
        · omega
      unfold textsOk mayB
      rw [hg, h1]
      simp [h2, h3, h4, h5]
    rw [if_neg hbad, if_pos hok]
end Go.Proofs.Ytjodmimnbpgfcaa
