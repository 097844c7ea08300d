/- every's walk: the texts that it makes, in order. Plain Lean. A library text: no claim is stated here. -/
import Derived.Test.YtjodmimnbpgfcaaM14

/- Words -/
namespace Go.Proofs.Ytjodmimnbpgfcaa

/-- All texts of just so many bytes of some, in their order. -/
def allWords (S : List UInt8) : Nat → List (List UInt8)
  | 0 => [[]]
  | k + 1 => S.flatMap fun b => (allWords S k).map fun u => b :: u

theorem allWords_mem (S : List UInt8) : ∀ (k : Nat) (u : List UInt8), u ∈ allWords S k ↔ u.length = k ∧ ∀ b ∈ u, b ∈ S
  | 0, u => by
    simp only [allWords, List.mem_singleton]
    constructor
    · rintro rfl; simp
    · rintro ⟨h, -⟩; exact List.eq_nil_of_length_eq_zero h
  | k + 1, u => by
    simp only [allWords, List.mem_flatMap, List.mem_map]
    constructor
    · rintro ⟨b, hb, v, hv, rfl⟩
      obtain ⟨h1, h2⟩ := (allWords_mem S k v).1 hv
      exact ⟨by simp [h1], fun c hc => by rcases List.mem_cons.1 hc with rfl | hc; exact hb; exact h2 c hc⟩
    · rintro ⟨h1, h2⟩
      cases u with
      | nil => simp at h1
      | cons b v => exact ⟨b, h2 b (by simp), v, (allWords_mem S k v).2 ⟨by simpa using h1, fun c hc => h2 c (by simp [hc])⟩, rfl⟩

/-- Takes them one by one, till there are enough. -/
def runW (most : Int) : List (List UInt8) → List (List UInt8) → Bool × List (List UInt8)
  | [], ws => (true, ws)
  | u :: r, ws => if (ws.length : Int) + 1 ≤ most then runW most r (ws ++ [u]) else (false, ws ++ [u])

theorem runW_append (most : Int) : ∀ (a b ws : List (List UInt8)), runW most (a ++ b) ws = if (runW most a ws).1 then runW most b (runW most a ws).2 else runW most a ws
  | [], b, ws => by simp [runW]
  | u :: r, b, ws => by
    simp only [List.cons_append, runW]
    split
    · exact runW_append most r b _
    · simp
theorem runW_live (most : Int) : ∀ (a ws : List (List UInt8)), (ws.length : Int) ≤ most → (runW most a ws).1 = true → ((runW most a ws).2.length : Int) ≤ most
  | [], ws, h, _ => h
  | u :: r, ws, h, ht => by
    simp only [runW] at ht ⊢
    split
    · rename_i hc
      rw [if_pos hc] at ht
      exact runW_live most r _ (by simp; omega) ht
    · rename_i hc
      rw [if_neg hc] at ht
      cases ht
/-- In one go. -/
theorem runW_all (most : Int) : ∀ (a ws : List (List UInt8)), (ws.length : Int) ≤ most → ((ws.length : Int) + a.length ≤ most → runW most a ws = (true, ws ++ a)) ∧ (most < (ws.length : Int) + a.length → (runW most a ws).1 = false)
  | [], ws, h => ⟨fun _ => by simp [runW], fun h2 => by simp at h2; omega⟩
  | u :: r, ws, h => by
    by_cases hc : (ws.length : Int) + 1 ≤ most
    · have ih := runW_all most r (ws ++ [u]) (by simp; omega)
      simp only [runW, if_pos hc]
      refine ⟨fun h2 => ?_, fun h2 => ih.2 (by simp at h2 ⊢; omega)⟩
      rw [ih.1 (by simp at h2 ⊢; omega)]
      simp
    · simp only [runW, if_neg hc]
      exact ⟨fun h2 => by simp at h2; omega, fun _ => trivial⟩

open Classical in
/-- A text leads from some places to the end. -/
noncomputable def AtB (L : List Nd) (at_ : List Nat) (u : List UInt8) : Bool := decide (∃ i ∈ at_, Rch L i u)
open Classical in
theorem atB_iff {L : List Nd} {at_ : List Nat} {u : List UInt8} : AtB L at_ u = true ↔ ∃ i ∈ at_, Rch L i u := by
  unfold AtB
  exact decide_eq_true_iff

/-- The texts of just so many bytes more that lead from some places to the end. -/
noncomputable def wordsAt (L : List Nd) (S : List UInt8) (k : Nat) (at_ : List Nat) (had : List UInt8) : List (List UInt8) :=
  ((allWords S k).filter (AtB L at_)).map fun u => had ++ u

/-- .. those of them that begin with a byte. -/
noncomputable def wordsB (L : List Nd) (S : List UInt8) (k : Nat) (at_ : List Nat) (had : List UInt8) (b : UInt8) : List (List UInt8) :=
  ((allWords S k).filter fun u => AtB L at_ (b :: u)).map fun u => had ++ b :: u

/-- From where they go on. -/
def toF (L : List Nd) (at_ : List Nat) (b : UInt8) : List Nat := at_.filterMap fun i => match L[i]? with | some x => if x.set.has b.toNat then some x.next else none | none => none

theorem wordsAt_succ (L : List Nd) (S : List UInt8) (k : Nat) (at_ : List Nat) (had : List UInt8) : wordsAt L S (k + 1) at_ had = S.flatMap (wordsB L S k at_ had) := by
  unfold wordsAt wordsB
  rw [allWords, List.filter_flatMap, List.map_flatMap]
  congr 1
  funext b
  rw [List.filter_map, List.map_map]
  rfl

theorem Rch.from_ {L : List Nd} {i j : Nat} {u : List UInt8} (h : RS L i j) (k : Rch L j u) : Rch L i u := by
  cases k with
  | done h2 => exact .done (h.trans h2)
  | byte h2 hx hb h3 => exact .byte (h.trans h2) hx hb h3

theorem wordsB_eq {L : List Nd} {S : List UInt8} {k : Nat} {at_ to_ : List Nat} {had : List UInt8} {b : UInt8} (hat : ∀ i ∈ at_, ∀ j, RS L i j → j ∈ at_) (hto : ClosedOf L (toF L at_ b) to_) : wordsAt L S k to_ (had ++ [b]) = wordsB L S k at_ had b := by
  have key : ∀ u, (∃ i ∈ to_, Rch L i u) ↔ ∃ i ∈ at_, Rch L i (b :: u) := fun u => by
    constructor
    · rintro ⟨i, hi, hr⟩
      obtain ⟨f, hf, hfi⟩ := (hto.mem i).1 hi
      unfold toF at hf
      obtain ⟨j, hj, hjf⟩ := List.mem_filterMap.1 hf
      cases hx : L[j]? with
      | none => rw [hx] at hjf; cases hjf
      | some x =>
        rw [hx] at hjf
        simp only at hjf
        split at hjf
        · rename_i hb
          cases hjf
          exact ⟨j, hj, .byte (.refl j) hx hb (hr.from_ hfi)⟩
        · cases hjf
    · rintro ⟨i, hi, hr⟩
      cases hr with
      | @byte _ j x _ _ h hx hb h2 =>
        have hj := hat i hi j h
        refine ⟨x.next, (hto.mem _).2 ⟨x.next, ?_, .refl _⟩, h2⟩
        unfold toF
        rw [List.mem_filterMap]
        exact ⟨j, hj, by rw [hx]; simp [hb]⟩
  unfold wordsAt wordsB
  have e : (fun u => had ++ [b] ++ u) = fun u => had ++ b :: u := by funext u; simp
  rw [e]
  congr 1
  congr 1
  funext u
  rw [Bool.eq_iff_iff, atB_iff, atB_iff]
  exact key u

theorem wordsAt_none {L : List Nd} {S : List UInt8} {k : Nat} {at_ : List Nat} {had : List UInt8} (h : at_.any (CanB L S k) = false) : wordsAt L S k at_ had = [] := by
  unfold wordsAt
  rw [List.map_eq_nil_iff, List.filter_eq_nil_iff]
  intro u hu
  rw [atB_iff]
  rintro ⟨i, hi, hr⟩
  obtain ⟨h1, h2⟩ := (allWords_mem S k u).1 hu
  rw [List.any_eq_false] at h
  exact h i hi (canB_iff.2 ⟨u, h1, h2, hr⟩)
theorem wordsAt_zero {L : List Nd} {S : List UInt8} {at_ : List Nat} {had : List UInt8} (h : at_.any (CanB L S 0) = true) : wordsAt L S 0 at_ had = [had] := by
  obtain ⟨i, hi, hc⟩ := List.any_eq_true.1 h
  obtain ⟨u, h1, -, h3⟩ := canB_iff.1 hc
  obtain rfl := List.eq_nil_of_length_eq_zero h1
  unfold wordsAt allWords
  have : AtB L at_ [] = true := atB_iff.2 ⟨i, hi, h3⟩
  simp [this]
end Go.Proofs.Ytjodmimnbpgfcaa
