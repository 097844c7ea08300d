/- What a regular expression says; the web says it. Plain Lean. A library text: no claim is stated here. -/
import Derived.Test.YtjodmimnbpgfcaaM15
import Derived.Test.YtjodmimnbpgfcaaM16
import Derived.Test.YtjodmimnbpgfcaaM10

/- Lang -/
namespace Go.Proofs.Ytjodmimnbpgfcaa

/-- What is said. -/
inductive Mt : Re → List UInt8 → Prop
  | empty : Mt .empty []
  | byte {S : Set4} {b : UInt8} (h : S.has b.toNat = true) : Mt (.byte S) [b]
  | both {a b : Re} {u v : List UInt8} (h : Mt a u) (k : Mt b v) : Mt (.both a b) (u ++ v)
  | orl {a b : Re} {u : List UInt8} (h : Mt a u) : Mt (.or a b) u
  | orr {a b : Re} {u : List UInt8} (h : Mt b u) : Mt (.or a b) u
  | snil {a : Re} : Mt (.star a) []
  | scons {a : Re} {u v : List UInt8} (h : Mt a u) (k : Mt (.star a) v) : Mt (.star a) (u ++ v)
  | group {a : Re} {u : List UInt8} (h : Mt a u) : Mt (.group a) u
  | anew {a : Re} {u : List UInt8} (h : Mt a u) : Mt (.anew a) u

/-- A run to the end, step by step. -/
inductive Run (L : List Nd) : Nat → Nat → List UInt8 → Prop
  | done : Run L 0 0 []
  | free {n i j : Nat} {x : Nd} {u : List UInt8} (hx : L[i]? = some x) (hj : j ∈ x.free) (h : Run L n j u) : Run L (n + 1) i u
  | byte {n i : Nat} {x : Nd} {b : UInt8} {u : List UInt8} (hx : L[i]? = some x) (hb : x.set.has b.toNat = true) (h : Run L n x.next u) : Run L (n + 1) i (b :: u)

theorem Run.rs {L : List Nd} {i j : Nat} {u : List UInt8} (h : RS L i j) : (∃ n, Run L n j u) → ∃ n, Run L n i u := by
  induction h with
  | refl i => exact id
  | step hx hj _ ih => intro hk; obtain ⟨n, hn⟩ := ih hk; exact ⟨_, .free hx hj hn⟩
theorem run_of_rch {L : List Nd} {i : Nat} {u : List UInt8} (h : Rch L i u) : ∃ n, Run L n i u := by
  induction h with
  | done h => exact Run.rs h ⟨0, .done⟩
  | byte h hx hb _ ih => obtain ⟨n, hn⟩ := ih; exact Run.rs h ⟨_, .byte hx hb hn⟩
theorem rch_of_run {L : List Nd} {n i : Nat} {u : List UInt8} (h : Run L n i u) : Rch L i u := by
  induction h with
  | done => exact .done (.refl 0)
  | free hx hj _ ih => exact Rch.from_ (.step hx hj (.refl _)) ih
  | byte hx hb _ ih => exact .byte (.refl _) hx hb ih

/-- The final places are those of add, from a place on. -/
def Ext (Lf : List Nd) (lo : Nat) (L : List Nd) : Prop := ∀ i, lo ≤ i → i < L.length → Lf[i]? = L[i]?

theorem set0_has (x : Nat) : set0.has x = false := by
  unfold Set4.has set0 Set4.word
  split <;> simp

theorem run_sound : ∀ (r : Re) (t : Nat) (L Lf : List Nd), 1 ≤ L.length → Ext Lf L.length (addR r t L).2 → ∀ (n : Nat) (w : List UInt8), Run Lf n (addR r t L).1 w → ∃ u v m, w = u ++ v ∧ m ≤ n ∧ Mt r u ∧ Run Lf m t v
  | .none, t, L, Lf, hL, hE, n, w, h => by
    have hx : Lf[L.length]? = some nd0 := by rw [hE L.length (Nat.le_refl _) (by simp [addR])]; simp [addR]
    simp only [addR] at h
    generalize hi : L.length = i at h
    cases h with
    | done => omega
    | free hx2 hj _ => subst hi; rw [hx] at hx2; cases hx2; simp [nd0] at hj
    | byte hx2 hb _ => subst hi; rw [hx] at hx2; cases hx2; simp [nd0, set0_has] at hb
  | .empty, t, L, Lf, hL, hE, n, w, h => ⟨[], w, n, rfl, Nat.le_refl _, .empty, h⟩
  | .byte S, t, L, Lf, hL, hE, n, w, h => by
    have hx : Lf[L.length]? = some ⟨[], S, t⟩ := by rw [hE L.length (Nat.le_refl _) (by simp [addR])]; simp [addR]
    simp only [addR] at h
    generalize hi : L.length = i at h
    cases h with
    | done => omega
    | free hx2 hj _ => subst hi; rw [hx] at hx2; cases hx2; simp at hj
    | @byte m _ _ b u hx2 hb h2 => subst hi; rw [hx] at hx2; cases hx2; exact ⟨[b], u, m, rfl, by omega, .byte hb, h2⟩
  | .both a b, t, L, Lf, hL, hE, n, w, h => by
    have l1 := addR_len b t L
    have l2 := addR_len a (addR b t L).1 (addR b t L).2
    simp only [addR] at h hE
    obtain ⟨u, v, m, rfl, hm, hu, hv⟩ := run_sound a (addR b t L).1 (addR b t L).2 Lf (by omega) (fun i h1 h2 => hE i (by omega) h2) n w h
    obtain ⟨u2, v2, m2, rfl, hm2, hu2, hv2⟩ := run_sound b t L Lf hL (fun i h1 h2 => by rw [hE i h1 (by omega), addR_keep a _ _ i h2]) m v hv
    exact ⟨u ++ u2, v2, m2, by simp, by omega, .both hu hu2, hv2⟩
  | .or a b, t, L, Lf, hL, hE, n, w, h => by
    have l1 := addR_len a t L
    have l2 := addR_len b t (addR a t L).2
    simp only [addR] at h hE
    have hx : Lf[(addR b t (addR a t L).2).2.length]? = some ⟨[(addR a t L).1, (addR b t (addR a t L).2).1], set0, 0⟩ := by
      rw [hE _ (by omega) (by simp)]; simp
    have hEb : Ext Lf (addR a t L).2.length (addR b t (addR a t L).2).2 := fun i h1 h2 => by
      rw [hE i (by omega) (by simp; omega), List.getElem?_append_left h2]
    have hEa : Ext Lf L.length (addR a t L).2 := fun i h1 h2 => by
      rw [hE i h1 (by simp; omega), List.getElem?_append_left (by omega), addR_keep b _ _ i h2]
    generalize hi : (addR b t (addR a t L).2).2.length = i at h
    cases h with
    | done => omega
    | @free m _ j x _ hx2 hj h2 =>
      subst hi
      rw [hx] at hx2; cases hx2
      simp at hj
      rcases hj with rfl | rfl
      · obtain ⟨u, v, k, rfl, hk, hu, hv⟩ := run_sound a t L Lf hL hEa m w h2
        exact ⟨u, v, k, rfl, by omega, .orl hu, hv⟩
      · obtain ⟨u, v, k, rfl, hk, hu, hv⟩ := run_sound b t _ Lf (by omega) hEb m w h2
        exact ⟨u, v, k, rfl, by omega, .orr hu, hv⟩
    | byte hx2 hb _ => subst hi; rw [hx] at hx2; cases hx2; simp [set0_has] at hb
  | .star a, t, L, Lf, hL, hE, n, w, h => by
    have l1 := addR_len a L.length (L ++ [nd0])
    simp only [List.length_append, List.length_cons, List.length_nil] at l1
    simp only [addR] at h hE
    have hx : Lf[L.length]? = some ⟨[(addR a L.length (L ++ [nd0])).1, t], set0, 0⟩ := by
      rw [hE _ (Nat.le_refl _) (by simp; omega), List.getElem?_set_self (by omega)]
    have hEa : Ext Lf (L ++ [nd0]).length (addR a L.length (L ++ [nd0])).2 := fun i h1 h2 => by
      simp at h1
      rw [hE i (by omega) (by simpa using h2), List.getElem?_set_ne (by omega)]
    have key : ∀ (k : Nat) (w : List UInt8), Run Lf k L.length w → ∃ u v m, w = u ++ v ∧ m ≤ k ∧ Mt (.star a) u ∧ Run Lf m t v := by
      intro k
      induction k using Nat.strongRecOn with
      | _ k ih =>
        intro w h
        generalize hi : L.length = i at h
        cases h with
        | done => omega
        | @free m _ j x _ hx2 hj h2 =>
          subst hi
          rw [hx] at hx2; cases hx2
          simp at hj
          rcases hj with rfl | rfl
          · obtain ⟨u, v, p, rfl, hp, hu, hv⟩ := run_sound a L.length (L ++ [nd0]) Lf (by simp) hEa m w h2
            obtain ⟨u2, v2, p2, rfl, hp2, hu2, hv2⟩ := ih p (by omega) v hv
            exact ⟨u ++ u2, v2, p2, by simp, by omega, .scons hu hu2, hv2⟩
          · exact ⟨[], w, m, rfl, by omega, .snil, h2⟩
        | byte hx2 hb _ => subst hi; rw [hx] at hx2; cases hx2; simp [set0_has] at hb
    exact key n w h
  | .group a, t, L, Lf, hL, hE, n, w, h => by
    simp only [addR] at h hE
    obtain ⟨u, v, m, h1, h2, h3, h4⟩ := run_sound a t L Lf hL hE n w h
    exact ⟨u, v, m, h1, h2, .group h3, h4⟩
  | .anew a, t, L, Lf, hL, hE, n, w, h => by
    simp only [addR] at h hE
    obtain ⟨u, v, m, h1, h2, h3, h4⟩ := run_sound a t L Lf hL hE n w h
    exact ⟨u, v, m, h1, h2, .anew h3, h4⟩

theorem run_complete {r : Re} {u : List UInt8} (h : Mt r u) : ∀ (t : Nat) (L Lf : List Nd), Ext Lf L.length (addR r t L).2 → ∀ v, (∃ m, Run Lf m t v) → ∃ n, Run Lf n (addR r t L).1 (u ++ v) := by
  induction h with
  | empty => intro t L Lf hE v hv; exact hv
  | @byte S b hb =>
    intro t L Lf hE v ⟨m, hv⟩
    have hx : Lf[L.length]? = some ⟨[], S, t⟩ := by rw [hE L.length (Nat.le_refl _) (by simp [addR])]; simp [addR]
    exact ⟨m + 1, .byte hx hb hv⟩
  | @both a b u v _ _ iha ihb =>
    intro t L Lf hE w hw
    have l1 := addR_len b t L
    have l2 := addR_len a (addR b t L).1 (addR b t L).2
    simp only [addR] at hE ⊢
    have h1 := ihb t L Lf (fun i h1 h2 => by rw [hE i h1 (by omega), addR_keep a _ _ i h2]) w hw
    have h2 := iha (addR b t L).1 (addR b t L).2 Lf (fun i h1 h2 => hE i (by omega) h2) (v ++ w) h1
    rwa [List.append_assoc]
  | @orl a b u _ ih =>
    intro t L Lf hE v hv
    have l1 := addR_len a t L
    have l2 := addR_len b t (addR a t L).2
    simp only [addR] at hE ⊢
    have hx : Lf[(addR b t (addR a t L).2).2.length]? = some ⟨[(addR a t L).1, (addR b t (addR a t L).2).1], set0, 0⟩ := by
      rw [hE _ (by omega) (by simp)]; simp
    obtain ⟨n, hn⟩ := ih t L Lf (fun i h1 h2 => by
      rw [hE i h1 (by simp; omega), List.getElem?_append_left (by omega), addR_keep b _ _ i h2]) v hv
    exact ⟨n + 1, .free hx (by simp) hn⟩
  | @orr a b u _ ih =>
    intro t L Lf hE v hv
    have l1 := addR_len a t L
    have l2 := addR_len b t (addR a t L).2
    simp only [addR] at hE ⊢
    have hx : Lf[(addR b t (addR a t L).2).2.length]? = some ⟨[(addR a t L).1, (addR b t (addR a t L).2).1], set0, 0⟩ := by
      rw [hE _ (by omega) (by simp)]; simp
    obtain ⟨n, hn⟩ := ih t (addR a t L).2 Lf (fun i h1 h2 => by
      rw [hE i (by omega) (by simp; omega), List.getElem?_append_left h2]) v hv
    exact ⟨n + 1, .free hx (by simp) hn⟩
  | @snil a =>
    intro t L Lf hE v ⟨m, hv⟩
    have l1 := addR_len a L.length (L ++ [nd0])
    simp only [List.length_append, List.length_cons, List.length_nil] at l1
    simp only [addR] at hE ⊢
    have hx : Lf[L.length]? = some ⟨[(addR a L.length (L ++ [nd0])).1, t], set0, 0⟩ := by
      rw [hE _ (Nat.le_refl _) (by simp; omega), List.getElem?_set_self (by omega)]
    exact ⟨m + 1, .free hx (by simp) hv⟩
  | @scons a u v _ _ iha ihs =>
    intro t L Lf hE w hw
    obtain hs := ihs t L Lf hE w hw
    have l1 := addR_len a L.length (L ++ [nd0])
    simp only [List.length_append, List.length_cons, List.length_nil] at l1
    simp only [addR] at hE hs ⊢
    have hx : Lf[L.length]? = some ⟨[(addR a L.length (L ++ [nd0])).1, t], set0, 0⟩ := by
      rw [hE _ (Nat.le_refl _) (by simp; omega), List.getElem?_set_self (by omega)]
    obtain ⟨n, hn⟩ := iha L.length (L ++ [nd0]) Lf (fun i h1 h2 => by
      simp at h1
      rw [hE i (by omega) (by simpa using h2), List.getElem?_set_ne (by omega)]) (v ++ w) hs
    rw [List.append_assoc]
    exact ⟨n + 1, .free hx (by simp) hn⟩
  | group _ ih => intro t L Lf hE v hv; simp only [addR] at hE ⊢; exact ih t L Lf hE v hv
  | anew _ ih => intro t L Lf hE v hv; simp only [addR] at hE ⊢; exact ih t L Lf hE v hv

/-- The web says just what the expression says. -/
theorem web_says (r : Re) (w : List UInt8) : Rch (addR r 0 [nd0]).2 (addR r 0 [nd0]).1 w ↔ Mt r w := by
  have hE : Ext (addR r 0 [nd0]).2 [nd0].length (addR r 0 [nd0]).2 := fun i _ _ => rfl
  have h0 : (addR r 0 [nd0]).2[0]? = some nd0 := by rw [addR_keep r 0 [nd0] 0 (by simp)]; rfl
  constructor
  · intro h
    obtain ⟨n, hn⟩ := run_of_rch h
    obtain ⟨u, v, m, rfl, -, hu, hv⟩ := run_sound r 0 [nd0] _ (by simp) hE n w hn
    have : v = [] := by
      generalize hi : (0 : Nat) = i at hv
      cases hv with
      | done => rfl
      | free hx hj _ => subst hi; rw [h0] at hx; cases hx; simp [nd0] at hj
      | byte hx hb _ => subst hi; rw [h0] at hx; cases hx; simp [nd0, set0_has] at hb
    subst this
    simpa using hu
  · intro h
    obtain ⟨n, hn⟩ := run_complete h 0 [nd0] _ hE [] ⟨0, .done⟩
    simpa using rch_of_run hn
end Go.Proofs.Ytjodmimnbpgfcaa
