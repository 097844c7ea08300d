/- What a regular expression says; the web says it. Plain Lean. A library text: no claim is stated here. Where what is said ends; each number of the web's places is one. Plain Lean. A library text: no claim is stated here. What a full value of a core is. Plain Lean, no program. A library text: no claim is stated here. -/
import Derived.Test.YtjodmimnbpgfcaaS16
import Derived.Test.YtjodmimnbpgfcaaS17
import Derived.Test.YtjodmimnbpgfcaaS09
import Derived.Test.YtjodmimnbpgfcaaS04
import Derived.Test.YtjodmimnbpgfcaaS13

/- Lang -/
namespace Go.Proofs.Ytjodmimnbpgfcaa

/-- What is said. -/
inductive Mt : Re → List UInt8 → Prop
  | empty : Mt .empty []
  | byte {S : Set4} {b : UInt8} (h : S.has b.toNat = true) : Mt (.byte S) [b]
  | both {a b : Re} {u v : List UInt8} (h : Mt a u) (k : Mt b v) : Mt (.both a b) (u ++ v)
  | orl {a b : Re} {u : List UInt8} (h : Mt a u) : Mt (.or a b) u
  | orr {a b : Re} {u : List UInt8} (h : Mt b u) : Mt (.or a b) u
  | snil {a : Re} : Mt (.star a) []
  | scons {a : Re} {u v : List UInt8} (h : Mt a u) (k : Mt (.star a) v) : Mt (.star a) (u ++ v)
  | group {a : Re} {u : List UInt8} (h : Mt a u) : Mt (.group a) u
  | anew {a : Re} {u : List UInt8} (h : Mt a u) : Mt (.anew a) u

/-- A run to the end, step by step. -/
inductive Run (L : List Nd) : Nat → Nat → List UInt8 → Prop
  | done : Run L 0 0 []
  | free {n i j : Nat} {x : Nd} {u : List UInt8} (hx : L[i]? = some x) (hj : j ∈ x.free) (h : Run L n j u) : Run L (n + 1) i u
  | byte {n i : Nat} {x : Nd} {b : UInt8} {u : List UInt8} (hx : L[i]? = some x) (hb : x.set.has b.toNat = true) (h : Run L n x.next u) : Run L (n + 1) i (b :: u)

theorem Run.rs {L : List Nd} {i j : Nat} {u : List UInt8} (h : RS L i j) : (∃ n, Run L n j u) → ∃ n, Run L n i u := by
  induction h with
  | refl i => exact id
  | step hx hj _ ih => intro hk; obtain ⟨n, hn⟩ := ih hk; exact ⟨_, .free hx hj hn⟩
theorem run_of_rch {L : List Nd} {i : Nat} {u : List UInt8} (h : Rch L i u) : ∃ n, Run L n i u := by
  induction h with
  | done h => exact Run.rs h ⟨0, .done⟩
  | byte h hx hb _ ih => obtain ⟨n, hn⟩ := ih; exact Run.rs h ⟨_, .byte hx hb hn⟩
theorem rch_of_run {L : List Nd} {n i : Nat} {u : List UInt8} (h : Run L n i u) : Rch L i u := by
  induction h with
  | done => exact .done (.refl 0)
  | free hx hj _ ih => exact Rch.from_ (.step hx hj (.refl _)) ih
  | byte hx hb _ ih => exact .byte (.refl _) hx hb ih

/-- The final places are those of add, from a place on. -/
def Ext (Lf : List Nd) (lo : Nat) (L : List Nd) : Prop := ∀ i, lo ≤ i → i < L.length → Lf[i]? = L[i]?

theorem set0_has (x : Nat) : set0.has x = false := by
  unfold Set4.has set0 Set4.word
  split <;> simp

theorem run_sound : ∀ (r : Re) (t : Nat) (L Lf : List Nd), 1 ≤ L.length → Ext Lf L.length (addR r t L).2 → ∀ (n : Nat) (w : List UInt8), Run Lf n (addR r t L).1 w → ∃ u v m, w = u ++ v ∧ m ≤ n ∧ Mt r u ∧ Run Lf m t v
  | .none, t, L, Lf, hL, hE, n, w, h => by
    have hx : Lf[L.length]? = some nd0 := by rw [hE L.length (Nat.le_refl _) (by simp [addR])]; simp [addR]
    simp only [addR] at h
    generalize hi : L.length = i at h
    cases h with
    | done => omega
    | free hx2 hj _ => subst hi; rw [hx] at hx2; cases hx2; simp [nd0] at hj
    | byte hx2 hb _ => subst hi; rw [hx] at hx2; cases hx2; simp [nd0, set0_has] at hb
  | .empty, t, L, Lf, hL, hE, n, w, h => ⟨[], w, n, rfl, Nat.le_refl _, .empty, h⟩
  | .byte S, t, L, Lf, hL, hE, n, w, h => by
    have hx : Lf[L.length]? = some ⟨[], S, t⟩ := by rw [hE L.length (Nat.le_refl _) (by simp [addR])]; simp [addR]
    simp only [addR] at h
    generalize hi : L.length = i at h
    cases h with
    | done => omega
    | free hx2 hj _ => subst hi; rw [hx] at hx2; cases hx2; simp at hj
    | @byte m _ _ b u hx2 hb h2 => subst hi; rw [hx] at hx2; cases hx2; exact ⟨[b], u, m, rfl, by omega, .byte hb, h2⟩
  | .both a b, t, L, Lf, hL, hE, n, w, h => by
    have l1 := addR_len b t L
    have l2 := addR_len a (addR b t L).1 (addR b t L).2
    simp only [addR] at h hE
    obtain ⟨u, v, m, rfl, hm, hu, hv⟩ := run_sound a (addR b t L).1 (addR b t L).2 Lf (by omega) (fun i h1 h2 => hE i (by omega) h2) n w h
    obtain ⟨u2, v2, m2, rfl, hm2, hu2, hv2⟩ := run_sound b t L Lf hL (fun i h1 h2 => by rw [hE i h1 (by omega), addR_keep a _ _ i h2]) m v hv
    exact ⟨u ++ u2, v2, m2, by simp, by omega, .both hu hu2, hv2⟩
  | .or a b, t, L, Lf, hL, hE, n, w, h => by
    have l1 := addR_len a t L
    have l2 := addR_len b t (addR a t L).2
    simp only [addR] at h hE
    have hx : Lf[(addR b t (addR a t L).2).2.length]? = some ⟨[(addR a t L).1, (addR b t (addR a t L).2).1], set0, 0⟩ := by
      rw [hE _ (by omega) (by simp)]; simp
    have hEb : Ext Lf (addR a t L).2.length (addR b t (addR a t L).2).2 := fun i h1 h2 => by
      rw [hE i (by omega) (by simp; omega), List.getElem?_append_left h2]
    have hEa : Ext Lf L.length (addR a t L).2 := fun i h1 h2 => by
      rw [hE i h1 (by simp; omega), List.getElem?_append_left (by omega), addR_keep b _ _ i h2]
    generalize hi : (addR b t (addR a t L).2).2.length = i at h
    cases h with
    | done => omega
    | @free m _ j x _ hx2 hj h2 =>
      subst hi
      rw [hx] at hx2; cases hx2
      simp at hj
      rcases hj with rfl | rfl
      · obtain ⟨u, v, k, rfl, hk, hu, hv⟩ := run_sound a t L Lf hL hEa m w h2
        exact ⟨u, v, k, rfl, by omega, .orl hu, hv⟩
      · obtain ⟨u, v, k, rfl, hk, hu, hv⟩ := run_sound b t _ Lf (by omega) hEb m w h2
        exact ⟨u, v, k, rfl, by omega, .orr hu, hv⟩
    | byte hx2 hb _ => subst hi; rw [hx] at hx2; cases hx2; simp [set0_has] at hb
  | .star a, t, L, Lf, hL, hE, n, w, h => by
    have l1 := addR_len a L.length (L ++ [nd0])
    simp only [List.length_append, List.length_cons, List.length_nil] at l1
    simp only [addR] at h hE
    have hx : Lf[L.length]? = some ⟨[(addR a L.length (L ++ [nd0])).1, t], set0, 0⟩ := by
      rw [hE _ (Nat.le_refl _) (by simp; omega), List.getElem?_set_self (by omega)]
    have hEa : Ext Lf (L ++ [nd0]).length (addR a L.length (L ++ [nd0])).2 := fun i h1 h2 => by
      simp at h1
      rw [hE i (by omega) (by simpa using h2), List.getElem?_set_ne (by omega)]
    have key : ∀ (k : Nat) (w : List UInt8), Run Lf k L.length w → ∃ u v m, w = u ++ v ∧ m ≤ k ∧ Mt (.star a) u ∧ Run Lf m t v := by
      intro k
      induction k using Nat.strongRecOn with
      | _ k ih =>
        intro w h
        generalize hi : L.length = i at h
        cases h with
        | done => omega
        | @free m _ j x _ hx2 hj h2 =>
          subst hi
          rw [hx] at hx2; cases hx2
          simp at hj
          rcases hj with rfl | rfl
          · obtain ⟨u, v, p, rfl, hp, hu, hv⟩ := run_sound a L.length (L ++ [nd0]) Lf (by simp) hEa m w h2
            obtain ⟨u2, v2, p2, rfl, hp2, hu2, hv2⟩ := ih p (by omega) v hv
            exact ⟨u ++ u2, v2, p2, by simp, by omega, .scons hu hu2, hv2⟩
          · exact ⟨[], w, m, rfl, by omega, .snil, h2⟩
        | byte hx2 hb _ => subst hi; rw [hx] at hx2; cases hx2; simp [set0_has] at hb
    exact key n w h
  | .group a, t, L, Lf, hL, hE, n, w, h => by
    simp only [addR] at h hE
    obtain ⟨u, v, m, h1, h2, h3, h4⟩ := run_sound a t L Lf hL hE n w h
    exact ⟨u, v, m, h1, h2, .group h3, h4⟩
  | .anew a, t, L, Lf, hL, hE, n, w, h => by
    simp only [addR] at h hE
    obtain ⟨u, v, m, h1, h2, h3, h4⟩ := run_sound a t L Lf hL hE n w h
    exact ⟨u, v, m, h1, h2, .anew h3, h4⟩

theorem run_complete {r : Re} {u : List UInt8} (h : Mt r u) : ∀ (t : Nat) (L Lf : List Nd), Ext Lf L.length (addR r t L).2 → ∀ v, (∃ m, Run Lf m t v) → ∃ n, Run Lf n (addR r t L).1 (u ++ v) := by
  induction h with
  | empty => intro t L Lf hE v hv; exact hv
  | @byte S b hb =>
    intro t L Lf hE v ⟨m, hv⟩
    have hx : Lf[L.length]? = some ⟨[], S, t⟩ := by rw [hE L.length (Nat.le_refl _) (by simp [addR])]; simp [addR]
    exact ⟨m + 1, .byte hx hb hv⟩
  | @both a b u v _ _ iha ihb =>
    intro t L Lf hE w hw
    have l1 := addR_len b t L
    have l2 := addR_len a (addR b t L).1 (addR b t L).2
    simp only [addR] at hE ⊢
    have h1 := ihb t L Lf (fun i h1 h2 => by rw [hE i h1 (by omega), addR_keep a _ _ i h2]) w hw
    have h2 := iha (addR b t L).1 (addR b t L).2 Lf (fun i h1 h2 => hE i (by omega) h2) (v ++ w) h1
    rwa [List.append_assoc]
  | @orl a b u _ ih =>
    intro t L Lf hE v hv
    have l1 := addR_len a t L
    have l2 := addR_len b t (addR a t L).2
    simp only [addR] at hE ⊢
    have hx : Lf[(addR b t (addR a t L).2).2.length]? = some ⟨[(addR a t L).1, (addR b t (addR a t L).2).1], set0, 0⟩ := by
      rw [hE _ (by omega) (by simp)]; simp
    obtain ⟨n, hn⟩ := ih t L Lf (fun i h1 h2 => by
      rw [hE i h1 (by simp; omega), List.getElem?_append_left (by omega), addR_keep b _ _ i h2]) v hv
    exact ⟨n + 1, .free hx (by simp) hn⟩
  | @orr a b u _ ih =>
    intro t L Lf hE v hv
    have l1 := addR_len a t L
    have l2 := addR_len b t (addR a t L).2
    simp only [addR] at hE ⊢
    have hx : Lf[(addR b t (addR a t L).2).2.length]? = some ⟨[(addR a t L).1, (addR b t (addR a t L).2).1], set0, 0⟩ := by
      rw [hE _ (by omega) (by simp)]; simp
    obtain ⟨n, hn⟩ := ih t (addR a t L).2 Lf (fun i h1 h2 => by
      rw [hE i (by omega) (by simp; omega), List.getElem?_append_left h2]) v hv
    exact ⟨n + 1, .free hx (by simp) hn⟩
  | @snil a =>
    intro t L Lf hE v ⟨m, hv⟩
    have l1 := addR_len a L.length (L ++ [nd0])
    simp only [List.length_append, List.length_cons, List.length_nil] at l1
    simp only [addR] at hE ⊢
    have hx : Lf[L.length]? = some ⟨[(addR a L.length (L ++ [nd0])).1, t], set0, 0⟩ := by
      rw [hE _ (Nat.le_refl _) (by simp; omega), List.getElem?_set_self (by omega)]
    exact ⟨m + 1, .free hx (by simp) hv⟩
  | @scons a u v _ _ iha ihs =>
    intro t L Lf hE w hw
    obtain hs := ihs t L Lf hE w hw
    have l1 := addR_len a L.length (L ++ [nd0])
    simp only [List.length_append, List.length_cons, List.length_nil] at l1
    simp only [addR] at hE hs ⊢
    have hx : Lf[L.length]? = some ⟨[(addR a L.length (L ++ [nd0])).1, t], set0, 0⟩ := by
      rw [hE _ (Nat.le_refl _) (by simp; omega), List.getElem?_set_self (by omega)]
    obtain ⟨n, hn⟩ := iha L.length (L ++ [nd0]) Lf (fun i h1 h2 => by
      simp at h1
      rw [hE i (by omega) (by simpa using h2), List.getElem?_set_ne (by omega)]) (v ++ w) hs
    rw [List.append_assoc]
    exact ⟨n + 1, .free hx (by simp) hn⟩
  | group _ ih => intro t L Lf hE v hv; simp only [addR] at hE ⊢; exact ih t L Lf hE v hv
  | anew _ ih => intro t L Lf hE v hv; simp only [addR] at hE ⊢; exact ih t L Lf hE v hv

/-- The web says just what the expression says. -/
theorem web_says (r : Re) (w : List UInt8) : Rch (addR r 0 [nd0]).2 (addR r 0 [nd0]).1 w ↔ Mt r w := by
  have hE : Ext (addR r 0 [nd0]).2 [nd0].length (addR r 0 [nd0]).2 := fun i _ _ => rfl
  have h0 : (addR r 0 [nd0]).2[0]? = some nd0 := by rw [addR_keep r 0 [nd0] 0 (by simp)]; rfl
  constructor
  · intro h
    obtain ⟨n, hn⟩ := run_of_rch h
    obtain ⟨u, v, m, rfl, -, hu, hv⟩ := run_sound r 0 [nd0] _ (by simp) hE n w hn
    have : v = [] := by
      generalize hi : (0 : Nat) = i at hv
      cases hv with
      | done => rfl
      | free hx hj _ => subst hi; rw [h0] at hx; cases hx; simp [nd0] at hj
      | byte hx hb _ => subst hi; rw [h0] at hx; cases hx; simp [nd0, set0_has] at hb
    subst this
    simpa using hu
  · intro h
    obtain ⟨n, hn⟩ := run_complete h 0 [nd0] _ hE [] ⟨0, .done⟩
    simpa using rch_of_run hn
end Go.Proofs.Ytjodmimnbpgfcaa

/- LangB -/
namespace Go.Proofs.Ytjodmimnbpgfcaa

def reWf : Re → Prop
  | .none => True
  | .empty => True
  | .byte S => S.wf
  | .both a b => reWf a ∧ reWf b
  | .or a b => reWf a ∧ reWf b
  | .star a => reWf a
  | .group a => reWf a
  | .anew a => reWf a

def WfB (L : List Nd) (N : Nat) : Prop := ∀ x ∈ L, (∀ j ∈ x.free, j < N) ∧ x.free.length ≤ 2 ∧ x.next < N ∧ x.set.wf

theorem set0_wf : set0.wf := ⟨by decide, by decide, by decide, by decide⟩
theorem WfB.snoc {L : List Nd} {N : Nat} (h : WfB L N) {x : Nd} (h1 : ∀ j ∈ x.free, j < N) (h2 : x.free.length ≤ 2) (h3 : x.next < N) (h4 : x.set.wf) : WfB (L ++ [x]) N := fun y hy => by
  rcases List.mem_append.1 hy with hy | hy
  · exact h y hy
  · simp at hy; subst hy; exact ⟨h1, h2, h3, h4⟩

theorem addR_wf : ∀ (r : Re) (t : Nat) (L : List Nd) (N : Nat), reWf r → WfB L N → t < N → (addR r t L).2.length ≤ N → 0 < N → WfB (addR r t L).2 N ∧ (addR r t L).1 < N
  | .none, t, L, N, hr, hL, ht, hN, h0 => by
    simp [addR] at hN ⊢
    exact ⟨hL.snoc (by simp [nd0]) (by simp [nd0]) h0 set0_wf, by omega⟩
  | .empty, t, L, N, hr, hL, ht, hN, h0 => ⟨hL, ht⟩
  | .byte S, t, L, N, hr, hL, ht, hN, h0 => by
    simp [addR] at hN ⊢
    exact ⟨hL.snoc (by simp) (by simp) ht hr, by omega⟩
  | .both a b, t, L, N, hr, hL, ht, hN, h0 => by
    have l2 := addR_len a (addR b t L).1 (addR b t L).2
    simp only [addR] at hN ⊢
    obtain ⟨h1, h2⟩ := addR_wf b t L N hr.2 hL ht (by omega) h0
    exact addR_wf a _ _ N hr.1 h1 h2 hN h0
  | .or a b, t, L, N, hr, hL, ht, hN, h0 => by
    have l1 := addR_len a t L
    have l2 := addR_len b t (addR a t L).2
    simp only [addR, List.length_append, List.length_cons, List.length_nil] at hN ⊢
    obtain ⟨h1, h2⟩ := addR_wf a t L N hr.1 hL ht (by omega) h0
    obtain ⟨h3, h4⟩ := addR_wf b t _ N hr.2 h1 ht (by omega) h0
    exact ⟨h3.snoc (by simp; omega) (by simp) h0 set0_wf, by omega⟩
  | .star a, t, L, N, hr, hL, ht, hN, h0 => by
    have l1 := addR_len a L.length (L ++ [nd0])
    simp only [List.length_append, List.length_cons, List.length_nil] at l1
    simp only [addR, List.length_set] at hN ⊢
    obtain ⟨h1, h2⟩ := addR_wf a L.length (L ++ [nd0]) N hr (hL.snoc (by simp [nd0]) (by simp [nd0]) h0 set0_wf) (by omega) hN h0
    refine ⟨fun x hx => ?_, by omega⟩
    rcases List.mem_or_eq_of_mem_set hx with hx | rfl
    · exact h1 x hx
    · exact ⟨by simp; omega, by simp, h0, set0_wf⟩
  | .group a, t, L, N, hr, hL, ht, hN, h0 => by simp only [addR] at hN ⊢; exact addR_wf a t L N hr hL ht hN h0
  | .anew a, t, L, N, hr, hL, ht, hN, h0 => by simp only [addR] at hN ⊢; exact addR_wf a t L N hr hL ht hN h0

theorem web_wf {r : Re} (hr : reWf r) : WfW (addR r 0 [nd0]).2 ∧ (addR r 0 [nd0]).1 < (addR r 0 [nd0]).2.length := by
  have l1 := addR_len r 0 [nd0]
  simp only [List.length_cons, List.length_nil] at l1
  obtain ⟨h1, h2⟩ := addR_wf r 0 [nd0] (addR r 0 [nd0]).2.length hr (fun x hx => by simp at hx; subst hx; exact ⟨by simp [nd0], by simp [nd0], (show 0 < _ by omega), set0_wf⟩) (by omega) (Nat.le_refl _) (by omega)
  exact ⟨⟨fun x hx => (h1 x hx).1, fun x hx => (h1 x hx).2.1, fun x hx => (h1 x hx).2.2.1, fun x hx => (h1 x hx).2.2.2⟩, h2⟩

theorem flatL_sub : ∀ {l : List Core} {x : Core}, x ∈ l → ∀ y ∈ flatC x, y ∈ flatL l
  | z :: r, x, hx, y, hy => by
    simp only [flatL, List.mem_append]
    rcases List.mem_cons.1 hx with rfl | hx
    · exact .inl hy
    · exact .inr (flatL_sub hx y hy)
theorem flatC_sub {c x : Core} (hx : x ∈ c.l) : ∀ y ∈ flatC x, y ∈ flatC c := fun y hy => by
  rw [flatC_l c]
  exact List.mem_cons_of_mem _ (flatL_sub hx y hy)

theorem reWf_of : ∀ (m : Nat) (c : Core), nodes c ≤ m → wfC c = true → (∀ x ∈ flatC c, x.set.wf) → reWf c.re
  | 0, c, hm, _, _ => absurd hm (by have := nodes_pos c; omega)
  | m + 1, c, hm, hw, hs => by
    have hwl : wfL c.l = true := by
      cases c with
      | mk k s n l =>
        simp only [wfC, Bool.and_eq_true] at hw
        exact hw.2
    have hn : nodes c = 1 + nodesL c.l := by cases c; rfl
    have key : ∀ x ∈ c.l, nodes x ≤ m → reWf x.re := fun x hx hxm => reWf_of m x hxm (wfL_mem hwl hx) (fun y hy => hs y (flatC_sub hx y hy))
    have hcs : c.set.wf := hs c (by rw [flatC_l]; simp)
    rcases kids_cases hw with ⟨e, hl, hr⟩ | ⟨e, hl, hr⟩ | ⟨e, hl, hr⟩ | ⟨x, y, e, hl, hr⟩ | ⟨x, y, e, hl, hr⟩ | ⟨x, e, hl, hr⟩ | ⟨x, e, hl, hr⟩ | ⟨x, e, hl, hr⟩
    · rw [hr]; exact trivial
    · rw [hr]; exact trivial
    · rw [hr]; exact hcs
    · rw [hl] at hn key; simp only [nodesL] at hn
      rw [hr]; exact ⟨key x (by simp) (by omega), key y (by simp) (by omega)⟩
    · rw [hl] at hn key; simp only [nodesL] at hn
      rw [hr]; exact ⟨key x (by simp) (by omega), key y (by simp) (by omega)⟩
    · rw [hl] at hn key; simp only [nodesL] at hn
      rw [hr]; exact key x (by simp) (by omega)
    · rw [hl] at hn key; simp only [nodesL] at hn
      rw [hr]; exact key x (by simp) (by omega)
    · rw [hl] at hn key; simp only [nodesL] at hn
      rw [hr]; exact key x (by simp) (by omega)

/-- What is said from a place to a place. -/
def seg (s : List UInt8) (f t : Nat) : List UInt8 := (s.take t).drop f
theorem seg_self (s : List UInt8) (f : Nat) : seg s f f = [] := by unfold seg; simp
theorem seg_app {s : List UInt8} {f k t : Nat} (h1 : f ≤ k) (h2 : k ≤ t) : seg s f k ++ seg s k t = seg s f t := by
  unfold seg
  have e : s.take k = (s.take t).take k := by rw [List.take_take, Nat.min_eq_left h2]
  rw [e]
  generalize s.take t = l
  have : l.drop f = (l.take k ++ l.drop k).drop f := by rw [List.take_append_drop]
  rw [this, List.drop_append]
  congr 1
  by_cases hk : k ≤ l.length
  · rw [List.length_take, Nat.min_eq_left hk, Nat.sub_eq_zero_of_le h1, List.drop_zero]
  · rw [List.drop_eq_nil_of_le (by omega)]; simp
theorem seg_len {s : List UInt8} {f t : Nat} (h2 : t ≤ s.length) : (seg s f t).length = t - f := by
  unfold seg; simp; omega

/-- A split of a part. -/
theorem seg_split {s u v : List UInt8} {f t : Nat} (h1 : f ≤ t) (h2 : t ≤ s.length) (h : seg s f t = u ++ v) : ∃ k, f ≤ k ∧ k ≤ t ∧ seg s f k = u ∧ seg s k t = v := by
  have hl := congrArg List.length h
  rw [seg_len h2, List.length_append] at hl
  have hk : seg s f (f + u.length) ++ seg s (f + u.length) t = u ++ v := by rw [seg_app (by omega) (by omega), h]
  have := List.append_inj hk (by rw [seg_len (by omega)]; omega)
  exact ⟨f + u.length, by omega, by omega, this.1, this.2⟩

/-- Chains of what ends. -/
inductive Chain (E : Nat → Nat → Bool) : Nat → Nat → Prop
  | refl (f : Nat) : Chain E f f
  | step {f k t : Nat} (h : E f k = true) (c : Chain E k t) : Chain E f t
theorem Chain.trans {E : Nat → Nat → Bool} {f k t : Nat} (h : Chain E f k) (c : Chain E k t) : Chain E f t := by
  induction h with
  | refl => exact c
  | step h _ ih => exact .step h (ih c)

theorem star_sound {E : Nat → Nat → Bool} {f : Nat} : ∀ (l : List Nat) (P : Nat → Bool), (∀ t, P t = true → Chain E f t) → ∀ t, l.foldl (starStep E) P t = true → Chain E f t
  | [], P, hP, t, h => hP t h
  | k :: l, P, hP, t, h => by
    refine star_sound l _ ?_ t h
    intro t ht
    unfold starStep at ht
    split at ht
    · rename_i hk
      rcases Bool.or_eq_true _ _ |>.mp ht with h1 | h1
      · exact hP t h1
      · exact (hP k hk).trans (.step h1 (.refl t))
    · exact hP t ht
theorem star_mono {E : Nat → Nat → Bool} : ∀ (l : List Nat) (P : Nat → Bool) (t : Nat), P t = true → l.foldl (starStep E) P t = true
  | [], _, _, h => h
  | k :: l, P, t, h => star_mono l _ t (by unfold starStep; split <;> simp [h])
theorem star_below {E : Nat → Nat → Bool} {n : Nat} (hE : ∀ f t, f ≤ n → E f t = true → f ≤ t) : ∀ (l : List Nat) (P : Nat → Bool) (t : Nat), (∀ k ∈ l, t < k ∧ k ≤ n) → l.foldl (starStep E) P t = P t
  | [], _, _, _ => rfl
  | k :: l, P, t, h => by
    rw [List.foldl_cons, star_below hE l _ t (fun j hj => h j (by simp [hj]))]
    unfold starStep
    split
    · obtain ⟨h1, h2⟩ := h k (by simp)
      cases he : E k t
      · show (P t || E k t) = P t
        rw [he, Bool.or_false]
      · have := hE k t h2 he; omega
    · rfl
theorem star_closed {E : Nat → Nat → Bool} {n : Nat} (hE : ∀ f t, f ≤ n → E f t = true → f ≤ t) : ∀ (m : Nat) (a : Nat) (P : Nat → Bool) (k t : Nat), a ≤ k → k < a + m → a + m ≤ n + 1 → (List.range' a m).foldl (starStep E) P k = true → E k t = true → (List.range' a m).foldl (starStep E) P t = true
  | 0, a, P, k, t, h1, h2, _, _, _ => by omega
  | m + 1, a, P, k, t, h1, h2, h3, hk, he => by
    rw [List.range'_succ, List.foldl_cons] at hk ⊢
    rcases Nat.eq_or_lt_of_le h1 with h | h
    · subst h
      rw [star_below hE _ _ a (fun j hj => by simp [List.mem_range'] at hj; omega)] at hk
      refine star_mono _ _ t ?_
      unfold starStep at hk ⊢
      by_cases hp : P a = true
      · rw [if_pos hp]; simp [he]
      · rw [if_neg hp] at hk; exact absurd hk hp
    · exact star_closed hE m (a + 1) _ k t h (by omega) (by omega) hk he

theorem starSet_iff {E : Nat → Nat → Bool} {n : Nat} (hE : ∀ f t, f ≤ n → E f t = true → f ≤ t ∧ t ≤ n) {f : Nat} (hf : f ≤ n) (t : Nat) : starSet E n f t = true ↔ Chain E f t := by
  unfold starSet
  constructor
  · exact star_sound _ _ (fun t h => by simp at h; subst h; exact .refl _) t
  · intro h
    have key : ∀ (k : Nat), f ≤ k → k ≤ n → Chain E k t → (List.range' f (n + 1 - f)).foldl (starStep E) (fun j => j == f) k = true → (List.range' f (n + 1 - f)).foldl (starStep E) (fun j => j == f) t = true := by
      intro k hk hkn hc
      induction hc with
      | refl => exact id
      | @step k j t he _ ih =>
        intro hP
        have hj := hE k j hkn he
        exact ih h (by omega) hj.2 (star_closed (fun f t a b => (hE f t a b).1) _ f _ k j hk (by omega) (by omega) hP he)
    exact key f (Nat.le_refl _) hf h (star_mono _ _ f (by simp))

theorem both_iff {A : Nat → Bool} {E : Nat → Nat → Bool} : ∀ (l : List Nat) (P : Nat → Bool) (t : Nat), l.foldl (bothStep A E) P t = true ↔ P t = true ∨ ∃ k ∈ l, A k = true ∧ E k t = true
  | [], P, t => by simp
  | k :: l, P, t => by
    rw [List.foldl_cons, both_iff l _ t]
    unfold bothStep
    by_cases hk : A k = true
    · simp [hk, or_assoc]
    · simp [hk]

theorem star_of_chain {s : List UInt8} {a : Re} {E : Nat → Nat → Bool} (hE : ∀ f t, f ≤ s.length → (E f t = true ↔ f ≤ t ∧ t ≤ s.length ∧ Mt a (seg s f t))) {f t : Nat} (h : Chain E f t) : f ≤ s.length → f ≤ t ∧ t ≤ s.length ∧ Mt (.star a) (seg s f t) := by
  induction h with
  | refl f => intro hf; exact ⟨Nat.le_refl _, hf, by rw [seg_self]; exact .snil⟩
  | @step f k t he _ ih =>
    intro hf
    obtain ⟨h1, h2, h3⟩ := (hE f k hf).1 he
    obtain ⟨h4, h5, h6⟩ := ih h2
    exact ⟨by omega, h5, by rw [← seg_app h1 h4]; exact .scons h3 h6⟩
theorem chain_of_star {s : List UInt8} {a : Re} {E : Nat → Nat → Bool} (hE : ∀ f t, f ≤ s.length → (E f t = true ↔ f ≤ t ∧ t ≤ s.length ∧ Mt a (seg s f t))) {r : Re} {w : List UInt8} (h : Mt r w) : r = .star a → ∀ f t, f ≤ t → t ≤ s.length → seg s f t = w → Chain E f t := by
  induction h with
  | @snil b =>
    intro _ f t h1 h2 h3
    have := congrArg List.length h3
    rw [seg_len h2] at this
    obtain rfl : f = t := by simp at this; omega
    exact .refl f
  | @scons b u v hu _ _ ih =>
    intro e f t h1 h2 h3
    cases e
    obtain ⟨k, h4, h5, h6, h7⟩ := seg_split h1 h2 h3
    exact .step ((hE f k (by omega)).2 ⟨h4, by omega, by rw [h6]; exact hu⟩) (ih rfl k t h5 h2 h7)
  | _ => intro e; cases e

theorem endsF_iff (s : List UInt8) : ∀ (r : Re) (f t : Nat), f ≤ s.length → (endsF s r f t = true ↔ f ≤ t ∧ t ≤ s.length ∧ Mt r (seg s f t))
  | .none, f, t, hf => by
    simp only [endsF]
    constructor
    · intro h; cases h
    · rintro ⟨-, -, h⟩; cases h
  | .empty, f, t, hf => by
    simp only [endsF, beq_iff_eq]
    constructor
    · rintro rfl; exact ⟨Nat.le_refl _, hf, by rw [seg_self]; exact .empty⟩
    · rintro ⟨h1, h2, h⟩
      generalize hw : seg s f t = w at h
      cases h
      have := congrArg List.length hw
      rw [seg_len h2] at this
      simp at this
      omega
  | .byte S, f, t, hf => by
    have hseg : ∀ x, s[f]? = some x → seg s f (f + 1) = [x] := fun x hx => by
      obtain ⟨h1, rfl⟩ := List.getElem?_eq_some_iff.1 hx
      unfold seg
      rw [List.take_succ_eq_append_getElem h1, List.drop_append, List.drop_eq_nil_of_le (by simp; omega)]
      simp [Nat.min_eq_left (Nat.le_of_lt h1)]
    rw [endsF]
    constructor
    · intro h
      split at h
      · rename_i x hx
        have hl := (List.getElem?_eq_some_iff.1 hx).1
        simp only [Bool.and_eq_true, beq_iff_eq] at h
        obtain ⟨h1, rfl⟩ := h
        exact ⟨by omega, by omega, by rw [hseg x hx]; exact .byte h1⟩
      · cases h
    · rintro ⟨h1, h2, h⟩
      generalize hw : seg s f t = w at h
      cases h with
      | @byte _ b hb =>
        have hl := congrArg List.length hw
        rw [seg_len h2] at hl
        simp at hl
        obtain rfl : t = f + 1 := by omega
        have hx : s[f]? = some (s[f]'(by omega)) := List.getElem?_eq_getElem (by omega)
        rw [hseg _ hx] at hw
        cases hw
        rw [hx]
        simp [hb]
  | .both a b, f, t, hf => by
    have iha := fun f t h => endsF_iff s a f t h
    have ihb := fun f t h => endsF_iff s b f t h
    simp only [endsF, bothSet]
    rw [both_iff]
    constructor
    · rintro (h | ⟨k, hk, h1, h2⟩)
      · cases h
      · obtain ⟨h3, h4, h5⟩ := (iha f k hf).1 h1
        obtain ⟨h6, h7, h8⟩ := (ihb k t h4).1 h2
        exact ⟨by omega, h7, by rw [← seg_app h3 h6]; exact .both h5 h8⟩
    · rintro ⟨h1, h2, h⟩
      generalize hw : seg s f t = w at h
      cases h with
      | both hu hv =>
        obtain ⟨k, h4, h5, h6, h7⟩ := seg_split h1 h2 hw
        refine .inr ⟨k, List.mem_range'_1.2 ⟨h4, by omega⟩, (iha f k hf).2 ⟨h4, by omega, by rw [h6]; exact hu⟩, (ihb k t (by omega)).2 ⟨h5, h2, by rw [h7]; exact hv⟩⟩
  | .or a b, f, t, hf => by
    simp only [endsF, Bool.or_eq_true]
    rw [endsF_iff s a f t hf, endsF_iff s b f t hf]
    constructor
    · rintro (⟨h1, h2, h3⟩ | ⟨h1, h2, h3⟩)
      · exact ⟨h1, h2, .orl h3⟩
      · exact ⟨h1, h2, .orr h3⟩
    · rintro ⟨h1, h2, h⟩
      cases h with
      | orl h => exact .inl ⟨h1, h2, h⟩
      | orr h => exact .inr ⟨h1, h2, h⟩
  | .star a, f, t, hf => by
    have iha := fun f t h => endsF_iff s a f t h
    simp only [endsF]
    rw [starSet_iff (fun f t hf h => by have := (iha f t hf).1 h; exact ⟨this.1, this.2.1⟩) hf]
    constructor
    · intro h; exact star_of_chain iha h hf
    · rintro ⟨h1, h2, h⟩; exact chain_of_star iha h rfl f t h1 h2 rfl
  | .group a, f, t, hf => by
    simp only [endsF]
    rw [endsF_iff s a f t hf]
    constructor
    · rintro ⟨h1, h2, h3⟩; exact ⟨h1, h2, .group h3⟩
    · rintro ⟨h1, h2, h⟩; cases h with | group h => exact ⟨h1, h2, h⟩
  | .anew a, f, t, hf => by
    simp only [endsF]
    rw [endsF_iff s a f t hf]
    constructor
    · rintro ⟨h1, h2, h3⟩; exact ⟨h1, h2, .anew h3⟩
    · rintro ⟨h1, h2, h⟩; cases h with | anew h => exact ⟨h1, h2, h⟩

theorem says_iff (s : List UInt8) (r : Re) : endsF s r 0 s.length = true ↔ Mt r s := by
  rw [endsF_iff s r 0 s.length (Nat.zero_le _)]
  have : seg s 0 s.length = s := by unfold seg; simp
  rw [this]
  simp
end Go.Proofs.Ytjodmimnbpgfcaa

/- Ful -/
namespace Go.Proofs.Ytjodmimnbpgfcaa

/-- A value says a text by a core: no item of a star is empty. -/
inductive Full : Re → Val → List UInt8 → Prop
  | empty : Full .empty (.mk 1 0 []) []
  | byte {S : Set4} {b : UInt8} (h : S.has b.toNat = true) : Full (.byte S) (.mk 2 (b.toNat : Int) []) [b]
  | both {a b : Re} {x y : Val} {u v : List UInt8} (h : Full a x u) (k : Full b y v) : Full (.both a b) (.mk 3 0 [x, y]) (u ++ v)
  | orl {a b : Re} {x : Val} {u : List UInt8} (h : Full a x u) : Full (.or a b) (.mk 4 0 [x]) u
  | orr {a b : Re} {x : Val} {u : List UInt8} (h : Full b x u) : Full (.or a b) (.mk 5 0 [x]) u
  | snil {a : Re} : Full (.star a) (.mk 6 0 []) []
  | scons {a : Re} {x : Val} {l : List Val} {u v : List UInt8} (h : Full a x u) (hu : u ≠ []) (k : Full (.star a) (.mk 6 0 l) v) : Full (.star a) (.mk 6 0 (x :: l)) (u ++ v)
  | group {a : Re} {x : Val} {u : List UInt8} (h : Full a x u) : Full (.group a) (.mk 7 0 [x]) u
  | anew {a : Re} {x : Val} {u : List UInt8} (h : Full a x u) : Full (.anew a) x u

theorem Full.mt {r : Re} {v : Val} {u : List UInt8} (h : Full r v u) : Mt r u := by
  induction h with
  | empty => exact .empty
  | byte h => exact .byte h
  | both _ _ ih ik => exact .both ih ik
  | orl _ ih => exact .orl ih
  | orr _ ih => exact .orr ih
  | snil => exact .snil
  | scons _ _ _ ih ik => exact .scons ih ik
  | group _ ih => exact .group ih
  | anew _ ih => exact .anew ih

theorem Full.star_form {a : Re} {v : Val} {u : List UInt8} (h : Full (.star a) v u) : ∃ l, v = .mk 6 0 l := by
  cases h with
  | snil => exact ⟨_, rfl⟩
  | scons _ _ _ => exact ⟨_, rfl⟩

theorem Full.of_mt {r : Re} {u : List UInt8} (h : Mt r u) : ∃ v, Full r v u := by
  induction h with
  | empty => exact ⟨_, .empty⟩
  | byte h => exact ⟨_, .byte h⟩
  | both _ _ ih ik =>
    obtain ⟨x, hx⟩ := ih
    obtain ⟨y, hy⟩ := ik
    exact ⟨_, .both hx hy⟩
  | orl _ ih => obtain ⟨x, hx⟩ := ih; exact ⟨_, .orl hx⟩
  | orr _ ih => obtain ⟨x, hx⟩ := ih; exact ⟨_, .orr hx⟩
  | snil => exact ⟨_, .snil⟩
  | @scons a u v _ _ ih ik =>
    obtain ⟨x, hx⟩ := ih
    obtain ⟨y, hy⟩ := ik
    by_cases hu : u = []
    · subst hu
      exact ⟨y, hy⟩
    · obtain ⟨l, rfl⟩ := hy.star_form
      exact ⟨_, .scons hx hu hy⟩
  | group _ ih => obtain ⟨x, hx⟩ := ih; exact ⟨_, .group hx⟩
  | anew _ ih => obtain ⟨x, hx⟩ := ih; exact ⟨_, .anew hx⟩

/-- A value says one text alone. -/
theorem Full.one {r : Re} {v : Val} {u : List UInt8} (h : Full r v u) : ∀ {u'}, Full r v u' → u = u' := by
  induction h with
  | empty => intro u' h; cases h; rfl
  | @byte S b hb =>
    intro u' h
    have key : ∀ (r : Re) (z : Val) (w : List UInt8), Full r z w → r = .byte S → z = .mk 2 (b.toNat : Int) [] → w = [b] := by
      intro r z w hf hr hz
      cases hf with
      | @byte S' b' _ =>
        injection hz with _ h2 _
        have : b' = b := by apply UInt8.toNat_inj.1; omega
        rw [this]
      | _ => cases hr
    exact (key _ _ _ h rfl rfl).symm
  | both _ _ ih ik => intro u' h; cases h with | both h1 h2 => rw [ih h1, ik h2]
  | orl _ ih => intro u' h; cases h with | orl h1 => exact ih h1
  | orr _ ih => intro u' h; cases h with | orr h1 => exact ih h1
  | snil => intro u' h; cases h; rfl
  | scons _ _ _ ih ik => intro u' h; cases h with | scons h1 _ h2 => rw [ih h1, ik h2]
  | group _ ih => intro u' h; cases h with | group h1 => exact ih h1
  | anew _ ih => intro u' h; cases h with | anew h1 => exact ih h1
end Go.Proofs.Ytjodmimnbpgfcaa
