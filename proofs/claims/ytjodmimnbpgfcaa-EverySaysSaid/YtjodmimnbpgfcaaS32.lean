/- The reference's every, walked. A library text: no claim is stated here. The reference's list: all full values, each once, cut where there are too many. Plain Lean, no program. A library text: no claim is stated here. The reference's All: its insertion sort. A library text: no claim is stated here. -/
import Derived.Test.YtjodmimnbpgfcaaS31
import Derived.Test.YtjodmimnbpgfcaaS19
import Derived.Test.YtjodmimnbpgfcaaS13
import Derived.Test.YtjodmimnbpgfcaaS24

/- EvF -/
namespace Go.Proofs.Ytjodmimnbpgfcaa
open Go.RowKit Go.IntWalk

theorem EvSpec.le {g g' : G} {most : Int} {r : CRow} {F : List UInt8 → List Val} (h : EvSpec g most r F) (k : g.Le g') : EvSpec g' most r F := fun g'' hle => h g'' (k.trans hle)

theorem evR_star {m : Nat} (hm : 1 ≤ m) (a : Re) (u : List UInt8) (hu : u ≠ []) :
    evR m (.star a) u = ((List.range u.length).flatMap fun k => itemsV (evR m a (u.take (k + 1))) (evR m (.star a) (u.drop (k + 1)))).take m := by
  obtain ⟨f, hf⟩ : ∃ f, u.length = f + 1 := ⟨u.length - 1, by have : 0 < u.length := List.length_pos_iff.2 hu; omega⟩
  have e1 : evR m (.star a) u = starR m (evR m a) (f + 1) u := by rw [evR, hf]
  rw [e1, starR, if_neg hu, List.nil_append]
  congr 1
  rw [List.flatMap_def, List.flatMap_def]
  congr 1
  refine List.map_congr_left fun k hk => ?_
  have hk : k < u.length := by simpa using hk
  unfold itemsV
  rw [show evR m (.star a) (u.drop (k + 1)) = starR m (evR m a) f (u.drop (k + 1)) by rw [evR]; exact starR_fuel hm _ _ _ (Nat.le_refl _) (by simp; omega)]

set_option maxHeartbeats 1000000 in
theorem every_any {g : G} {r : CRow} {c : Core} (h : RefV g r c) (m : Nat) (most : Int) (hmm : (m : Int) = most + 1) (hm1 : 1 ≤ m) (hm2 : m ≤ 2001) : wfC c = true → EvSpec g most r (evR m c.re) := by
  refine h.step (motive := fun r c => wfC c = true → EvSpec g most r (evR m c.re)) ?_
  intro k s n a cap l hk hs hn hcap hmax HR hwf g' hle u sa sc hu hsl w hw
  have hkids : ∀ q (hq : q < l.length), ∃ b off r, a = some ⟨b, off, none⟩ ∧ (∀ w, Fut g' w → w.rangeAt b (off + q * 259) (cellsR r).toList) ∧ EvSpec g' most r (evR m l[q].re) := by
    intro q hq
    obtain ⟨b, off, r, h1, h2, -, h4⟩ := HR q hq
    have hwl : wfC l[q] = true := by
      simp only [wfC, Bool.and_eq_true] at hwf
      exact wfL_mem hwf.2 (List.getElem_mem _)
    exact ⟨b, off, r, h1, fun w hw => h2 w (hw.le hle), (h4 hwl).le hle⟩
  have hlen := evR_len hm1
  rcases kids_cases hwf with ⟨h1, h2, h3⟩ | ⟨h1, h2, h3⟩ | ⟨h1, h2, h3⟩ | ⟨x, y, h1, h2, h3⟩ | ⟨x, y, h1, h2, h3⟩ | ⟨x, h1, h2, h3⟩ | ⟨x, h1, h2, h3⟩ | ⟨x, h1, h2, h3⟩
  all_goals
    simp only [Core.kind, Core.l] at h1 h2
    subst h1 h2
    rw [h3]
  · exact ev_none s n a _ cap m most u w hw
  · exact ev_empty s n a _ cap m most u w hw
  · exact ev_byte s n a _ cap m most u hsl w hw
  · obtain ⟨b, off, r0, rfl, hr0, H0⟩ := hkids 0 (by simp)
    obtain ⟨b', off', r1, e, hr1, H1⟩ := hkids 1 (by simp)
    simp only [Option.some.injEq, Addr.mk.injEq] at e
    obtain ⟨rfl, rfl, -⟩ := e
    have := ev_both (g := g') s n cap m most hmm hm2 (by simpa using hr0) (by simpa using hr1) H0 H1 (hlen _) (hlen _) u hu hsl w hw
    rw [evR]
    exact this
  · obtain ⟨b, off, r0, rfl, hr0, H0⟩ := hkids 0 (by simp)
    obtain ⟨b', off', r1, e, hr1, H1⟩ := hkids 1 (by simp)
    simp only [Option.some.injEq, Addr.mk.injEq] at e
    obtain ⟨rfl, rfl, -⟩ := e
    have := ev_or (g := g') s n cap m most hmm hm2 (by simpa using hr0) (by simpa using hr1) H0 H1 (hlen _) (hlen _) u hu hsl w hw
    rw [evR]
    exact this
  · obtain ⟨b, off, r0, rfl, hr0, H0⟩ := hkids 0 (by simp)
    have hr0' : ∀ w', Fut g' w' → w'.rangeAt b off (cellsR r0).toList := by simpa using hr0
    suffices ∀ (N : Nat) (u : List UInt8), u.length ≤ N → ∀ g'', g'.Le g'' → ∀ (sa : Option Addr) (sc : Nat), u.length ≤ 1000 → SliceV g'' sa u.length sc (u.map byteV) → ∀ w, Fut g'' w →
        Calls Try.prog 40 #[.agg (cellsR ⟨5, s, n, some ⟨b, off, none⟩, 1, cap⟩), .slice sa u.length sc, .int .i64 most] w (EvPost g'' (evR m (.star x.re) u) w) from
      this u.length u (Nat.le_refl _) g' (G.Le.refl _) sa sc hu hsl w hw
    intro N
    induction N with
    | zero =>
      intro u hu0 g'' hle2 sa sc hu hsl w hw
      have : u = [] := List.eq_nil_of_length_eq_zero (by omega)
      subst this
      exact ev_star_nil (g := g'') s n _ 1 cap most w hw
    | succ N ih =>
      intro u hu0 g'' hle2 sa sc hu hsl w hw
      by_cases hne : u = []
      · subst hne
        exact ev_star_nil (g := g'') s n _ 1 cap most w hw
      · have := ev_star (g := g'') s n cap (FS := evR m (.star x.re)) m most hmm hm2 (fun w' hw' => hr0' w' (hw'.le hle2)) (H0.le hle2) (hlen _) (fun u => ⟨hlen _ u, fun y hy => by
            rw [evR] at hy
            exact (starR_few _ _ y hy).1⟩) u hne hu hsl (fun k hk1 hk2 g3 hle3 w3 hw3 => by
            have hl : (u.drop k).length = u.length - k := by simp
            have h5 := ih (u.drop k) (by omega) g3 (hle2.trans hle3) (tailA sa sc k 1) (sc - k) (by omega) (by rw [hl, List.map_drop]; exact (hsl.le hle3).drop hk2) w3 hw3
            rwa [hl] at h5) w hw
        rw [evR_star hm1 x.re u hne]
        exact this
  · obtain ⟨b, off, r0, rfl, hr0, H0⟩ := hkids 0 (by simp)
    have := ev_group (g := g') s n cap most (by simpa using hr0) H0 (fun u => Nat.le_trans (hlen _ u) (by omega)) u hu hsl w hw
    rw [evR]
    exact this
  · obtain ⟨b, off, r0, rfl, hr0, H0⟩ := hkids 0 (by simp)
    have := ev_anew (g := g') s n cap most (by simpa using hr0) H0 u hu hsl w hw
    rw [evR]
    exact this
end Go.Proofs.Ytjodmimnbpgfcaa

/- PlB -/
namespace Go.Proofs.Ytjodmimnbpgfcaa

def prodV (h : Val → Val → Val) (A B : List Val) : List Val := A.flatMap fun x => B.map (h x)
theorem pairs_prod (A B : List Val) : pairsV A B = prodV (fun x y => .mk 3 0 [x, y]) A B := rfl
theorem items_prod (A B : List Val) : itemsV A B = prodV (fun x y => .mk 6 0 (x :: y.l)) A B := rfl

def starT (A : List UInt8 → List Val) : Nat → List UInt8 → List Val
  | 0, u => if u = [] then [Val.mk 6 0 []] else []
  | f + 1, u => (if u = [] then [Val.mk 6 0 []] else []) ++ (List.range u.length).flatMap fun k => itemsV (A (u.take (k + 1))) (starT A f (u.drop (k + 1)))

/-- All full values. -/
def tR : Re → List UInt8 → List Val
  | .none, _ => []
  | .empty, u => if u = [] then [Val.mk 1 0 []] else []
  | .byte S, u => match u with | [x] => if S.has x.toNat then [Val.mk 2 (x.toNat : Int) []] else [] | _ => []
  | .both a b, u => (List.range (u.length + 1)).flatMap fun k => pairsV (tR a (u.take k)) (tR b (u.drop k))
  | .or a b, u => ((tR a u).map fun x => Val.mk 4 0 [x]) ++ ((tR b u).map fun x => Val.mk 5 0 [x])
  | .star a, u => starT (tR a) u.length u
  | .group a, u => (tR a u).map fun x => Val.mk 7 0 [x]
  | .anew a, u => tR a u

/-! ### The cut -/
theorem take_app {α : Type} {m : Nat} {X X' Y Y' : List α} (h : X.take m = X'.take m) (k : Y.take m = Y'.take m) : (X ++ Y).take m = (X' ++ Y').take m := by
  have hl := congrArg List.length h
  rw [List.length_take, List.length_take] at hl
  by_cases hX : m ≤ X.length
  · have hX' : m ≤ X'.length := by omega
    rw [List.take_append_of_le_length hX, List.take_append_of_le_length hX', h]
  · have hX' : X'.length = X.length := by omega
    have e : X = X' := by
      rw [List.take_of_length_le (by omega), List.take_of_length_le (by omega)] at h
      exact h
    subst e
    rw [List.take_append, List.take_append]
    congr 1
    have h1 : ∀ Z : List α, Z.take (m - X.length) = (Z.take m).take (m - X.length) := fun Z => by
      rw [List.take_take, Nat.min_eq_left (by omega)]
    rw [h1 Y, h1 Y', k]
theorem take_flat {α β : Type} {m : Nat} {f g : α → List β} : ∀ (l : List α), (∀ x ∈ l, (f x).take m = (g x).take m) → (l.flatMap f).take m = (l.flatMap g).take m
  | [], _ => rfl
  | x :: r, h => by
    rw [List.flatMap_cons, List.flatMap_cons]
    exact take_app (h x (by simp)) (take_flat r fun y hy => h y (List.mem_cons_of_mem _ hy))
theorem prod_len (h : Val → Val → Val) (B : List Val) (hB : B ≠ []) : ∀ (A : List Val), A.length ≤ (prodV h A B).length
  | [] => by simp [prodV]
  | x :: r => by
    have := prod_len h B hB r
    have hb := List.length_pos_iff.2 hB
    simp only [prodV, List.flatMap_cons, List.length_append, List.length_map, List.length_cons] at this ⊢
    omega
theorem prod_take (m : Nat) (h : Val → Val → Val) (A B : List Val) : (prodV h (A.take m) (B.take m)).take m = (prodV h A B).take m := by
  have h1 : (prodV h (A.take m) (B.take m)).take m = (prodV h (A.take m) B).take m := take_flat _ fun x _ => by
    rw [List.map_take, List.take_take, Nat.min_self]
  rw [h1]
  by_cases hB : B = []
  · subst hB
    have e : ∀ X, prodV h X [] = [] := fun X => by
      induction X with
      | nil => rfl
      | cons x r _ => simp [prodV]
    rw [e, e]
  · by_cases hA : A.length ≤ m
    · rw [List.take_of_length_le hA]
    · have e : prodV h A B = prodV h (A.take m) B ++ prodV h (A.drop m) B := by
        unfold prodV
        rw [← List.flatMap_append, List.take_append_drop]
      have := prod_len h B hB (A.take m)
      rw [e, List.take_append_of_le_length]
      rw [List.length_take] at this
      omega

theorem starR_take {m : Nat} (hm : 1 ≤ m) {A T : List UInt8 → List Val} (hA : ∀ u, A u = (T u).take m) : ∀ (f : Nat) (u : List UInt8), starR m A f u = (starT T f u).take m
  | 0, u => by
    rw [starR, starT]
    split
    · rw [List.take_of_length_le (by simpa using hm)]
    · simp
  | f + 1, u => by
    rw [starR, starT]
    refine take_app rfl (take_flat _ fun k _ => ?_)
    have e : ((A (u.take (k + 1))).flatMap fun x => (starR m A f (u.drop (k + 1))).map fun y => Val.mk 6 0 (x :: y.l)) = itemsV (A (u.take (k + 1))) (starR m A f (u.drop (k + 1))) := rfl
    rw [e, starR_take hm hA f, hA, items_prod, items_prod, prod_take]

theorem evR_take {m : Nat} (hm : 1 ≤ m) : ∀ (r : Re) (u : List UInt8), evR m r u = (tR r u).take m
  | .none, u => by simp [evR, tR]
  | .empty, u => by
    rw [evR, tR]
    split
    · rw [List.take_of_length_le (by simpa using hm)]
    · simp
  | .byte S, u => by
    have h := evR_len hm (.byte S) u
    have e : evR m (.byte S) u = tR (.byte S) u := by unfold evR tR; rfl
    rw [e] at h ⊢
    rw [List.take_of_length_le h]
  | .both a b, u => by
    rw [evR, tR]
    refine take_flat _ fun k _ => ?_
    have e : ((evR m a (u.take k)).flatMap fun x => (evR m b (u.drop k)).map fun y => Val.mk 3 0 [x, y]) = pairsV (evR m a (u.take k)) (evR m b (u.drop k)) := rfl
    rw [e, evR_take hm a, evR_take hm b, pairs_prod, pairs_prod, prod_take]
  | .or a b, u => by
    rw [evR, tR, evR_take hm a, evR_take hm b]
    refine take_app ?_ ?_ <;> rw [List.map_take, List.take_take, Nat.min_self]
  | .star a, u => by rw [evR, tR, starR_take hm (evR_take hm a)]
  | .group a, u => by rw [evR, tR, evR_take hm a, List.map_take]
  | .anew a, u => by rw [evR, tR, evR_take hm a]

/-! ### Its members -/
theorem prod_mem {h : Val → Val → Val} {A B : List Val} {v : Val} : v ∈ prodV h A B ↔ ∃ x ∈ A, ∃ y ∈ B, h x y = v := by
  simp [prodV, List.mem_flatMap, List.mem_map]

theorem starT_mem {a : Re} {A : List UInt8 → List Val} (hA : ∀ u v, v ∈ A u ↔ Full a v u) : ∀ (f : Nat) (u : List UInt8) (v : Val), u.length ≤ f → (v ∈ starT A f u ↔ Full (.star a) v u)
  | 0, u, v, h => by
    have hu : u = [] := List.eq_nil_of_length_eq_zero (by omega)
    subst hu
    rw [starT, if_pos rfl, List.mem_singleton]
    constructor
    · rintro rfl; exact .snil
    · intro h
      generalize hu : ([] : List UInt8) = w at h
      cases h with
      | snil => rfl
      | @scons _ _ _ u v hx hne hl =>
        have := List.append_eq_nil_iff.1 hu.symm
        exact absurd this.1 hne
  | f + 1, u, v, h => by
    rw [starT, List.mem_append, List.mem_flatMap]
    constructor
    · rintro (h1 | ⟨k, hk, h1⟩)
      · split at h1
        · rename_i hu
          simp at h1
          subst h1 hu
          exact .snil
        · simp at h1
      · rw [items_prod, prod_mem] at h1
        obtain ⟨x, hx, y, hy, rfl⟩ := h1
        have hk : k < u.length := by simpa using hk
        have h2 := (hA _ _).1 hx
        have h3 := (starT_mem hA f _ _ (by simp; omega)).1 hy
        obtain ⟨l, rfl⟩ := h3.star_form
        have := Full.scons h2 (by simp; intro e; rw [e] at hk; simp at hk) h3
        rwa [List.take_append_drop] at this
    · intro h1
      generalize hw : u = w at h1
      cases h1 with
      | snil => subst hw; left; simp
      | @scons _ x l u1 u2 hx hne hl =>
        right
        subst hw
        have hp := List.length_pos_iff.2 hne
        refine ⟨u1.length - 1, by simp; omega, ?_⟩
        rw [show u1.length - 1 + 1 = u1.length by omega, List.take_left, List.drop_left, items_prod, prod_mem]
        exact ⟨x, (hA _ _).2 hx, _, (starT_mem hA f _ _ (by simp at h; omega)).2 hl, rfl⟩

theorem tR_mem : ∀ (r : Re) (u : List UInt8) (v : Val), v ∈ tR r u ↔ Full r v u
  | .none, u, v => by
    constructor
    · intro h; simp [tR] at h
    · intro h; cases h
  | .empty, u, v => by
    rw [tR]
    constructor
    · intro h
      split at h
      · rename_i hu
        simp at h
        subst h hu
        exact .empty
      · simp at h
    · intro h; cases h; simp
  | .byte S, u, v => by
    constructor
    · intro h
      unfold tR at h
      split at h
      · split at h
        · rename_i hx
          simp at h
          subst h
          exact .byte hx
        · simp at h
      · simp at h
    · intro h
      cases h with
      | byte hb => unfold tR; simp [hb]
  | .both a b, u, v => by
    rw [tR, List.mem_flatMap]
    constructor
    · rintro ⟨k, hk, h1⟩
      rw [pairs_prod, prod_mem] at h1
      obtain ⟨x, hx, y, hy, rfl⟩ := h1
      have := Full.both ((tR_mem a _ _).1 hx) ((tR_mem b _ _).1 hy)
      rwa [List.take_append_drop] at this
    · intro h
      cases h with
      | @both _ _ x y u1 u2 hx hy =>
        refine ⟨u1.length, by simp; omega, ?_⟩
        rw [List.take_left, List.drop_left, pairs_prod, prod_mem]
        exact ⟨x, (tR_mem a _ _).2 hx, y, (tR_mem b _ _).2 hy, rfl⟩
  | .or a b, u, v => by
    rw [tR, List.mem_append, List.mem_map, List.mem_map]
    constructor
    · rintro (⟨x, hx, rfl⟩ | ⟨x, hx, rfl⟩)
      · exact .orl ((tR_mem a _ _).1 hx)
      · exact .orr ((tR_mem b _ _).1 hx)
    · intro h
      cases h with
      | orl hx => exact .inl ⟨_, (tR_mem a _ _).2 hx, rfl⟩
      | orr hx => exact .inr ⟨_, (tR_mem b _ _).2 hx, rfl⟩
  | .star a, u, v => by rw [tR]; exact starT_mem (tR_mem a) u.length u v (Nat.le_refl _)
  | .group a, u, v => by
    rw [tR, List.mem_map]
    constructor
    · rintro ⟨x, hx, rfl⟩; exact .group ((tR_mem a _ _).1 hx)
    · intro h
      cases h with
      | group hx => exact ⟨_, (tR_mem a _ _).2 hx, rfl⟩
  | .anew a, u, v => by
    rw [tR]
    constructor
    · intro h; exact .anew ((tR_mem a _ _).1 h)
    · intro h
      cases h with
      | anew hx => exact (tR_mem a _ _).2 hx

/-! ### No doubles -/
theorem nodup_map {f : Val → Val} (hf : ∀ x y, f x = f y → x = y) {l : List Val} (h : l.Nodup) : (l.map f).Nodup := by
  unfold List.Nodup at h ⊢
  rw [List.pairwise_map]
  exact h.imp fun {x y} hxy e => hxy (hf x y e)
theorem prod_nodup {h : Val → Val → Val} {A B : List Val} (hA : A.Nodup) (hB : B.Nodup) (h1 : ∀ x x', x ∈ A → x' ∈ A → ∀ y y', y ∈ B → y' ∈ B → h x y = h x' y' → x = x' ∧ y = y') : (prodV h A B).Nodup := by
  unfold List.Nodup at hA hB ⊢
  unfold prodV
  rw [List.pairwise_flatMap]
  refine ⟨fun x hx => ?_, hA.imp_of_mem fun {x x'} hx hx' hne v hv v' hv' e => ?_⟩
  · rw [List.pairwise_map]
    exact hB.imp_of_mem fun {y y'} hy hy' hne e => hne (h1 x x hx hx y y' hy hy' e).2
  · obtain ⟨y, hy, rfl⟩ := List.mem_map.1 hv
    obtain ⟨y', hy', rfl⟩ := List.mem_map.1 hv'
    exact hne (h1 x x' hx hx' y y' hy hy' e).1
theorem range_lt (n : Nat) : (List.range n).Pairwise (· < ·) := List.pairwise_lt_range

theorem starT_nodup {a : Re} {A : List UInt8 → List Val} (hA : ∀ u v, v ∈ A u ↔ Full a v u) (hN : ∀ u, (A u).Nodup) : ∀ (f : Nat) (u : List UInt8), u.length ≤ f → (starT A f u).Nodup
  | 0, u, _ => by rw [starT]; split <;> simp
  | f + 1, u, h => by
    rw [starT, List.nodup_append]
    refine ⟨by split <;> simp, ?_, ?_⟩
    · unfold List.Nodup
      rw [List.pairwise_flatMap]
      refine ⟨fun k hk => ?_, (range_lt u.length).imp_of_mem fun {k k'} hk hk' hlt v hv v' hv' e => ?_⟩
      · rw [items_prod]
        have hk : k < u.length := by simpa using hk
        refine prod_nodup (hN _) (starT_nodup hA hN f _ (by simp; omega)) fun x x' _ _ y y' hy hy' e => ?_
        obtain ⟨l, rfl⟩ := ((starT_mem hA f _ _ (by simp; omega)).1 hy).star_form
        obtain ⟨l', rfl⟩ := ((starT_mem hA f _ _ (by simp; omega)).1 hy').star_form
        simp only [Val.mk.injEq, List.cons.injEq, true_and, Val.l] at e
        exact ⟨e.1, by rw [e.2]⟩
      · subst e
        have hk : k < u.length := by simpa using hk
        have hk' : k' < u.length := by simpa using hk'
        rw [items_prod, prod_mem] at hv hv'
        obtain ⟨x, hx, y, -, rfl⟩ := hv
        obtain ⟨x', hx', y', -, e⟩ := hv'
        simp only [Val.mk.injEq, List.cons.injEq, true_and] at e
        have h1 := ((hA _ _).1 hx).one (by rw [← e.1]; exact (hA _ _).1 hx')
        have h2 := congrArg List.length h1
        simp at h2
        omega
    · intro v hv v' hv' e
      subst e
      split at hv
      · simp at hv
        subst hv
        obtain ⟨k, hk, h1⟩ := List.mem_flatMap.1 hv'
        rw [items_prod, prod_mem] at h1
        obtain ⟨x, -, y, -, e⟩ := h1
        simp at e
      · simp at hv

theorem tR_nodup : ∀ (r : Re) (u : List UInt8), (tR r u).Nodup
  | .none, u => by simp [tR]
  | .empty, u => by rw [tR]; split <;> simp
  | .byte S, u => by unfold tR; split <;> (try split) <;> simp
  | .both a b, u => by
    rw [tR]
    unfold List.Nodup
    rw [List.pairwise_flatMap]
    refine ⟨fun k hk => ?_, (range_lt (u.length + 1)).imp_of_mem fun {k k'} hk hk' hlt v hv v' hv' e => ?_⟩
    · rw [pairs_prod]
      exact prod_nodup (tR_nodup a _) (tR_nodup b _) fun x x' _ _ y y' _ _ e => by simpa using e
    · subst e
      have hk : k < u.length + 1 := by simpa using hk
      have hk' : k' < u.length + 1 := by simpa using hk'
      rw [pairs_prod, prod_mem] at hv hv'
      obtain ⟨x, hx, y, -, rfl⟩ := hv
      obtain ⟨x', hx', y', -, e⟩ := hv'
      simp only [Val.mk.injEq, List.cons.injEq, true_and] at e
      have h1 := ((tR_mem a _ _).1 hx).one (by rw [← e.1]; exact (tR_mem a _ _).1 hx')
      have h2 := congrArg List.length h1
      simp at h2
      omega
  | .or a b, u => by
    rw [tR, List.nodup_append]
    refine ⟨nodup_map (fun x y e => by simpa using e) (tR_nodup a u), nodup_map (fun x y e => by simpa using e) (tR_nodup b u), ?_⟩
    intro v hv v' hv' e
    subst e
    obtain ⟨x, -, rfl⟩ := List.mem_map.1 hv
    obtain ⟨y, -, e⟩ := List.mem_map.1 hv'
    simp at e
  | .star a, u => by rw [tR]; exact starT_nodup (tR_mem a) (tR_nodup a) u.length u (Nat.le_refl _)
  | .group a, u => by rw [tR]; exact nodup_map (fun x y e => by simpa using e) (tR_nodup a u)
  | .anew a, u => by rw [tR]; exact tR_nodup a u
end Go.Proofs.Ytjodmimnbpgfcaa

/- AllA -/
namespace Go.Proofs.Ytjodmimnbpgfcaa
open Go.RowKit Go.IntWalk

/-- Where x goes, from place k on downwards. -/
def posR (R : List Val) (x : Val) : Nat → Nat
  | 0 => 0
  | k + 1 => match R[k]? with | some y => if eagerF y x > 0 then posR R x k else k + 1 | none => k + 1
def insR (R : List Val) (x : Val) : List Val := R.take (posR R x R.length) ++ [x] ++ R.drop (posR R x R.length)
theorem posR_le (R : List Val) (x : Val) : ∀ k, posR R x k ≤ k
  | 0 => Nat.le_refl _
  | k + 1 => by
    rw [posR]
    split
    · split
      · have := posR_le R x k; omega
      · omega
    · omega
theorem insR_len (R : List Val) (x : Val) : (insR R x).length = R.length + 1 := by
  have := posR_le R x R.length
  simp [insR]; omega
theorem insR_mem (R : List Val) (x y : Val) (h : y ∈ insR R x) : y ∈ R ∨ y = x := by
  simp only [insR, List.mem_append, List.mem_singleton] at h
  rcases h with (h | h) | h
  · exact .inl (List.mem_of_mem_take h)
  · exact .inr h
  · exact .inl (List.mem_of_mem_drop h)

/-- A row of values under construction, empty ones of a block too. -/
structure OwnP (base : Nat) (g : G) (w : World) (v : Value) (l : List Val) (rs : List VRow) : Prop where
  own : w.ownsRow base 61 3 v l.length (rowsCells rs)
  rows : RowsV g rs l

theorem OwnP.grow {base : Nat} {g : G} {w w' : World} {v : Value} {l : List Val} {rs : List VRow} (h : OwnP base g w v l rs) (hg : Grow g w g w') : OwnP base g w' v l rs :=
  ⟨ownsRow_same h.own (fun k hk => hg.old k (h.own.lt k hk).2), h.rows⟩
theorem RowsV.app {g : G} {a b : List VRow} {l l' : List Val} (h : RowsV g a l) (h' : RowsV g b l') : RowsV g (a ++ b) (l ++ l') := by
  refine ⟨by simp [h.1, h'.1], fun i r v h1 h2 => ?_⟩
  by_cases hi : i < l.length
  · rw [List.getElem?_append_left (by rw [h.1]; exact hi)] at h1
    rw [List.getElem?_append_left hi] at h2
    exact h.2 i r v h1 h2
  · rw [List.getElem?_append_right (by rw [h.1]; omega)] at h1
    rw [List.getElem?_append_right (by omega)] at h2
    rw [h.1] at h1
    exact h'.2 _ r v h1 h2
theorem OwnP.app {base n m : Nat} {g : G} {w' : World} {v v' : Value} {w : World} {l l' : List Val} {rs rs' : List VRow} (h : OwnP base g w v l rs) (hn : l.length = n) (hr : RowsV g rs' l') (hm : l'.length = m) (ho : w'.ownsRow base 61 3 v' (n + m) (rowsCells rs ++ rowsCells rs')) : OwnP base g w' v' (l ++ l') (rs ++ rs') := by
  subst hn hm
  refine ⟨?_, h.rows.app hr⟩
  rw [rowsCells_append, List.length_append]
  exact ho

theorem own_zero {w : World} {base : Nat} (hb : base ≤ w.heap.size) : (w.alloc (.cells #[] 61)).drew.ownsRow base 61 3 (.slice (some ⟨w.heap.size, 0, none⟩) 0 0) 0 [] :=
  World.ownsRow_made (base := base) (e := 61) (size := 3) w #[] 0 hb (by unfold maxLen; omega) rfl
theorem own_zeroB (w : World) (o1 : Obj) : ((w.alloc (.cells #[] 61)).alloc o1).drew.ownsRow w.heap.size 61 3 (.slice (some ⟨w.heap.size, 0, none⟩) 0 0) 0 [] :=
  (own_zero (w := w) (Nat.le_refl _)).alloc o1
theorem own_zeroC (w : World) (o1 : Obj) : ((w.alloc o1).alloc (.cells #[] 61)).drew.ownsRow w.heap.size 61 3 (.slice (some ⟨w.heap.size + 1, 0, none⟩) 0 0) 0 [] := by
  have := own_zero (w := w.alloc o1) (base := w.heap.size) (by simp)
  rwa [World.size_alloc] at this
theorem heap_drew_old2 (w : World) (o1 o2 : Obj) : ((w.alloc o1).alloc o2).drew.heap[w.heap.size]? = some o1 := by
  show ((w.alloc o1).alloc o2).heap[w.heap.size]? = some o1
  rw [Below.heap_alloc _ _ _ (by rw [World.size_alloc]; omega)]
  exact heap_alloc_new w o1

theorem SrcV.part {g : G} {a : Option Addr} {n : Nat} {l : List Val} {rs : List VRow} (h : SrcV g a n l rs) {k : Nat} (hk : k ≤ n) : SrcV g a k (l.take k) (rs.take k) := by
  have hl := h.len
  have hr := h.rows.1
  have e : rowsCells (rs.take k) = (rowsCells rs).take (k * 3) := by
    have h1 := rowsCells_append (rs.take k) (rs.drop k)
    rw [List.take_append_drop] at h1
    rw [h1]
    exact (List.take_left' (by rw [rowsCells_length]; simp; omega)).symm
  refine ⟨by simp; omega, ⟨by simp; omega, fun i r v h1 h2 => ?_⟩, fun ad e' w hw j u hj => ?_, fun e' => by have := h.none e'; omega⟩
  · rw [List.getElem?_take] at h1 h2
    split at h1
    · exact h.rows.2 i r v h1 (by simpa [*] using h2)
    · cases h1
  · rw [e, List.getElem?_take] at hj
    split at hj
    · exact h.some ad e' w hw j u hj
    · cases hj
theorem SrcV.tail {g : G} {a : Option Addr} {n c : Nat} {l : List Val} {rs : List VRow} (h : SrcV g a n l rs) (hc : n ≤ c) {k : Nat} (hk : k ≤ n) : SrcV g (tailA a c k 3) (n - k) (l.drop k) (rs.drop k) := by
  have hl := h.len
  have hr := h.rows.1
  have e : rowsCells (rs.drop k) = (rowsCells rs).drop (k * 3) := by
    have h1 := rowsCells_append (rs.take k) (rs.drop k)
    rw [List.take_append_drop] at h1
    rw [h1]
    exact (List.drop_left' (by rw [rowsCells_length]; simp; omega)).symm
  refine ⟨by simp; omega, ⟨by simp; omega, fun i r v h1 h2 => ?_⟩, fun ad e' w hw j u hj => ?_, fun e' => ?_⟩
  · rw [List.getElem?_drop] at h1 h2
    exact h.rows.2 _ r v h1 h2
  · rw [e, List.getElem?_drop] at hj
    unfold tailA at e'
    split at e'
    · have := (List.getElem?_eq_some_iff.1 hj).1
      rw [rowsCells_length] at this
      omega
    · cases a with
      | none => simp at e'
      | some ad0 =>
        simp only [Option.map_some, Option.some.injEq] at e'
        subst e'
        have h5 := h.some ad0 rfl w hw (k * 3 + j) u hj
        have : (ad0.add (k * 3)).add j = ad0.add (k * 3 + j) := by
          unfold Addr.add
          by_cases h1 : k * 3 = 0 <;> by_cases h2 : j = 0 <;> simp_all <;> omega
        rw [this]
        exact h5
  · unfold tailA at e'
    split at e'
    · have := h.none e'; omega
    · cases a with
      | none => have := h.none rfl; omega
      | some ad0 => simp at e'

theorem exec_take56 {a : Act} {o : Oper} {x y : Operand} {w : World} {sa : Option Addr} {n sc k : Nat} (ho : o.op = .slice 56 x none (some y) none) (hx : a.eval x = .slice sa n sc) (hy : a.eval y = .int .i64 (k : Nat)) (hk : k ≤ sc) :
    (execOp a.eval o).run Try.prog w = .ok (.value (.slice sa k sc)) w := by
  have he : Try.prog.elem 56 = 61 := by kernel_rfl
  have hz : (sizeOf 61).run Try.prog w = .ok 3 w := by
    obtain ⟨i0, hi0, -, hz1, -⟩ := info_parts Try.info61
    simp [sizeOf, typeInfo, hi0, hz1]
  have ht : Try.prog.underlying 56 = some (.slice (Try.prog.elem 56)) := by rw [he]; exact Try.underlying56
  have h1 := run_slice_h (P := Try.prog) w 56 sa n sc ht .i64 (k : Int) (by omega) (by omega)
  have h2 := run_sliceAt_slice (P := Try.prog) w 56 (.slice sa n sc) none (some (.int .i64 (k : Int))) none ht
  rw [he, hz] at h1
  unfold execOp
  simp only [ho, hx, hy, Option.map_none, Option.map_some]
  rw [Sem.run_bind, h2, h1]
  have : sliced sa 0 (k : Int).toNat sc 3 = .slice sa k sc := by
    have ha : ∀ a : Addr, a.add 0 = a := fun a => by simp [Addr.add]
    cases sa <;> simp [sliced, ha]
  simp only [Result.andThen_ok, this]
  rfl
theorem exec_drop56 {a : Act} {o : Oper} {x y : Operand} {w : World} {sa : Option Addr} {n sc k : Nat} (ho : o.op = .slice 56 x (some y) none none) (hx : a.eval x = .slice sa n sc) (hy : a.eval y = .int .i64 (k : Nat)) (hk : k ≤ n) :
    (execOp a.eval o).run Try.prog w = .ok (.value (.slice (tailA sa sc k 3) (n - k) (sc - k))) w := by
  have he : Try.prog.elem 56 = 61 := by kernel_rfl
  have hz : (sizeOf 61).run Try.prog w = .ok 3 w := by
    obtain ⟨i0, hi0, -, hz1, -⟩ := info_parts Try.info61
    simp [sizeOf, typeInfo, hi0, hz1]
  have ht : Try.prog.underlying 56 = some (.slice (Try.prog.elem 56)) := by rw [he]; exact Try.underlying56
  have h1 := run_slice_l (P := Try.prog) w 56 sa n sc ht .i64 (k : Int) (by omega) (by omega)
  have h2 := run_sliceAt_slice (P := Try.prog) w 56 (.slice sa n sc) (some (.int .i64 (k : Int))) none none ht
  rw [he, hz] at h1
  unfold execOp
  simp only [ho, hx, hy, Option.map_none, Option.map_some]
  rw [Sem.run_bind, h2, h1]
  have : sliced sa (k : Int).toNat n sc 3 = .slice (tailA sa sc k 3) (n - k) (sc - k) := by
    simp [sliced, tailA]
  simp only [Result.andThen_ok, this]
  rfl

/-- Behind the three appends. -/
theorem OwnP.done {g g0 : G} {w0 w wr : World} {v : Value} {l : List Val} {rs : List VRow} (h : OwnP wr.heap.size g w v l rs) (hg : Grow g wr g w) (h0 : Grow g0 w0 g wr) (hl : 0 < l.length) : ∃ g2 a cap, v = .slice a l.length cap ∧ Grow g0 w0 g2 w ∧ g.Le g2 ∧ ValsV g2 a l.length cap l := by
  have ho : OwnV wr.heap.size g w v l rs := ⟨h.own, h.rows.1, h.rows.2, fun k hk => h0.fut.none_of_size (h.own.lt k hk).1, fun e => by rw [e] at hl; simp at hl⟩
  obtain ⟨g', a, cap, he, hg', hle, hv, -⟩ := ho.keep hg (Nat.le_refl _) 0 0
  exact ⟨g', a, cap, he, h0.trans hg', hle, hv⟩
end Go.Proofs.Ytjodmimnbpgfcaa
