/- lang.Says, walked. A library text: no claim is stated here. The plain law of EveryTexts. A library text: no claim is stated here. The reference's sorted list is the list of all ways. Plain Lean, no program. A library text: no claim is stated here. -/
import Derived.Test.YtjodmimnbpgfcaaS41
import Derived.Test.YtjodmimnbpgfcaaS18
import Derived.Test.YtjodmimnbpgfcaaS20
import Derived.Test.YtjodmimnbpgfcaaS32
import Derived.Test.YtjodmimnbpgfcaaS33

/- Says -/
namespace Go.Proofs.Ytjodmimnbpgfcaa
open Go.RowKit Go.IntWalk

def langSaysF (c : Core) (s : List UInt8) : Bool := GoodF c && decide (s.length ≤ 256) && endsF s c.re 0 s.length

set_option maxRecDepth 100000 in
set_option maxHeartbeats 2000000 in
theorem langSays_any {g : G} {r : CRow} {c : Core} (h : CoreV g r c) {s : List UInt8} {sa : Option Addr} {sc : Nat} (hsl : SliceV g sa s.length sc (s.map byteV)) (hwf : GoodF c = true → wfC c = true ∧ nodes c ≤ 100000) (w : World) (hw : Fut g w) :
    Calls Try.prog 11 #[r.val, .slice sa s.length sc] w fun e w' => e = .returned (.bool (langSaysF c s)) ∧ Grow g w g w' := by
  obtain ⟨g1, hg1, c0, c1, c2, c3, c4, c5, c6⟩ := box_core hw r
  have hgood := Good_any (h.le hg1.le) _ hg1.fut
  have HG := hid hg1
  have HH := hid (h.le hg1.le)
  have HSL := hid (hsl.le hg1.le)
  have hf1 := hg1.fut
  clear hg1 h hsl
  unfold CRow.val at *
  unfold langSaysF
  cases hgo : GoodF c with
  | false =>
    rw [hgo] at hgood
    clear hgo
    go_enter Try.func11, Try.ntmps11
    go_wp2_with (first | (go_at_call 9; refine hgood.mono ?_; rintro e w2 ⟨rfl, hg2⟩; have HG2 := hid hg2; clear hg2 hgood) | fail)
    go_ret
    exact ⟨rfl, (HG.out.trans HG2.out).forget⟩
  | true =>
    rw [hgo] at hgood
    obtain ⟨hw1, hw2⟩ := hwf hgo
    clear hgo
    by_cases h1 : s.length ≤ 256
    · have d1 : decide ((s.length : Int) ≤ 256) = true := by simp; omega
      have hnew := fun w' hf' => new_any HH.out HSL.out h1 hw1 w' hf' hw2
      unfold CRow.val at hnew
      have HNEW := hid hnew
      clear hnew
      go_enter Try.func11, Try.ntmps11
      go_wp2_with (first | (go_at_call 9; refine hgood.mono ?_; rintro e w2 ⟨rfl, hg2⟩; have HG2 := hid hg2; have hf2 := hg2.fut; clear hg2 hgood) | (go_at_call 32; refine (HNEW.out _ hf2).mono ?_; rintro e w3 ⟨g3, T, M1, rfl, hg3, hTc, hTs, htp, htm, hM1⟩; have HG3 := hid hg3; subst hTc; subst hTs; have HTP := hid htp; have HTM := hid htm; have HM1 := hid hM1; have hf3 := hg3.fut; clear hg3 htp htm hM1) | (go_at_call 33; have hsay := says_any (x := T.c) (i := 0) (f := 0) (t := T.s.length) (by cases T.c; rfl) (Nat.zero_le _) (by omega) HTP.out _ hf3 HTM.out; refine Calls.mono (P := Try.prog) (by simpa using hsay) ?_; rintro e w4 ⟨rfl, g4, M4, hst4, htm4⟩; have HST4 := hid hst4; clear hst4 htm4 hsay) | fail)
      go_ret
      refine ⟨ret_bool (by simp [h1]), ?_⟩
      have hg3 := (HG.out.trans HG2.out).trans HG3.out
      have hst : Step (fun _ => False) g w g4 w4 := (hg3.step fun _ => False).trans HST4.out.step (fun b hb => .inr (by have h1 := HM1.out b hb; have h2 := (HG.out.trans HG2.out).size; omega))
      exact hst.grow.forget
    · have d1 : decide ((s.length : Int) ≤ 256) = false := by simp; omega
      go_enter Try.func11, Try.ntmps11
      go_wp2_with (first | (go_at_call 9; refine hgood.mono ?_; rintro e w2 ⟨rfl, hg2⟩; have HG2 := hid hg2; clear hg2 hgood) | fail)
      go_ret
      exact ⟨ret_bool (by simp [h1]), (HG.out.trans HG2.out).forget⟩
end Go.Proofs.Ytjodmimnbpgfcaa

/- TLaw -/
namespace Go.Proofs.Ytjodmimnbpgfcaa
open Go.RowKit Go.IntWalk

mutual
theorem sizeF_nodes : ∀ (c : Core), sizeF c < 100000 → sizeF c = (nodes c : Nat)
  | .mk k s n l, h => by
    simp only [sizeF] at h ⊢
    have h2 := sizeL_nodes l 1 (by omega) (by omega)
    simp only [nodes]
    omega
theorem sizeL_nodes : ∀ (l : List Core) (n : Int), 1 ≤ n → sizeL l n < 100000 → sizeL l n = n + (nodesL l : Nat)
  | [], n, _, _ => by simp [sizeL, nodesL]
  | x :: r, n, h1, h => by
    rw [sizeL] at h ⊢
    by_cases hn : n ≥ 100000
    · rw [if_pos hn] at h; omega
    · rw [if_neg hn] at h ⊢
      have hb := sizeF_bd x
      have hm : ∀ (l : List Core) (n : Int), n ≤ sizeL l n := by
        intro l
        induction l with
        | nil => intro n; simp [sizeL]
        | cons y r ih =>
          intro n
          rw [sizeL]
          split
          · omega
          · have := ih (n + sizeF y)
            have := sizeF_bd y
            omega
      have h3 := hm r (n + sizeF x)
      have h4 := sizeF_nodes x (by omega)
      rw [sizeL_nodes r (n + sizeF x) (by omega) h]
      simp only [nodesL]
      omega
end

theorem good_nodes {c : Core} (h : GoodF c = true) : wfC c = true ∧ nodes c ≤ 2000 := by
  unfold GoodF at h
  simp only [Bool.and_eq_true, decide_eq_true_eq] at h
  have := sizeF_nodes c (by omega)
  exact ⟨wf_of_good c _ h.2, by omega⟩

theorem core_ok {g : G} {r : CRow} {c : Core} (h : CoreV g r c) : GoodF c = true → wfC c = true ∧ nodes c ≤ 50000 ∧ WfW (addR c.re 0 [nd0]).2 ∧ (addR c.re 0 [nd0]).1 < (addR c.re 0 [nd0]).2.length := fun hg => by
  obtain ⟨h1, h2⟩ := good_nodes hg
  have hw := web_wf (reWf_of _ c (Nat.le_refl _) h1 h.sets)
  exact ⟨h1, by omega, hw.1, hw.2⟩

theorem bl_irr : ∀ (u : List UInt8), Op.bytesLess u u = false
  | [] => rfl
  | a :: u => by simp [Op.bytesLess, bl_irr u]
theorem bl_asym : ∀ (u v : List UInt8), Op.bytesLess u v = true → Op.bytesLess v u = false
  | [], [], h => by simp [Op.bytesLess] at h
  | [], _ :: _, _ => rfl
  | _ :: _, [], h => by simp [Op.bytesLess] at h
  | a :: u, b :: v, h => by
    simp only [Op.bytesLess, Bool.or_eq_true, Bool.and_eq_true, decide_eq_true_eq, beq_iff_eq] at h
    simp only [Op.bytesLess, Bool.or_eq_false_iff, Bool.and_eq_false_iff, decide_eq_false_iff_not, beq_eq_false_iff_ne]
    rcases h with h | ⟨rfl, h⟩
    · have h1 : ¬ b < a := fun h2 => by
        rw [UInt8.lt_iff_toNat_lt] at h h2
        omega
      refine ⟨h1, .inl ?_⟩
      intro e; subst e
      rw [UInt8.lt_iff_toNat_lt] at h
      omega
    · exact ⟨by rw [UInt8.lt_iff_toNat_lt]; omega, .inr (bl_asym u v h)⟩
theorem bl_leq {u v : List UInt8} (h : Op.bytesLess u v = true) : (Op.bytesLess v u || v == u) = false := by
  rw [bl_asym u v h, Bool.false_or, beq_eq_false_iff_ne]
  intro e; subst e
  rw [bl_irr] at h; cases h

/-- Shorter, or as long and less. -/
def Before (u v : List UInt8) : Prop := u.length < v.length ∨ (u.length = v.length ∧ Op.bytesLess u v = true)

theorem words_less {S : List UInt8} (hS : S.Pairwise (· < ·)) : ∀ k, (allWords S k).Pairwise fun u v => Op.bytesLess u v = true
  | 0 => by simp [allWords]
  | k + 1 => by
    rw [allWords, List.pairwise_flatMap]
    refine ⟨fun b _ => ?_, hS.imp fun {a b} hab x hx y hy => ?_⟩
    · rw [List.pairwise_map]
      exact (words_less hS k).imp fun {u v} h => by simp [Op.bytesLess, h]
    · obtain ⟨u, -, rfl⟩ := List.mem_map.1 hx
      obtain ⟨v, -, rfl⟩ := List.mem_map.1 hy
      simp [Op.bytesLess, hab]

theorem textsL_sorted (c : Core) {S : List UInt8} (hS : S.Pairwise (· < ·)) (n : Nat) : (textsL c S n).Pairwise Before := by
  unfold textsL
  rw [List.pairwise_flatMap]
  have hlen : ∀ k u, u ∈ (allWords S k).filter (AtB (addR c.re 0 [nd0]).2 [(addR c.re 0 [nd0]).1]) → u.length = k := fun k u hu => ((allWords_mem S k u).1 (List.mem_filter.1 hu).1).1
  refine ⟨fun k _ => ?_, List.pairwise_lt_range.imp fun {a b} hab x hx y hy => ?_⟩
  · exact ((words_less hS k).filter (AtB (addR c.re 0 [nd0]).2 [(addR c.re 0 [nd0]).1])).imp_of_mem fun {a b} ha hb hab => .inr ⟨by rw [hlen k a ha, hlen k b hb], hab⟩
  · exact .inl (by rw [hlen a x hx, hlen b y hy]; exact hab)

theorem textsL_mem (c : Core) (S : List UInt8) (n : Nat) (u : List UInt8) : u ∈ textsL c S n ↔ u.length ≤ n ∧ (∀ b ∈ u, b ∈ S) ∧ Mt c.re u := by
  unfold textsL
  rw [List.mem_flatMap]
  constructor
  · rintro ⟨k, hk, hu⟩
    obtain ⟨h1, h2⟩ := List.mem_filter.1 hu
    obtain ⟨h3, h4⟩ := (allWords_mem S k u).1 h1
    obtain ⟨i, hi, hr⟩ := atB_iff.1 h2
    simp at hi hk
    subst hi
    exact ⟨by omega, h4, (web_says c.re u).1 hr⟩
  · rintro ⟨h1, h2, h3⟩
    refine ⟨u.length, by simp; omega, List.mem_filter.2 ⟨(allWords_mem S u.length u).2 ⟨rfl, h2⟩, atB_iff.2 ⟨_, by simp, (web_says c.re u).2 h3⟩⟩⟩

theorem textsL_few (c : Core) {n : Nat} (hn : n ≤ 4) : (textsL c [97, 98, 99] n).length ≤ 121 := by
  unfold textsL
  have hk : ∀ k, ((allWords [97, 98, 99] k).filter (AtB (addR c.re 0 [nd0]).2 [(addR c.re 0 [nd0]).1])).length ≤ (allWords [97, 98, 99] k).length := fun k => List.length_filter_le _ _
  have k0 := hk 0
  have k1 := hk 1
  have k2 := hk 2
  have k3 := hk 3
  have k4 := hk 4
  have l0 : (allWords [97, 98, 99] 0).length = 1 := by decide
  have l1 : (allWords [97, 98, 99] 1).length = 3 := by decide
  have l2 : (allWords [97, 98, 99] 2).length = 9 := by decide
  have l3 : (allWords [97, 98, 99] 3).length = 27 := by decide
  have l4 : (allWords [97, 98, 99] 4).length = 81 := by decide
  have hc : n = 0 ∨ n = 1 ∨ n = 2 ∨ n = 3 ∨ n = 4 := by omega
  rcases hc with rfl | rfl | rfl | rfl | rfl <;> simp only [List.range_succ, List.range_zero, List.nil_append, List.cons_append, List.flatMap_cons, List.flatMap_nil, List.append_nil, List.length_append] <;> omega

theorem law_texts {c : Core} (hg : GoodF c = true) {n : Nat} (hn : n ≤ 4) : textsF c [97, 98, 99] (n : Nat) 400 = (textsL c [97, 98, 99] n, 0) := by
  have h := textsL_few c hn
  rw [textsF_yes]
  · rw [Int.toNat_natCast, if_pos (by omega)]
  · have h1 : mayB c 0 400 = true := by simp [mayB, hg]
    have h2 : ([97, 98, 99] : List UInt8).Nodup := by decide
    simp [textsOk, h1]
    omega

theorem law_there {c : Core} (hg : GoodF c = true) {n : Nat} {s : List UInt8} (hs : s.length ≤ 4) : ((textsL c [97, 98, 99] n).any fun u => u == s) = (decide (s.length ≤ n) && (s.all fun b => decide (97 ≤ b) && decide (b ≤ 99)) && langSaysF c s) := by
  rw [Bool.eq_iff_iff, List.any_eq_true]
  have hb : ∀ b : UInt8, b ∈ ([97, 98, 99] : List UInt8) ↔ 97 ≤ b ∧ b ≤ 99 := fun b => by
    rw [UInt8.le_iff_toNat_le, UInt8.le_iff_toNat_le]
    simp only [List.mem_cons, List.not_mem_nil, or_false]
    constructor
    · rintro (rfl | rfl | rfl) <;> decide
    · rintro ⟨h1, h2⟩
      have h3 : b.toNat = 97 ∨ b.toNat = 98 ∨ b.toNat = 99 := by
        have e1 : (97 : UInt8).toNat = 97 := rfl
        have e2 : (99 : UInt8).toNat = 99 := rfl
        omega
      rcases h3 with h | h | h
      · exact .inl (UInt8.toNat_inj.1 h)
      · exact .inr (.inl (UInt8.toNat_inj.1 h))
      · exact .inr (.inr (UInt8.toNat_inj.1 h))
  constructor
  · rintro ⟨u, hu, he⟩
    simp at he
    subst he
    obtain ⟨h1, h2, h3⟩ := (textsL_mem c _ n u).1 hu
    simp only [Bool.and_eq_true, decide_eq_true_eq, List.all_eq_true, langSaysF]
    exact ⟨⟨h1, fun b hbm => (hb b).1 (h2 b hbm)⟩, ⟨hg, by omega⟩, (says_iff u c.re).2 h3⟩
  · intro h
    simp only [Bool.and_eq_true, decide_eq_true_eq, List.all_eq_true, langSaysF] at h
    exact ⟨s, (textsL_mem c _ n s).2 ⟨h.1.1, fun b hbm => (hb b).2 (h.1.2 b hbm), (says_iff s c.re).1 h.2.2⟩, by simp⟩
end Go.Proofs.Ytjodmimnbpgfcaa

/- PlC -/
namespace Go.Proofs.Ytjodmimnbpgfcaa

def ltV (x y : Val) : Prop := LexS (bitsV x) (bitsV y)

theorem bl_lex {x y : List UInt8} (h : LexS x y) : Op.bytesLess x y = true := by
  obtain ⟨p, q, r, rfl, rfl⟩ := h
  induction p with
  | nil => simp [Op.bytesLess]
  | cons a p ih => simp [Op.bytesLess, ih]
theorem LexS.trans {x y z : List UInt8} (h : LexS x y) (k : LexS y z) : LexS x z := by
  obtain ⟨p, q, r, rfl, rfl⟩ := h
  obtain ⟨p', q', r', h1, rfl⟩ := k
  induction p generalizing p' with
  | nil =>
    cases p' with
    | nil => simp at h1
    | cons a p' =>
      simp only [List.nil_append, List.cons_append, List.cons.injEq] at h1
      obtain ⟨rfl, -⟩ := h1
      exact ⟨[], q, p' ++ 49 :: r', rfl, rfl⟩
  | cons a p ih =>
    cases p' with
    | nil =>
      simp only [List.nil_append, List.cons_append, List.cons.injEq] at h1
      obtain ⟨rfl, -⟩ := h1
      exact ⟨[], p ++ 48 :: q, r', rfl, rfl⟩
    | cons b p' =>
      simp only [List.cons_append, List.cons.injEq] at h1
      obtain ⟨rfl, h1⟩ := h1
      have := (ih p' h1).pre [a]
      simpa using this
theorem ltV_asym {x y : Val} (h : ltV x y) (k : ltV y x) : False := by
  have := bl_asym _ _ (bl_lex h)
  rw [bl_lex k] at this
  cases this
theorem ltV_irr {x : Val} (h : ltV x x) : False := ltV_asym h h
theorem eager_lt {x y : Val} (h : ltV x y) : eagerF x y = -1 := by
  unfold eagerF
  rw [if_pos (bl_lex h)]
theorem eager_gt {x y : Val} (h : ltV x y) : eagerF y x = 1 := by
  unfold eagerF
  rw [if_neg (by rw [bl_asym _ _ (bl_lex h)]; decide), if_neg]
  intro e
  have e := eq_of_beq e
  have := bl_lex h
  rw [e, bl_irr] at this
  cases this

theorem total_of {l : List Val} (h : l.Pairwise ltV) : ∀ x ∈ l, ∀ y ∈ l, x ≠ y → ltV x y ∨ ltV y x := by
  induction l with
  | nil => intro x hx; simp at hx
  | cons a r ih =>
    rw [List.pairwise_cons] at h
    intro x hx y hy hne
    rcases List.mem_cons.1 hx with ex | hx'
    · rcases List.mem_cons.1 hy with ey | hy'
      · exact absurd (ex.trans ey.symm) hne
      · rw [ex]; exact .inl (h.1 y hy')
    · rcases List.mem_cons.1 hy with ey | hy'
      · rw [ey]; exact .inr (h.1 x hx')
      · exact ih h.2 x hx' y hy' hne
theorem sorted_unique : ∀ (l l' : List Val), l.Pairwise ltV → l'.Pairwise ltV → (∀ v, v ∈ l ↔ v ∈ l') → l = l'
  | [], [], _, _, _ => rfl
  | [], y :: r', _, _, h => absurd ((h y).2 (by simp)) (by simp)
  | x :: r, [], _, _, h => absurd ((h x).1 (by simp)) (by simp)
  | x :: r, y :: r', h1, h2, h => by
    rw [List.pairwise_cons] at h1 h2
    have hxy : x = y := by
      rcases List.mem_cons.1 ((h x).1 (by simp)) with e | hx
      · exact e
      · rcases List.mem_cons.1 ((h y).2 (by simp)) with e | hy
        · exact e.symm
        · exact (ltV_asym (h1.1 y hy) (h2.1 x hx)).elim
    subst hxy
    rw [sorted_unique r r' h1.2 h2.2 fun v => ?_]
    constructor
    · intro hv
      rcases List.mem_cons.1 ((h v).1 (List.mem_cons_of_mem _ hv)) with rfl | hv'
      · exact (ltV_irr (h1.1 v hv)).elim
      · exact hv'
    · intro hv
      rcases List.mem_cons.1 ((h v).2 (List.mem_cons_of_mem _ hv)) with rfl | hv'
      · exact (ltV_irr (h2.1 v hv)).elim
      · exact hv'

theorem pos_spec (R : List Val) (x : Val) : ∀ k, k ≤ R.length → (∀ i, posR R x k ≤ i → i < k → ∀ y, R[i]? = some y → eagerF y x > 0) ∧ (0 < posR R x k → ∃ y, R[posR R x k - 1]? = some y ∧ ¬ eagerF y x > 0)
  | 0, _ => ⟨fun i _ h => absurd h (Nat.not_lt_zero _), fun h => absurd h (by simp [posR])⟩
  | k + 1, hk => by
    have hy : R[k]? = some R[k] := List.getElem?_eq_getElem (by omega)
    have hp : posR R x (k + 1) = if eagerF R[k] x > 0 then posR R x k else k + 1 := by rw [posR, hy]
    by_cases h : eagerF R[k] x > 0
    · rw [if_pos h] at hp
      rw [hp]
      obtain ⟨h1, h2⟩ := pos_spec R x k (by omega)
      refine ⟨fun i h3 h4 y hyi => ?_, h2⟩
      by_cases e : i = k
      · subst e
        rw [hy] at hyi
        cases hyi
        exact h
      · exact h1 i h3 (by omega) y hyi
    · rw [if_neg h] at hp
      rw [hp]
      exact ⟨fun i h3 h4 => by omega, fun _ => ⟨R[k], by simp, h⟩⟩

theorem ins_sorted {R : List Val} {x : Val} (hR : R.Pairwise ltV) (hx : ∀ y ∈ R, ltV y x ∨ ltV x y) : (insR R x).Pairwise ltV := by
  have hle := posR_le R x R.length
  obtain ⟨h1, h2⟩ := pos_spec R x R.length (Nat.le_refl _)
  unfold insR
  generalize posR R x R.length = p at hle h1 h2
  have hsplit : (R.take p ++ R.drop p).Pairwise ltV := by rw [List.take_append_drop]; exact hR
  rw [List.pairwise_append] at hsplit
  obtain ⟨ht, hd, htd⟩ := hsplit
  have hb : ∀ z ∈ R.drop p, ltV x z := by
    intro z hz
    obtain ⟨i, hi, rfl⟩ := List.mem_iff_getElem.1 hz
    rw [List.length_drop] at hi
    have hg : R[p + i]? = some (R.drop p)[i] := by
      rw [← List.getElem?_drop]
      exact List.getElem?_eq_getElem _
    have h3 := h1 (p + i) (by omega) (by omega) _ hg
    rcases hx _ (List.mem_of_mem_drop hz) with h4 | h4
    · rw [eager_lt h4] at h3; omega
    · exact h4
  have ha : ∀ y ∈ R.take p, ltV y x := by
    intro y hy
    obtain ⟨i, hi, rfl⟩ := List.mem_iff_getElem.1 hy
    rw [List.length_take] at hi
    obtain ⟨z, hz, hne⟩ := h2 (by omega)
    have hzm : z ∈ R := List.mem_of_getElem? hz
    have hzx : ltV z x := by
      rcases hx z hzm with h4 | h4
      · exact h4
      · rw [eager_gt h4] at hne; omega
    have hyi : (R.take p)[i] = R[i] := List.getElem_take
    rw [hyi]
    by_cases e : i = p - 1
    · subst e
      have : R[p - 1]? = some R[p - 1] := List.getElem?_eq_getElem (by omega)
      rw [this] at hz
      rw [Option.some.inj hz]
      exact hzx
    · have hpz : R[p - 1] = z := by
        have : R[p - 1]? = some R[p - 1] := List.getElem?_eq_getElem (by omega)
        rw [this] at hz
        exact Option.some.inj hz
      have h6 := List.pairwise_iff_getElem.1 hR i (p - 1) (by omega) (by omega) (by omega)
      rw [hpz] at h6
      exact LexS.trans h6 hzx
  rw [List.pairwise_append, List.pairwise_append]
  refine ⟨⟨ht, by simp, fun y hy z hz => ?_⟩, hd, fun y hy z hz => ?_⟩
  · rw [List.mem_singleton.1 hz]; exact ha y hy
  · rw [List.mem_append, List.mem_singleton] at hy
    rcases hy with hy | rfl
    · exact htd y hy z hz
    · exact hb z hz

theorem ins_mem (R : List Val) (x v : Val) : v ∈ insR R x ↔ v ∈ R ∨ v = x := by
  constructor
  · exact insR_mem R x v
  · unfold insR
    rw [List.mem_append, List.mem_append, List.mem_singleton]
    rintro (h | h)
    · rw [← List.take_append_drop (posR R x R.length) R, List.mem_append] at h
      rcases h with h | h
      · exact .inl (.inl h)
      · exact .inr h
    · exact .inl (.inr h)

theorem fold_sorted {V : List Val} (hV : V.Pairwise ltV) : ∀ (L R : List Val), (∀ v ∈ L, v ∈ V) → (∀ v ∈ R, v ∈ V) → L.Nodup → (∀ v ∈ L, v ∉ R) → R.Pairwise ltV → (L.foldl insR R).Pairwise ltV ∧ ∀ v, v ∈ L.foldl insR R ↔ v ∈ R ∨ v ∈ L
  | [], R, _, _, _, _, h => ⟨h, fun v => by simp⟩
  | x :: L, R, h1, h2, h3, h4, h => by
    rw [List.nodup_cons] at h3
    rw [List.foldl_cons]
    have hx : ∀ y ∈ R, ltV y x ∨ ltV x y := fun y hy => total_of hV y (h2 y hy) x (h1 x (by simp)) (fun e => h4 x (by simp) (e ▸ hy))
    obtain ⟨k1, k2⟩ := fold_sorted hV L (insR R x) (fun v hv => h1 v (List.mem_cons_of_mem _ hv)) (fun v hv => by
      rcases (ins_mem R x v).1 hv with h | rfl
      · exact h2 v h
      · exact h1 _ (by simp)) h3.2 (fun v hv hm => by
      rcases (ins_mem R x v).1 hm with h | rfl
      · exact h4 v (List.mem_cons_of_mem _ hv) h
      · exact h3.1 hv) (ins_sorted h hx)
    refine ⟨k1, fun v => ?_⟩
    rw [k2, ins_mem, List.mem_cons]
    constructor
    · rintro ((h | h) | h)
      · exact .inl h
      · exact .inr (.inl h)
      · exact .inr (.inr h)
    · rintro (h | h | h)
      · exact .inl (.inl h)
      · exact .inl (.inr h)
      · exact .inr h

/-- The sorted list of the reference is the list of all ways. -/
theorem sorted_all (r : Re) (u : List UInt8) : (tR r u).foldl insR [] = allW r u := by
  obtain ⟨h1, h2⟩ := fold_sorted (V := allW r u) (allW_sorted r u) (tR r u) [] (fun v hv => (allW_mem r u v).2 ((tR_mem r u v).1 hv)) (fun v hv => by simp at hv) (tR_nodup r u) (fun v _ h => by simp at h) (by simp)
  refine sorted_unique _ _ h1 (allW_sorted r u) fun v => ?_
  rw [h2, allW_mem, tR_mem]
  simp
theorem fold_len : ∀ (L R : List Val), (L.foldl insR R).length = R.length + L.length
  | [], R => rfl
  | x :: L, R => by rw [List.foldl_cons, fold_len L, insR_len, List.length_cons]; omega
theorem all_len (r : Re) (u : List UInt8) : (tR r u).length = (allW r u).length := by
  rw [← sorted_all, fold_len]; simp

/-! ### What every itself yields -/
theorem run_some (most : Int) : ∀ (W : List (Val × Nat)) (l : List Val), (l.length : Int) ≤ most → (runT (someT most) W l).2 = (l ++ W.map Prod.fst).take (most.toNat + 1)
  | [], l, h => by
    rw [runT, List.map_nil, List.append_nil, List.take_of_length_le (by omega)]
  | x :: W, l, h => by
    rw [runT]
    by_cases h1 : (l.length : Int) + 1 ≤ most
    · rw [if_pos (by simpa [someT] using h1)]
      have := run_some most W (l ++ [x.1]) (by simp; omega)
      rw [show (someT most x.1 x.2 l).2 = l ++ [x.1] from rfl, this, List.map_cons, List.append_assoc]
      rfl
    · rw [if_neg (by simpa [someT] using h1)]
      show l ++ [x.1] = _
      have hl : most.toNat = l.length := by omega
      rw [List.map_cons, hl]
      have : (l ++ x.1 :: W.map Prod.fst) = (l ++ [x.1]) ++ W.map Prod.fst := by simp
      rw [this, List.take_left' (by simp)]
theorem some_all (c : Core) (s : List UInt8) (most : Int) (h : 0 ≤ most) : someF c s most = (allW c.re s).take (most.toNat + 1) := by
  unfold someF
  rw [run_some most _ [] (by simpa using h)]
  rfl

/-- All and Count of the program and the reference's All. -/
theorem all_same (c : Core) (s : List UInt8) (most : Int) (hg : GoodF c = formedF c) (hs : s.length ≤ 256) :
    allF c s most = refAll c s most ∧ countF c s most = (if (refAll c s most).2 = 6 then most + 1 else ((refAll c s most).1.length : Int)) := by
  by_cases hbad : formedF c = false ∨ 256 < s.length ∨ most < 0 ∨ 2000 < most
  · have hm : mayB c s.length most = false := by
      unfold mayB
      rw [hg]
      rcases hbad with h | h | h | h
      · simp [h]
      · omega
      · have : ¬ 0 ≤ most := by omega
        simp [this]
      · have : ¬ most ≤ 2000 := by omega
        simp [this]
    have hr : refAll c s most = ([], 1) := by unfold refAll; rw [if_pos hbad]
    rw [hr]
    unfold allF countF
    rw [hm]
    exact ⟨rfl, rfl⟩
  · have h0 : 0 ≤ most := by
      by_cases h : most < 0
      · exact absurd (.inr (.inr (.inl h))) hbad
      · omega
    have h2 : most ≤ 2000 := by
      by_cases h : 2000 < most
      · exact absurd (.inr (.inr (.inr h))) hbad
      · omega
    have hf : formedF c = true := by
      cases h : formedF c with
      | true => rfl
      | false => exact absurd (.inl h) hbad
    have hm : mayB c s.length most = true := by
      unfold mayB
      rw [hg, hf]
      simp [hs, h0, h2]
    have hl := all_len c.re s
    unfold allF countF refAll
    rw [if_neg hbad, hm, if_pos rfl, if_pos rfl, some_all c s most h0, evR_take (by omega) c.re s, List.length_take, List.length_take, hl]
    by_cases hfew : (allW c.re s).length ≤ most.toNat
    · rw [if_neg (by omega), if_pos (by omega), List.take_of_length_le (by omega), List.take_of_length_le (by omega), sorted_all]
      refine ⟨rfl, ?_⟩
      show ((min (most.toNat + 1) (allW c.re s).length : Nat) : Int) = if (0 : Int) = 6 then most + 1 else ((allW c.re s).length : Int)
      rw [if_neg (by decide)]
      omega
    · rw [if_pos (by omega), if_neg (by omega)]
      refine ⟨rfl, ?_⟩
      show ((min (most.toNat + 1) (allW c.re s).length : Nat) : Int) = if (6 : Int) = 6 then most + 1 else _
      rw [if_pos rfl]
      omega
end Go.Proofs.Ytjodmimnbpgfcaa
