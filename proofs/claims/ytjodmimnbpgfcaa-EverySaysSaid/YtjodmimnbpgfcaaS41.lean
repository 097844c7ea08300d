/- may, All, Count, walked. A library text: no claim is stated here. every's Texts: the first loop; what is kept. A library text: no claim is stated here. every's Texts, walked. A library text: no claim is stated here. -/
import Derived.Test.YtjodmimnbpgfcaaS40
import Derived.Test.YtjodmimnbpgfcaaS02
import Derived.Test.YtjodmimnbpgfcaaS35
import Derived.Lib.BytesEntry
import Derived.Lib.IndexAny

/- All -/
namespace Go.Proofs.Ytjodmimnbpgfcaa
open Go.RowKit Go.IntWalk

def mayB (c : Core) (n : Nat) (most : Int) : Bool := GoodF c && decide (n ≤ 256) && decide (0 ≤ most) && decide (most ≤ 2000)

set_option maxHeartbeats 1000000 in
theorem may_any {g : G} {r : CRow} {c : Core} (h : CoreV g r c) (sa : Option Addr) (n sc : Nat) (most : Int) (w : World) (hw : Fut g w) :
    Calls Try.prog 27 #[r.val, .slice sa n sc, .int .i64 most] w fun e w' => e = .returned (.bool (mayB c n most)) ∧ Grow g w g w' := by
  obtain ⟨g1, hg1, c0, c1, c2, c3, c4, c5, c6⟩ := box_core hw r
  have hgood := Good_any (h.le hg1.le) _ hg1.fut
  have HG := hid hg1
  have hf1 := hg1.fut
  clear hg1
  unfold CRow.val at *
  unfold mayB
  cases hgo : GoodF c with
  | false =>
    rw [hgo] at hgood
    clear hgo
    go_enter Try.func27, Try.ntmps27
    go_wp2_with (first | (go_at_call 9; refine hgood.mono ?_; rintro e w2 ⟨rfl, hg2⟩; have HG2 := hid hg2; clear hg2 hgood) | fail)
    go_ret
    exact ⟨rfl, (HG.out.trans HG2.out).forget⟩
  | true =>
    rw [hgo] at hgood
    clear hgo
    by_cases h1 : n ≤ 256
    · by_cases h2 : 0 ≤ most
      · by_cases h3 : most ≤ 2000
        · have d1 : decide ((n : Int) ≤ 256) = true := by simp; omega
          have d2 : decide (0 ≤ most) = true := by simp; omega
          have d3 : decide (most ≤ 2000) = true := by simp; omega
          go_enter Try.func27, Try.ntmps27
          go_wp2_with (first | (go_at_call 9; refine hgood.mono ?_; rintro e w2 ⟨rfl, hg2⟩; have HG2 := hid hg2; clear hg2 hgood) | fail)
          go_ret
          exact ⟨ret_bool (by simp [h1, h2, h3]), (HG.out.trans HG2.out).forget⟩
        · have d1 : decide ((n : Int) ≤ 256) = true := by simp; omega
          have d2 : decide (0 ≤ most) = true := by simp; omega
          have d3 : decide (most ≤ 2000) = false := by simp; omega
          go_enter Try.func27, Try.ntmps27
          go_wp2_with (first | (go_at_call 9; refine hgood.mono ?_; rintro e w2 ⟨rfl, hg2⟩; have HG2 := hid hg2; clear hg2 hgood) | fail)
          go_ret
          exact ⟨ret_bool (by simp [h1, h2, h3]), (HG.out.trans HG2.out).forget⟩
      · have d1 : decide ((n : Int) ≤ 256) = true := by simp; omega
        have d2 : decide (0 ≤ most) = false := by simp; omega
        go_enter Try.func27, Try.ntmps27
        go_wp2_with (first | (go_at_call 9; refine hgood.mono ?_; rintro e w2 ⟨rfl, hg2⟩; have HG2 := hid hg2; clear hg2 hgood) | fail)
        go_ret
        exact ⟨ret_bool (by simp [h1]; omega), (HG.out.trans HG2.out).forget⟩
    · have d1 : decide ((n : Int) ≤ 256) = false := by simp; omega
      go_enter Try.func27, Try.ntmps27
      go_wp2_with (first | (go_at_call 9; refine hgood.mono ?_; rintro e w2 ⟨rfl, hg2⟩; have HG2 := hid hg2; clear hg2 hgood) | fail)
      go_ret
      exact ⟨ret_bool (by simp [h1]), (HG.out.trans HG2.out).forget⟩

/-- What All tells: the values, and how it ended. -/
def allF (c : Core) (s : List UInt8) (most : Int) : List Val × Int :=
  if mayB c s.length most then (if most < ((someF c s most).length : Int) then ([], 6) else (someF c s most, 0)) else ([], 1)
def countF (c : Core) (s : List UInt8) (most : Int) : Int := if mayB c s.length most then ((someF c s most).length : Int) else 0

theorem may_split {c : Core} {n : Nat} {most : Int} (h : mayB c n most = true) : GoodF c = true ∧ n ≤ 256 ∧ 0 ≤ most ∧ most ≤ 2000 := by
  unfold mayB at h
  simp only [Bool.and_eq_true, decide_eq_true_eq] at h
  exact ⟨h.1.1.1, h.1.1.2, h.1.2, h.2⟩

set_option maxHeartbeats 1000000 in
theorem all_any {g : G} {r : CRow} {c : Core} (h : CoreV g r c) {s : List UInt8} {sa : Option Addr} {sc : Nat} (hsl : SliceV g sa s.length sc (s.map byteV)) (hwf : GoodF c = true → wfC c = true ∧ nodes c ≤ 100000) (most : Int) (w : World) (hw : Fut g w) :
    Calls Try.prog 14 #[r.val, .slice sa s.length sc, .int .i64 most] w fun e w' => ∃ g' a cap, e = .returned (.tuple #[.slice a (allF c s most).1.length cap, .int .i64 (allF c s most).2]) ∧ Grow g w g' w' ∧ ValsV g' a (allF c s most).1.length cap (allF c s most).1 := by
  obtain ⟨g1, hg1, c0, c1, c2, c3, c4, c5, c6⟩ := box_core hw r
  have hmay := may_any (h.le hg1.le) sa s.length sc most _ hg1.fut
  have HG := hid hg1
  have hf1 := hg1.fut
  have HH := hid (h.le hg1.le)
  have HSL := hid (hsl.le hg1.le)
  clear hg1 h hsl
  unfold CRow.val at *
  unfold allF
  cases hma : mayB c s.length most with
  | false =>
    rw [hma] at hmay
    clear hma
    simp only [Bool.false_eq_true, if_false]
    go_enter Try.func14, Try.ntmps14
    go_wp2_with (first | (go_at_call 27; refine hmay.mono ?_; rintro e w2 ⟨rfl, hg2⟩; have HG2 := hid hg2; clear hg2 hmay) | fail)
    go_ret2
    exact ⟨g, none, 0, rfl, (HG.out.trans HG2.out).forget, .nil 0 0⟩
  | true =>
    rw [hma] at hmay
    obtain ⟨m1, m2, m3, m4⟩ := may_split hma
    have hw2 := hwf m1
    clear hma
    simp only [if_true]
    have hsome := fun w2 (hf2 : Fut g1 w2) => some_any HH.out HSL.out m2 hw2.1 hw2.2 m3 m4 w2 hf2
    unfold CRow.val at hsome
    have HS := hid hsome
    clear hsome
    by_cases hlt : most < ((someF c s most).length : Int)
    · simp only [hlt, if_true]
      go_enter Try.func14, Try.ntmps14
      go_wp2_with (first | (go_at_call 27; refine hmay.mono ?_; rintro e w2 ⟨rfl, hg2⟩; have HG2 := hid hg2; have hf2 := hg2.fut; clear hg2 hmay) | (go_at_call 35; refine (HS.out _ hf2).mono ?_; rintro e w3 ⟨g3, a, cap, rfl, hg3, hv3⟩; have HG3 := hid hg3; have HV3 := hid hv3; clear hg3 hv3) | fail)
      go_ret2
      exact ⟨g, none, 0, rfl, ((HG.out.trans HG2.out).trans HG3.out).forget, .nil 0 0⟩
    · simp only [hlt, if_false]
      go_enter Try.func14, Try.ntmps14
      go_wp2_with (first | (go_at_call 27; refine hmay.mono ?_; rintro e w2 ⟨rfl, hg2⟩; have HG2 := hid hg2; have hf2 := hg2.fut; clear hg2 hmay) | (go_at_call 35; refine (HS.out _ hf2).mono ?_; rintro e w3 ⟨g3, a, cap, rfl, hg3, hv3⟩; have HG3 := hid hg3; have HV3 := hid hv3; clear hg3 hv3) | fail)
      go_ret2
      exact ⟨g3, a, cap, rfl, (HG.out.trans HG2.out).trans HG3.out, HV3.out⟩

set_option maxHeartbeats 1000000 in
theorem count_any {g : G} {r : CRow} {c : Core} (h : CoreV g r c) {s : List UInt8} {sa : Option Addr} {sc : Nat} (hsl : SliceV g sa s.length sc (s.map byteV)) (hwf : GoodF c = true → wfC c = true ∧ nodes c ≤ 100000) (most : Int) (w : World) (hw : Fut g w) :
    Calls Try.prog 19 #[r.val, .slice sa s.length sc, .int .i64 most] w fun e w' => e = .returned (.int .i64 (countF c s most)) ∧ Grow g w g w' := by
  obtain ⟨g1, hg1, c0, c1, c2, c3, c4, c5, c6⟩ := box_core hw r
  have hmay := may_any (h.le hg1.le) sa s.length sc most _ hg1.fut
  have HG := hid hg1
  have hf1 := hg1.fut
  have HH := hid (h.le hg1.le)
  have HSL := hid (hsl.le hg1.le)
  clear hg1 h hsl
  unfold CRow.val at *
  unfold countF
  cases hma : mayB c s.length most with
  | false =>
    rw [hma] at hmay
    clear hma
    simp only [Bool.false_eq_true, if_false]
    go_enter Try.func19, Try.ntmps19
    go_wp2_with (first | (go_at_call 27; refine hmay.mono ?_; rintro e w2 ⟨rfl, hg2⟩; have HG2 := hid hg2; clear hg2 hmay) | fail)
    go_ret
    exact ⟨rfl, (HG.out.trans HG2.out).forget⟩
  | true =>
    rw [hma] at hmay
    obtain ⟨m1, m2, m3, m4⟩ := may_split hma
    have hw2 := hwf m1
    clear hma
    simp only [if_true]
    have hsome := fun w2 (hf2 : Fut g1 w2) => some_any HH.out HSL.out m2 hw2.1 hw2.2 m3 m4 w2 hf2
    unfold CRow.val at hsome
    have HS := hid hsome
    clear hsome
    go_enter Try.func19, Try.ntmps19
    go_wp2_with (first | (go_at_call 27; refine hmay.mono ?_; rintro e w2 ⟨rfl, hg2⟩; have HG2 := hid hg2; have hf2 := hg2.fut; clear hg2 hmay) | (go_at_call 35; refine (HS.out _ hf2).mono ?_; rintro e w3 ⟨g3, a, cap, rfl, hg3, hv3⟩; have HG3 := hid hg3; have HV3 := hid hv3; clear hg3 hv3) | fail)
    go_ret
    exact ⟨rfl, ((HG.out.trans HG2.out).trans HG3.out).forget⟩
end Go.Proofs.Ytjodmimnbpgfcaa

/- TextsA -/
namespace Go.Proofs.Ytjodmimnbpgfcaa
open Go.RowKit Go.IntWalk

theorem bytesOf_nat (l : List UInt8) : Lib.bytesOf (l.map fun x => ((x.toNat : Nat) : Int)) = l := by
  unfold Lib.bytesOf
  induction l with
  | nil => rfl
  | cons x r ih => simp [ih]

set_option maxRecDepth 100000 in
set_option maxHeartbeats 1000000 in
theorem idxByte_any (b o n c : Nat) (l : List UInt8) (hn : l.length = n) (x : UInt8) (w : World) (hc : ∀ i y, l[i]? = some y → w.cell? ⟨b, o + i, none⟩ = some (byteV y)) :
    Calls Try.prog 26 #[.slice (some ⟨b, o, none⟩) n c, .int .u8 (x.toNat : Nat)] w fun e w' => ∃ r : Int, e = .returned (.int .i64 r) ∧ decide (r ≥ 0) = decide (x ∈ l) ∧ w = w' := by
  have hrun := Lib.run_indexByteSlice (P := Try.prog) w b o n c (l.map fun x => ((x.toNat : Nat) : Int)) (by simpa using hn) (fun i hi => by
    have hi2 : i < l.length := by omega
    rw [hc i _ (List.getElem?_eq_getElem hi2)]
    simp [byteV, List.getD, hi2]) ((x.toNat : Nat) : Int)
  rw [bytesOf_nat] at hrun
  have hx : (((x.toNat : Nat) : Int).toNat.toUInt8) = x := by simp
  rw [hx] at hrun
  have hmem : decide (Lib.indexByte l x ≥ 0) = decide (x ∈ l) := by
    have := Lib.contains_iff_indexByte l x
    rw [Bool.eq_iff_iff] at this ⊢
    simpa [eq_comm] using this.symm
  have HM := hid hmem
  have HR := hid hrun
  clear hmem hrun hc hn
  go_enter Try.func26, Try.ntmps26
  go_wp2
  rw [run_callFunc_extern Try.func46 (by kernel_rfl) (by kernel_rfl) (by kernel_rfl) (e := Extern.BytealgIndexByte.indexByte) (by kernel_rfl), HR.out]
  simp only [Result.andThen]
  rw [Oper.upon_value]
  go_wp2
  go_ret
  exact ⟨_, rfl, HM.out, rfl⟩

def dupTo (S : List UInt8) (q : Nat) : Bool := decide (¬ (S.take q).Nodup)
theorem dupTo_succ {S : List UInt8} {q : Nat} {b : UInt8} (hb : S[q]? = some b) : dupTo S (q + 1) = (dupTo S q || decide (b ∈ S.take q)) := by
  obtain ⟨hq, rfl⟩ := List.getElem?_eq_some_iff.1 hb
  unfold dupTo
  rw [List.take_succ_eq_append_getElem hq, Bool.eq_iff_iff, Bool.or_eq_true, decide_eq_true_eq, decide_eq_true_eq, decide_eq_true_eq, List.nodup_append]
  constructor
  · intro h
    by_cases hn : (S.take q).Nodup
    · right
      apply Classical.byContradiction
      intro hm
      exact h ⟨hn, by simp, fun a ha b hb => by simp at hb; subst hb; intro e; subst e; exact hm ha⟩
    · exact .inl hn
  · rintro (h | h) ⟨h1, h2, h3⟩
    · exact h h1
    · exact h3 _ h _ (by simp) rfl

/-- May so much be asked of texts? -/
def textsOk (c : Core) (S : List UInt8) (n most : Int) : Bool := mayB c 0 most && decide (0 ≤ n) && decide (n ≤ 8) && decide (S.length ≤ 16) && decide S.Nodup

/-- All texts that are said. -/
noncomputable def textsL (c : Core) (S : List UInt8) (n : Nat) : List (List UInt8) := (List.range (n + 1)).flatMap fun k => (allWords S k).filter (AtB (addR c.re 0 [nd0]).2 [(addR c.re 0 [nd0]).1])
noncomputable def textsF (c : Core) (S : List UInt8) (n most : Int) : List (List UInt8) × Int :=
  if textsOk c S n most then (if ((textsL c S n.toNat).length : Int) ≤ most then (textsL c S n.toNat, 0) else ([], 6)) else ([], 1)

/-- What Texts leaves. -/
def TextsP (g : G) (w : World) (r : List (List UInt8) × Int) (e : Ending) (w' : World) : Prop :=
  ∃ g' a cap vals, e = .returned (.tuple #[.slice a r.1.length cap, .int .i64 r.2]) ∧ Grow g w g' w' ∧ SliceV g' a r.1.length cap vals ∧ vals.length = r.1.length ∧
    ∀ (i : Nat) (u : List UInt8) (x : Value), r.1[i]? = some u → vals[i]? = some x → ∃ a c, x = .slice a u.length c ∧ SliceV g' a u.length c (u.map byteV)

theorem textsP_nil {g g1 : G} {w w' : World} (k : Int) (h : Grow g w g1 w') : TextsP g w ([], k) (.returned (.tuple #[.slice none 0 0, .int .i64 k])) w' :=
  ⟨g1, none, 0, [], rfl, h, .nil, rfl, fun i u x hu => by simp at hu⟩

theorem wordsAt_texts {L : List Nd} {S : List UInt8} {k st : Nat} {out : List Nat} (h : ClosedOf L [st] out) : wordsAt L S k out [] = (allWords S k).filter (AtB L [st]) := by
  unfold wordsAt
  simp only [List.nil_append, List.map_id']
  congr 1
  funext u
  rw [Bool.eq_iff_iff, atB_iff, atB_iff]
  constructor
  · rintro ⟨i, hi, hr⟩
    obtain ⟨f, hf, h2⟩ := (h.mem i).1 hi
    exact ⟨f, hf, hr.from_ h2⟩
  · rintro ⟨i, hi, hr⟩
    exact ⟨i, (h.mem i).2 ⟨i, hi, .refl i⟩, hr⟩

/-- The texts become persistent. -/
theorem OS.fin {g0 g : G} {w0 w : World} {ob : Nat} {ws : List (List UInt8)} {va : Option Addr} {vc : Nat} {vals : List Value} (hg : Grow g0 w0 g w) (h : OS g ob ws w (.slice va ws.length vc) vals) (hv : ∀ k, (Value.slice va ws.length vc).ownBlock = some k → w0.heap.size ≤ k) : TextsP g0 w0 (ws, 0) (.returned (.tuple #[.slice va ws.length vc, .int .i64 0])) w := by
  obtain ⟨g', h1, h2, h3, -⟩ := sl_keep (hg.step fun _ => False) h.own (fun k hk => ⟨hv k hk, h.gv k hk⟩)
  exact ⟨g', va, vc, vals, rfl, h1.grow, h3, h.rl, fun i u x a b => by obtain ⟨c, d, e, f⟩ := h.rows i u x a b; exact ⟨c, d, e, f.le h2⟩⟩
end Go.Proofs.Ytjodmimnbpgfcaa

/- Texts -/
namespace Go.Proofs.Ytjodmimnbpgfcaa
open Go.RowKit Go.IntWalk

theorem textsF_no {c : Core} {S : List UInt8} {n most : Int} (h : textsOk c S n most = false) : textsF c S n most = ([], 1) := by
  unfold textsF
  rw [h]
  rfl
theorem textsF_yes {c : Core} {S : List UInt8} {n most : Int} (h : textsOk c S n most = true) : textsF c S n most = if ((textsL c S n.toNat).length : Int) ≤ most then (textsL c S n.toNat, 0) else ([], 6) := by
  unfold textsF
  rw [h, if_pos rfl]
theorem texts_step {g g6 g7 : G} {w w6 w7 : World} {ob : Nat} {v4 v7 : Value} {ws : List (List UInt8)} {vals : List Value} (hG : Grow g w g6 w6) (hob : w.heap.size ≤ ob) (hv : ∀ x, v4.ownBlock = some x → w.heap.size ≤ x) (h : WSt g6 w6 ob v4 (.slice none 0 0) [] ws g7 w7 v7 vals) :
    Grow g w g7 w7 ∧ ∀ x, v7.ownBlock = some x → w.heap.size ≤ x := by
  refine ⟨((hG.step fun _ => False).trans h.step (fun b hb => .inr ?_)).grow, fun x hx => ?_⟩
  · rcases hb with rfl | hb | hb
    · exact hob
    · exact hv b hb
    · simp [Value.ownBlock] at hb
  · rcases h.sub x hx with h1 | h1
    · exact hv x h1
    · exact Nat.le_trans hG.size h1
theorem hs_nil {g : G} {w : World} {ob : Nat} {v : Value} : HS g ob w v (.slice none 0 0) [] :=
  ⟨World.ownsRow_nil _ _ _ _, by simp [Value.ownBlock], fun k hk => by simp [Value.ownBlock] at hk⟩
theorem os_start {g : G} {w : World} (hf : Fut g w) : OS g w.heap.size [] (w.alloc (.cells #[.slice none 0 0] 33)) (.slice none 0 0) [] :=
  ⟨hf.alloc _, heap_alloc_new _ _, World.ownsRow_nil _ _ _ _, rfl, fun i u x hu => by simp at hu, by simp [Value.ownBlock], hf.none_of_size (Nat.le_refl _), fun k hk => by simp [Value.ownBlock] at hk, fun _ => rfl⟩

theorem texts_over {most : Int} (hm : 0 ≤ most) {k N : Nat} (hk : k < N + 1) {F : Nat → List (List UInt8)} (h : (runW most ((List.range (k + 1)).flatMap F) []).1 = false) : ¬ (((List.range (N + 1)).flatMap F).length : Int) ≤ most := by
  have h1 := runW_all most ((List.range (k + 1)).flatMap F) [] (by simpa using hm)
  have h2 : ¬ (((List.range (k + 1)).flatMap F).length : Int) ≤ most := fun hle => by
    rw [h1.1 (by simpa using hle)] at h
    cases h
  have h3 : ((List.range (k + 1)).flatMap F).length ≤ ((List.range (N + 1)).flatMap F).length := by
    have e : List.range (N + 1) = List.range (k + 1) ++ (List.range (N - k)).map (k + 1 + ·) := by
      rw [← List.range_add]
      congr 1
      omega
    rw [e, List.flatMap_append, List.length_append]
    omega
  omega
theorem texts_all {most : Int} (hm : 0 ≤ most) {T ws : List (List UInt8)} (h : runW most T [] = (true, ws)) : T = ws ∧ (T.length : Int) ≤ most := by
  have h1 := runW_all most T [] (by simpa using hm)
  have h2 : (T.length : Int) ≤ most := by
    apply Classical.byContradiction
    intro hn
    have := h1.2 (by simp; omega)
    rw [h] at this
    cases this
  have h3 := h1.1 (by simpa using h2)
  rw [h] at h3
  simp at h3
  exact ⟨h3.symm, h2⟩

set_option maxRecDepth 100000 in
set_option maxHeartbeats 8000000 in
theorem texts_any {g : G} {r : CRow} {c : Core} (h : CoreV g r c) {S : List UInt8} {sa : Option Addr} {sc : Nat} (hs : SliceV g sa S.length sc (S.map byteV)) (hS : S.length ≤ 1000) (hwf : GoodF c = true → wfC c = true ∧ nodes c ≤ 50000 ∧ WfW (addR c.re 0 [nd0]).2 ∧ (addR c.re 0 [nd0]).1 < (addR c.re 0 [nd0]).2.length) (n most : Int) (hn : i64 n) (w : World) (hw : Fut g w) :
    Calls Try.prog 10 #[r.val, .slice sa S.length sc, .int .i64 n, .int .i64 most] w (TextsP g w (textsF c S n most)) := by
  obtain ⟨g1, hg1, c0, c1, c2, c3, c4, c5, c6⟩ := box_core hw r
  obtain ⟨g2, hg2, e2⟩ := box1 hg1.fut (.cells #[.int .i64 most] 3)
  rw [World.size_alloc] at e2
  have m0 := fut_cell e2 0 _ rfl
  have hl1 : ∀ w', Fut g2 w' → Fut g1 w' := fun w' h => h.le hg2.le
  have hcv := h.le (hg1.le.trans hg2.le)
  have hmay := fun w' (hf : Fut g2 w') => may_any hcv none 0 0 most w' hf
  have HSL := hid (hs.le (hg1.le.trans hg2.le))
  have HG := hid (hg1.trans hg2)
  have HCV := hid hcv
  have HMB := hid e2
  have hf2 := hg2.fut
  unfold CRow.val at *
  generalize hW : ((w.alloc (.cells #[.int .i64 r.k, .int .u64 r.s.a, .int .u64 r.s.b, .int .u64 r.s.c, .int .u64 r.s.d, .int .i64 r.n, .slice r.a r.len r.cap] 27)).alloc (.cells #[.int .i64 most] 3)) = W at HG hf2
  have hsl := hs.length
  rw [List.length_map] at hsl
  have hsc : (S.length : Int) ≤ (sc : Int) := by omega
  have HMAY := hid hmay
  clear hg1 hg2 h hs hcv hmay e2 hsl
  go_enter Try.func10, Try.ntmps10
  go_wp2_with fail
  go_loopg [10, 18] S.length (fun rem tv i wr => ∃ q, q + rem = S.length ∧ i = .int .i64 (q : Nat) ∧ tv = .bool (dupTo S q) ∧ Hid (Grow g w g2 wr))
  case atStart => exact ⟨0, by omega, rfl, by simp [dupTo], HG⟩
  case round =>
    obtain ⟨q, hq, rfl, rfl, HGr⟩ := hrel
    have hfr := HGr.out.fut
    by_cases hlt : q < S.length
    · obtain ⟨bb, hbb⟩ : ∃ bb, S[q]? = some bb := ⟨_, List.getElem?_eq_getElem hlt⟩
      obtain ⟨sb, so, hsa, hso⟩ := HSL.out.get (i := q) (by simpa using hlt)
      subst hsa
      have hcell := hso q (.int .u8 (bb.toNat : Nat)) (by simp [byteV, hbb])
      have hqs : (q : Int) < (S.length : Int) := by omega
      have hqc : (q : Int) ≤ (sc : Int) := by omega
      have hidx := idxByte_any sb so q sc (S.take q) (by rw [List.length_take]; omega) bb wr (fun i y hi => hso i (byteV y) (by
        rw [List.getElem?_take] at hi
        split at hi
        · simp [hi]
        · cases hi) wr hfr)
      have hdup := dupTo_succ hbb
      have HD := hid hdup
      have HIDX := hid hidx
      have HQ := hid hq
      clear hso hbb hdup hidx
      cases hd : dupTo S q with
      | true =>
        have HDD := hid hd
        clear hd
        go_wp2_with fail
        go_roundg (S.length - (q + 1))
        case measure => have h2 := HQ.out; omega
        case rel => exact ⟨q + 1, by omega, by go_num, by rw [HD.out, HDD.out]; rfl, HGr⟩
      | false =>
        have HDD := hid hd
        clear hd
        go_wp2_with (first | (go_at_call 26; refine HIDX.out.mono ?_; rintro e w5 ⟨x, rfl, hx, rfl⟩; have HX := hid hx; clear hx) | fail)
        go_roundg (S.length - (q + 1))
        case measure => have h2 := HQ.out; omega
        case rel => exact ⟨q + 1, by omega, by go_num, by rw [HD.out, HDD.out, ← HX.out]; simp, HGr⟩
    · have hql : q = S.length := by omega
      subst hql
      have hdt : dupTo S S.length = decide (¬ S.Nodup) := by unfold dupTo; rw [List.take_length]
      rw [hdt]
      have hmr := HMAY.out wr hfr
      clear hdt hq hlt HMAY
      cases hma : mayB c 0 most with
      | false =>
        rw [hma] at hmr
        have HM := hid hmr
        have HNO := hid (textsF_no (c := c) (S := S) (n := n) (most := most) (by simp [textsOk, hma]))
        clear hma hmr
        go_wp2_with (first | (go_at_call 27; refine HM.out.mono ?_; rintro e w5 ⟨rfl, hg5⟩; have HG5 := hid hg5; clear hg5) | fail)
        go_ret2
        rw [HNO.out]
        exact textsP_nil 1 (HGr.out.trans HG5.out)
      | true =>
        rw [hma] at hmr
        obtain ⟨a1, a2, a3, a4⟩ := may_split hma
        obtain ⟨b1, b2, b3, b4⟩ := hwf a1
        have HM := hid hmr
        clear hmr hwf a1 a2
        by_cases hn0 : 0 ≤ n
        · by_cases hn8 : n ≤ 8
          · by_cases hS16 : S.length ≤ 16
            · by_cases hnd : S.Nodup
              · have hdd : decide (¬ S.Nodup) = false := by simp [hnd]
                have HYES := hid (textsF_yes (c := c) (S := S) (n := n) (most := most) (by simp [textsOk, hma, hn0, hn8, hS16, hnd]))
                rw [hdd]
                clear hdd
                obtain ⟨N, rfl⟩ : ∃ N : Nat, n = N := ⟨n.toNat, by omega⟩
                have hN : N ≤ 8 := by omega
                have hnw := fun w' hf => newWeb_any HCV.out b1 b2 b3 HSL.out hN w' hf
                unfold CRow.val at hnw
                have HNW := hid hnw
                have HND := hid hnd
                have HB3 := hid b3
                have d1 : decide ((N : Int) < 0) = false := by simp
                have d2 : decide ((N : Int) > 8) = false := by simp; omega
                have d3 : decide ((S.length : Int) > 16) = false := by simp; omega
                clear hnw hnd b3
                go_wp2_with (first | (go_at_call 27; refine HM.out.mono ?_; rintro e w5 ⟨rfl, hg5⟩; have HG5 := hid (HGr.out.trans hg5); have hf5 := hg5.fut; clear hg5) | (go_at_call 28; refine (HNW.out _ hf5).mono ?_) | fail)
                rintro e w6 ⟨g3, wb, b, lc, sa3, sc3, ca3, cc3, vs3, rfl, hg6, hwc, hst⟩
                have HG6 := hid (HG5.out.trans hg6)
                have HWC := hid hwc
                have HLE3 := hid hg6.le
                have hf6 := hg6.fut
                have HOS := hid (os_start hf6)
                have HGA := hid (HG6.out.alloc (.cells #[.slice none 0 0] 33))
                have HOB := hid (hg6.size)
                have hobw : w.heap.size ≤ w6.heap.size := HG6.out.size
                have HOBW := hid hobw
                clear hg6 hwc hobw HG5 hf5 HNW HM
                generalize hLL : (addR c.re 0 [nd0]).2 = L at *
                generalize hSS : (addR c.re 0 [nd0]).1 = st at *
                have hLlen : L.length ≤ 100000 := by
                  have h1 := (addR_len c.re 0 [nd0]).2
                  have h2 := reN_le _ c (Nat.le_refl _) b1
                  rw [hLL] at h1
                  simp at h1
                  omega
                have hstl : st < L.length := b4
                go_wp2_with fail
                go_loopg [15] (N + 1) (fun rem kv wr => ∃ k g4 v4 vals4 ws4, k + rem = N + 1 ∧ kv = .int .i64 (k : Nat) ∧ Hid (g3.Le g4) ∧ Hid (Grow g w g4 wr) ∧ Hid (OS g4 w6.heap.size ws4 wr v4 vals4) ∧ Hid (∀ x, v4.ownBlock = some x → w.heap.size ≤ x) ∧ Hid (runW most ((List.range k).flatMap fun k => (allWords S k).filter (AtB L [st])) [] = (true, ws4)))
                case atStart => exact ⟨0, g3, .slice none 0 0, [], [], by omega, rfl, G.Le.refl _, HGA, HOS, fun x hx => by simp [Value.ownBlock] at hx, rfl⟩
                case round =>
                  obtain ⟨k, g4, v4, vals4, ws4, hk, rfl, HL4, HG4, HO4, HV4, HRUN⟩ := hrel
                  by_cases hkn : k < N + 1
                  · have hfr4 := HO4.out.fut
                    obtain ⟨g5, hg5, hs5⟩ := one_sl hfr4 st
                    have hst4 := fun w' (hf : Fut g4 w') => hst w' (hf.le HL4.out)
                    have hl34 : ∀ w', Fut g4 w' → Fut g3 w' := fun w' h => h.le HL4.out
                    have hclo := closed_any (HWC.out.l.le (HL4.out.trans hg5.le)) HB3.out hLlen hs5 (by simp) (by simpa using hstl) _ hg5.fut
                    have hkd : decide ((k : Int) ≤ (N : Int)) = true := by simp; omega
                    have hkd2 : (k : Int) ≤ (N : Int) := by omega
                    have HCLO := hid hclo
                    have HG5 := hid hg5
                    have HK := hid hk
                    have HKN := hid hkn
                    clear hclo hs5 hg5
                    go_wp2_with (first | (go_at_call 30; refine HCLO.out.mono ?_) | fail)
                    rintro e w7 ⟨g6, oa, oc, out, rfl, hg6, hso, hcl⟩
                    have hG6 := HG5.out.trans hg6
                    have hO6 := HO4.out.kids hG6
                    have hlive := runW_live most _ [] (by simpa using a3) (by rw [HRUN.out])
                    rw [HRUN.out] at hlive
                    have hwk := walk_any k (HWC.out.le (HL4.out.trans hG6.le)) HB3.out hLlen hS (by omega) hkn hso (closed_lt HB3.out (by simpa using hstl) hcl) (closed_cl hcl) (hcl.len HB3.out (by simpa using hstl)) (hG6.le.blk _ _ (HL4.out.blk _ _ (HLE3.out.blk _ _ HMB.out))) a4 hO6 hs_nil hlive (by simp; omega) (k : Int) rfl
                    rw [wordsAt_texts hcl] at hwk
                    have HWK := hid hwk
                    have HG6' := hid (HG4.out.trans hG6)
                    have HL6 := hid hG6.le
                    clear hwk hcl hso hg6 hG6 hO6 hlive HCLO
                    go_wp2_with (first | (go_at_call 29; refine HWK.out.mono ?_) | fail)
                    rintro e w8 ⟨rfl, g7, v7, vals7, hst7⟩
                    have hts := texts_step HG6'.out HOBW.out HV4.out hst7
                    have HTS := hid hts
                    have HO7 := hid hst7.o
                    have HL7 := hid hst7.step.le
                    have hmore : runW most ((List.range (k + 1)).flatMap fun k => (allWords S k).filter (AtB L [st])) [] = runW most ((allWords S k).filter (AtB L [st])) ws4 := by
                      rw [List.range_succ, List.flatMap_append, runW_append, HRUN.out]
                      simp
                    have HMORE := hid hmore
                    clear hts hst7 hmore
                    generalize runW most ((allWords S k).filter (AtB L [st])) ws4 = r at *
                    obtain ⟨rb, rws⟩ := r
                    cases rb with
                    | false =>
                      go_wp2_with fail
                      go_ret2
                      rw [HYES.out, if_neg]
                      · exact textsP_nil 6 HTS.out.1
                      · unfold textsL
                        rw [hLL, hSS, Int.toNat_natCast]
                        exact texts_over a3 HKN.out (by rw [HMORE.out])
                    | true =>
                      go_wp2_with fail
                      go_roundg (N + 1 - (k + 1))
                      case measure => have h1 := HKN.out; have h2 := HK.out; omega
                      case rel => exact ⟨k + 1, g7, v7, vals7, rws, by have h1 := HKN.out; omega, by go_num, HL4.out.trans (HL6.out.trans HL7.out), HTS.out.1, HO7, HTS.out.2, HMORE.out⟩
                  · have hkn2 : k = N + 1 := by omega
                    have hkd : decide ((k : Int) ≤ (N : Int)) = false := by simp; omega
                    have hkd2 : ¬ (k : Int) ≤ (N : Int) := by omega
                    obtain ⟨va, vc, rfl⟩ := own_shape HO4.out.own
                    have o0 := heap_cell HO4.out.box 0 _ rfl
                    go_wp2_with fail
                    go_ret2
                    subst hkn2
                    obtain ⟨e1, e2⟩ := texts_all a3 HRUN.out
                    rw [HYES.out, if_pos]
                    · unfold textsL
                      rw [hLL, hSS, Int.toNat_natCast, e1]
                      exact HO4.out.fin HG4.out HV4.out
                    · unfold textsL
                      rw [hLL, hSS, Int.toNat_natCast]
                      exact e2
              · have HNO := hid (textsF_no (c := c) (S := S) (n := n) (most := most) (by simp [textsOk, hnd]))
                have hdd : decide (¬ S.Nodup) = true := by simp [hnd]
                rw [hdd]
                have d0 : decide (n < 0) = false := by simp; omega
                have d1 : decide (n > 8) = false := by simp; omega
                have d3 : decide ((S.length : Int) > 16) = false := by simp; omega
                clear hma
                go_wp2_with (first | (go_at_call 27; refine HM.out.mono ?_; rintro e w5 ⟨rfl, hg5⟩; have HG5 := hid hg5; clear hg5) | fail)
                go_ret2
                rw [HNO.out]
                exact textsP_nil 1 (HGr.out.trans HG5.out)
            · have HNO := hid (textsF_no (c := c) (S := S) (n := n) (most := most) (by simp [textsOk, hS16]))
              have d0 : decide (n < 0) = false := by simp; omega
              have d1 : decide (n > 8) = false := by simp; omega
              have d3 : decide ((S.length : Int) > 16) = true := by simp; omega
              clear hma
              go_wp2_with (first | (go_at_call 27; refine HM.out.mono ?_; rintro e w5 ⟨rfl, hg5⟩; have HG5 := hid hg5; clear hg5) | fail)
              go_ret2
              rw [HNO.out]
              exact textsP_nil 1 (HGr.out.trans HG5.out)
          · have HNO := hid (textsF_no (c := c) (S := S) (n := n) (most := most) (by simp [textsOk, hn8]))
            have d0 : decide (n < 0) = false := by simp; omega
            have d1 : decide (n > 8) = true := by simp; omega
            clear hma
            go_wp2_with (first | (go_at_call 27; refine HM.out.mono ?_; rintro e w5 ⟨rfl, hg5⟩; have HG5 := hid hg5; clear hg5) | fail)
            go_ret2
            rw [HNO.out]
            exact textsP_nil 1 (HGr.out.trans HG5.out)
        · have HNO := hid (textsF_no (c := c) (S := S) (n := n) (most := most) (by simp [textsOk, hn0]))
          have d0 : decide (n < 0) = true := by simp; omega
          clear hma
          go_wp2_with (first | (go_at_call 27; refine HM.out.mono ?_; rintro e w5 ⟨rfl, hg5⟩; have HG5 := hid hg5; clear hg5) | fail)
          go_ret2
          rw [HNO.out]
          exact textsP_nil 1 (HGr.out.trans HG5.out)
end Go.Proofs.Ytjodmimnbpgfcaa
