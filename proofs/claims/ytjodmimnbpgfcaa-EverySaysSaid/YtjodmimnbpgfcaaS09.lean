/- lang's row, walked. A library text: no claim is stated here. lang's row, Says, Byte. A library text: no claim is stated here. All ways of saying a text, in the order of their choices, as every's maker goes through them. Plain Lean, no program. A library text: no claim is stated here. -/
import Derived.Test.YtjodmimnbpgfcaaS05
import Derived.Deep.CutBlock
import Derived.Deep.RegionLaw
import Derived.WalkSpells
import Derived.Test.YtjodmimnbpgfcaaS06
import Derived.Test.YtjodmimnbpgfcaaS07
import Derived.Test.YtjodmimnbpgfcaaS08
import Derived.Test.YtjodmimnbpgfcaaS04

/- RowD -/
namespace Go.Proofs.Ytjodmimnbpgfcaa
open Go.RowKit Go.IntWalk

set_option maxRecDepth 100000 in
set_option maxHeartbeats 4000000 in
theorem row_5 {g : G} {M : Nat → Prop} {T : Tab} {x : Core} {i f : Nat} (hx : (flatC T.c)[i]? = some x) (hf : f ≤ T.s.length) (hcase : (∃ y, x.kind = 5 ∧ x.l = [y] ∧ x.re = .star y.re)) (hP : TabP g T) (w : World) (hw : Fut g w) (hM : TabM g M T w)
    (IH : ∀ (y : Core) (j f' : Nat), nodes y < nodes x → (flatC T.c)[j]? = some y → f' ≤ T.s.length → ∀ (g' : G) (M' : Nat → Prop) (w' : World), g.Le g' → Fut g' w' → TabM g' M' T w' → Calls Try.prog 55 [Value.pointer (some ⟨T.tb, 0, none⟩), .int .i64 j, .int .i64 f'].toArray w' (RowPost g' w' M' T y f')) :
    Calls Try.prog 55 #[.pointer (some ⟨T.tb, 0, none⟩), .int .i64 i, .int .i64 f] w (RowPost g w M T x f) := by
  have HCASE := hid hcase
  clear hcase
  have t0 := fut_cell hP.tab 0 _ rfl
  have t1 := fut_cell hP.tab 1 _ rfl
  have t2 := fut_cell hP.tab 2 _ rfl
  have hlen := hP.s.length
  simp only [List.length_map] at hlen
  have hsl : T.slen = T.s.length := hlen.1
  rw [hsl] at t1
  obtain ⟨v, hv, hvf, hro⟩ := hM.entry hx
  have hin := flat_lt hx
  have hfew := hP.few
  have hshort := hP.short
  have hii : (i : Int) < (nodes T.c : Int) := by omega
  have hff : (f : Int) < (T.s.length : Int) + 1 := by omega
  have HP := hid hP
  have HM := hid hM
  have HX := hid hx
  have HIH := hid IH
  have HRO := hid hro
  have HLEN := hid hlen
  have HSL := hid hsl
  clear hP hM hx IH hro hlen hsl
  obtain ⟨va, vn, vc, rfl⟩ : ∃ va vn vc, v = .slice va vn vc := by
    rcases HRO.out with h | ⟨_, _, h, _⟩ <;> exact ⟨_, _, _, h⟩
  have hnil := eql_nil134 va vn vc
  go_enter Try.func55, Try.ntmps55
  go_upto_if 20 with fail
  have HS0 := hid hw
  go_cut [] from 13 (fun wc => ∃ M1 rb, Hid (TStep T g w M g wc M1) ∧ Hid (TabM g M1 T wc) ∧ Hid (wc.cell? ⟨T.eb, i, none⟩ = some (.slice (some ⟨rb, 0, none⟩) (T.s.length + 1) (T.s.length + 1))))
  case first =>
    rcases HRO.out with hr | ⟨rb, rs, hr, -⟩
    · simp only [Value.slice.injEq] at hr
      obtain ⟨rfl, rfl, rfl⟩ := hr
      go_wp2_with fail
      have hsum : IntKind.i64.wrap ((T.s.length : Int) + 1) = (T.s.length : Int) + 1 := IntWalk.i64_in _ (by omega)
      have hmk := make_row T.s.length hshort
      have fa := fun o => hw.alloc o
      have hebl := (HM.out.out _ HM.out.eb).2
      have hvA : ∀ o, (w.alloc o).cell? ⟨T.eb, i, none⟩ = some (.slice none 0 0) := fun o => (World.cell?_alloc_lt _ _ _ hebl).trans hv
      have hvfA : ∀ o, (w.alloc o).frozen? ⟨T.eb, i, none⟩ = false := fun o => (World.frozen?_alloc_old _ _ _ (Nat.ne_of_lt hebl)).trans hvf
      go_region
      go_wp2_with fail
      go_meet
      case rel =>
        have R := HM.out.newRow hw HX.out hv (World.grownBy_alloc w _ none) (heap_alloc_new w (.cells (madeCells #[.pointer none] (T.s.length + 1)) 109)) (by simp [madeCells]) (made_nil _)
        have e : (w.setCell ⟨T.eb, i, none⟩ (.slice (some ⟨w.heap.size, 0, none⟩) (T.s.length + 1) (T.s.length + 1))).alloc (.cells (madeCells #[.pointer none] (T.s.length + 1)) 109) = (w.alloc (.cells (madeCells #[.pointer none] (T.s.length + 1)) 109)).setCell ⟨T.eb, i, none⟩ (.slice (some ⟨w.heap.size, 0, none⟩) (T.s.length + 1) (T.s.length + 1)) := (World.setCell_alloc_past _ _ _ _ hebl).symm
        rw [e]
        exact ⟨_, _, R.1.drew, R.2.1.drew, R.2.2⟩
    · simp only [Value.slice.injEq] at hr
      obtain ⟨rfl, rfl, rfl⟩ := hr
      go_wp2_with fail
      go_meet
      case rel => exact ⟨M, rb, TStep.refl M hw, HM.out, hv⟩
  case rest =>
    obtain ⟨M1, rb, HT1, HM1, HV1⟩ := hcut
    obtain ⟨u, hu, huf, hent, -⟩ := HM1.out.cell HX.out HV1.out hf
    have hv1 := HV1.out
    have HENT := hid hent
    have hf1 := HT1.out.step.fut
    clear hv hvf hnil hw hent
    rcases HENT.out with rfl | ⟨pb, p, rfl, hpb, hpr⟩
    · obtain ⟨r, ka, kn, kcap, hpm⟩ := HP.out.parts i x HX.out
      have k0 := hpm.c.c0
      rw [hpm.k] at k0
      have fa1 := fun o => hf1.alloc o
      have HPM := hid hpm
      clear hpm
      go_upto_block 0 with fail
      change Code.wp _ _ _ _ (wc.alloc (.cells (placesV fun _ => 0) 136))
      generalize hpk : wc.heap.size = pk
      have hz0 := heap_alloc_new wc (.cells (placesV fun _ => 0) 136)
      rw [hpk] at hz0
      have hs1 : Step (fun _ => False) g wc g (wc.alloc (.cells (placesV fun _ => 0) 136)) := (Step.refl _ hf1).alloc _
      have hpkM : ¬ M1 pk := fun h => by have := (HM1.out.out _ h).2; omega
      have hpkg : g.blk pk = none := hf1.none_of_size (by omega)
      generalize wc.alloc (.cells (placesV fun _ => 0) 136) = W1 at hz0 hs1 ⊢
      have HZ0 : Hid (W1.heap[pk]? = some (.cells (placesV fun _ => 0) 136)) := hz0
      have hT2 : TStep T g wc M1 g W1 M1 := TStep.of_step hs1 (HM1.out.out _ HM1.out.eb).2
      have HT2 := hid hT2
      have HM2 := hid (HM1.out.le hs1 (fun _ _ => id))
      have HPK := hid hpkM
      have HPG := hid hpkg
      have HPS := hid hpk
      have hfW := hT2.step.fut
      clear hz0 hs1 hT2 hpkM hpkg hpk fa1 hu huf hv1 hf1
      have HA0 : Hid (Acc T g wc M1 pk (fun _ => false) g M1 W1) := ⟨HT2.out, HM2.out, ⟨_, HZ0.out, rep_zero⟩, HPK.out, HPG.out, Nat.le_of_eq HPS.out⟩
      go_cut [] from 10 (fun wd => ∃ g2 M2, Hid (Acc T g wc M1 pk (endsF T.s x.re f) g2 M2 wd))
      case first =>
        obtain ⟨y, hk, hl, hre⟩ := HCASE.out
        have HRE := hid hre
        have HLL := hid hl
        clear hre hl
        rw [hk] at *
        have hkids := HPM.out.kids
        have h7 := HPM.out.c7
        rw [HLL.out] at hkids
        obtain ⟨kb, koff, hka, hkc⟩ := hkids.get (i := 0) (by simp [kidIdx])
        have hkn := hkids.length
        simp only [List.length_map, kidIdx_len, List.length_cons, List.length_nil] at hkn
        obtain ⟨rfl, hkn2, hkn3⟩ := hkn
        have hk0 : ∀ w, Fut g w → w.cell? ⟨kb, koff, none⟩ = some (.int .i64 ((i + 1 : Nat) : Int)) := hkc 0 (natV (i + 1)) rfl
        simp only [Int.natCast_add, Int.cast_ofNat_Int] at hk0
        obtain ⟨j, hj1, hj2, hj3⟩ := flat_kid HX.out (j := 0) (y := y) (by rw [HLL.out]; rfl)
        rw [HLL.out] at hj1
        simp only [kidIdx, List.getElem?_cons_zero, Option.some.injEq] at hj1
        subst hj1
        have hny : nodes y < nodes x := by
          cases x with
          | mk k s n l =>
            have := HLL.out
            simp only [Core.l] at this
            subst this
            simp only [nodes, nodesL]; omega
        have HIy := hid (fun g' M' w' h1 h2 h3 f' hf' => HIH.out y (i + 1) f' hny hj2 hf' g' M' w' h1 h2 h3)
        have hj2' := hj2
        clear hkids hkc hny hj2 hj3 hkn2 hkn3 hj2'
        subst hka
        go_wp2_with (go_at_call 73; refine (pput_any _ HZ0.out rep_zero (by omega)).mono ?_; rintro e w3 hp3; have HAC3 := hid ((HA0.out.post hp3).of (R := fun j => j == f) (fun j => by rw [Bool.false_or])); have hf3 := HAC3.out.fut; obtain ⟨rfl, -⟩ := hp3)
        go_loopg [12] (T.s.length + 1 - f) (fun rem iv wr => ∃ k g4 M4, f ≤ k ∧ k + rem = T.s.length + 1 ∧ iv = .int .i64 (k : Nat) ∧ Hid (Acc T g wc M1 pk (starUpto (endsF T.s y.re) f k) g4 M4 wr))
        case atStart =>
          refine ⟨f, g, M1, Nat.le_refl _, by omega, rfl, HAC3.out.of (fun i => ?_)⟩
          simp [starUpto]
        case round =>
          obtain ⟨k, g4, M4, hfk, hkr, rfl, HAC4⟩ := hrel
          have hf4 := HAC4.out.fut
          clear hf3 hfW
          by_cases hlt : k ≤ T.s.length
          · have hlti : (k : Int) ≤ (T.s.length : Int) := by omega
            obtain ⟨p4, hp4, hr4⟩ := HAC4.out.pl
            have hhas := hr4.has k (by omega)
            have HP4 := hid hp4
            have HR4 := hid hr4
            clear hp4 hr4
            have hsucc := starUpto_succ (endsF T.s y.re) hfk
            cases hA : starUpto (endsF T.s y.re) f k k with
            | false =>
              rw [hA] at hhas
              unfold starStep at hsucc
              rw [hA] at hsucc
              have HH := hid hhas
              have HSU := hid hsucc
              clear hhas hA hsucc
              go_wp2_with (go_at_call 56; refine (phas_any _ HP4.out HR4.out.wf (by omega)).mono ?_; rw [HH.out]; rintro e w5 ⟨rfl, rfl⟩)
              go_roundg (T.s.length - k)
              case measure => omega
              case rel => exact ⟨k + 1, g4, M4, by omega, by omega, by go_num, HAC4.out.of (fun i => by rw [HSU.out]; rfl)⟩
            | true =>
              rw [hA] at hhas
              unfold starStep at hsucc
              rw [hA] at hsucc
              have HH := hid hhas
              have HSU := hid hsucc
              have HFK := hid hfk
              have HKR := hid hkr
              clear hhas hA hsucc hfk hkr
              go_wp2_with (first | (go_at_call 56; refine (phas_any _ HP4.out HR4.out.wf (by omega)).mono ?_; rw [HH.out]; rintro e w5 ⟨rfl, rfl⟩) | (go_at_call 55; refine (Calls.mono (P := Try.prog) (by simpa using HIy.out _ _ _ HAC4.out.st.step.le HAC4.out.st.step.fut HAC4.out.tab k hlt) ?_); rintro e w5 hr5; obtain ⟨g5, M5, pb5, q5, rfl, hac5, hpb5, hq5, hne5, hle5⟩ := HAC4.out.call hr5; obtain ⟨p6, hp6, hr6⟩ := hac5.pl; have HAC5 := hid hac5; have HP6 := hid hp6; have HR6 := hid hr6; have HQ5 := hid hq5; have HB5 := hid (hac5.st.step.fut.blk _ _ hpb5); have HNE5 := hid hne5; have hf5 := hac5.fut; clear hr5 hac5 hpb5 hq5 hne5 hle5 hp6 hr6) | (go_at_call 74; refine (por_any _ HP6.out HR6.out HB5.out HQ5.out HNE5.out).mono ?_; rintro e w6 hp7; have HP7 := hid hp7; obtain ⟨rfl, -⟩ := hp7))
              go_roundg (T.s.length - k)
              case measure => have := HKR.out; omega
              case rel => exact ⟨k + 1, g5, M5, by have := HFK.out; omega, by have := HKR.out; omega, by go_num, (HAC5.out.post HP7.out).of (fun i => by rw [HSU.out]; rfl)⟩
          · have hke : k = T.s.length + 1 := by omega
            go_wp2_with fail
            go_meet
            case rel =>
              refine ⟨g4, M4, HAC4.out.of (fun i => ?_)⟩
              rw [HRE.out, hke]; rfl
      case rest =>
        obtain ⟨g2, M2, HAC⟩ := hcut
        obtain ⟨p, hp3, hr3⟩ := HAC.out.pl
        have HT3 := hid HAC.out.st
        have HM3 := hid HAC.out.tab
        have HP3 := hid hp3
        have HR3 := hid hr3
        clear hp3 hr3
        have hv3 := HT3.out.stay _ _ _ _ HV1.out
        obtain ⟨u3, hu3, huf3, -, -⟩ := HM3.out.cell HX.out hv3 hf
        have hf3 := HT3.out.step.fut.le HT3.out.step.le
        go_wp2_with fail
        go_ret
        have hsz := HT1.out.step.size
        have hps := HPS.out
        have R := HM3.out.store HX.out hv3 HP3.out HAC.out.ng HAC.out.nm HR3.out (w0 := w) (M0 := M) (by omega) (HT1.out.trans HT3.out)
        exact ⟨_, _, pk, p, rfl, R.1, R.2, G.add_same _ _ _, HR3.out⟩
    · have HPB := hid hpb
      have HPR := hid hpr
      clear hpb hpr
      go_wp2_with fail
      go_ret
      exact ⟨g, M1, pb, p, rfl, HT1.out, HM1.out, HPB.out, HPR.out⟩
end Go.Proofs.Ytjodmimnbpgfcaa

/- Row -/
namespace Go.Proofs.Ytjodmimnbpgfcaa
open Go.RowKit Go.IntWalk

theorem row_step {g : G} {M : Nat → Prop} {T : Tab} {x : Core} {i f : Nat} (hx : (flatC T.c)[i]? = some x) (hf : f ≤ T.s.length) (hP : TabP g T) (w : World) (hw : Fut g w) (hM : TabM g M T w)
    (IH : ∀ (y : Core) (j f' : Nat), nodes y < nodes x → (flatC T.c)[j]? = some y → f' ≤ T.s.length → ∀ (g' : G) (M' : Nat → Prop) (w' : World), g.Le g' → Fut g' w' → TabM g' M' T w' → Calls Try.prog 55 [Value.pointer (some ⟨T.tb, 0, none⟩), .int .i64 j, .int .i64 f'].toArray w' (RowPost g' w' M' T y f')) :
    Calls Try.prog 55 #[.pointer (some ⟨T.tb, 0, none⟩), .int .i64 i, .int .i64 f] w (RowPost g w M T x f) := by
  rcases kids_cases (wf_flat _ hP.wf _ _ hx) with h | h | h | h | h | h | h | h
  · exact row_0 hx hf h hP w hw hM IH
  · exact row_1 hx hf h hP w hw hM IH
  · exact row_2 hx hf h hP w hw hM IH
  · exact row_3 hx hf h hP w hw hM IH
  · exact row_4 hx hf h hP w hw hM IH
  · exact row_5 hx hf h hP w hw hM IH
  · exact row_6 hx hf h hP w hw hM IH
  · exact row_7 hx hf h hP w hw hM IH

theorem PartMem.le {g g' : G} {pb i : Nat} {x : Core} {r : CRow} {a : Option Addr} {n cap : Nat} (h : PartMem g pb i x r a n cap) (k : g.Le g') : PartMem g' pb i x r a n cap :=
  ⟨h.k, h.s, h.c.le k, fun w hw => h.c7 w (hw.le k), h.kids.le k⟩
theorem TabP.le {g g' : G} {T : Tab} (h : TabP g T) (k : g.Le g') : TabP g' T :=
  ⟨k.blk _ _ h.tab, h.s.le k, fun i x hx => by obtain ⟨r, a, n, cap, hp⟩ := h.parts i x hx; exact ⟨r, a, n, cap, hp.le k⟩, h.wf, h.few, h.short, h.sets⟩

theorem row_any : ∀ (n : Nat) {g : G} {M : Nat → Prop} {T : Tab} {x : Core} {i f : Nat}, nodes x ≤ n → (flatC T.c)[i]? = some x → f ≤ T.s.length → TabP g T → ∀ (w : World), Fut g w → TabM g M T w →
    Calls Try.prog 55 #[.pointer (some ⟨T.tb, 0, none⟩), .int .i64 i, .int .i64 f] w (RowPost g w M T x f)
  | 0, g, M, T, x, i, f, hn, _, _, _, _, _, _ => absurd hn (by have := nodes_pos x; omega)
  | n + 1, g, M, T, x, i, f, hn, hx, hf, hP, w, hw, hM =>
    row_step hx hf hP w hw hM fun y j f' hy hj hf' g' M' w' hle hw' hM' => by
      have := row_any n (g := g') (M := M') (T := T) (x := y) (i := j) (f := f') (by omega) hj hf' (hP.le hle) w' hw' hM'
      simpa using this

/-- What Says leaves. -/
theorem says_any {g : G} {M : Nat → Prop} {T : Tab} {x : Core} {i f t : Nat} (hx : (flatC T.c)[i]? = some x) (hf : f ≤ T.s.length) (ht : t < 320) (hP : TabP g T) (w : World) (hw : Fut g w) (hM : TabM g M T w) :
    Calls Try.prog 33 #[.pointer (some ⟨T.tb, 0, none⟩), .int .i64 i, .int .i64 f, .int .i64 t] w fun e w' => e = .returned (.bool (endsF T.s x.re f t)) ∧ ∃ g' M', TStep T g w M g' w' M' ∧ TabM g' M' T w' := by
  have hr := row_any _ (Nat.le_refl _) hx hf hP w hw hM
  go_enter Try.func33, Try.ntmps33
  go_wp2_with (first | (go_at_call 55; refine hr.mono ?_; rintro e w2 ⟨g2, M2, pb, p, rfl, hst, htab, hpb, hrep⟩; have HST := hid hst; have HTAB := hid htab; have HB := hid (hst.step.fut.blk _ _ hpb); have HREP := hid hrep; clear hst htab hpb hrep) | (go_at_call 56; refine (phas_any _ HB.out HREP.out.wf ht).mono ?_; rw [HREP.out.has t ht]; rintro e w3 ⟨rfl, rfl⟩))
  go_ret
  exact ⟨rfl, g2, M2, HST.out, HTAB.out⟩

theorem tbyte_any {g : G} {T : Tab} {f : Nat} (hf : f < T.s.length) (hP : TabP g T) (w : World) (hw : Fut g w) :
    Calls Try.prog 75 #[.pointer (some ⟨T.tb, 0, none⟩), .int .i64 f] w fun e w' => e = .returned (byteV T.s[f]) ∧ w = w' := by
  have t1 := fut_cell hP.tab 1 _ rfl
  have hlen := hP.s.length
  simp only [List.length_map] at hlen
  obtain ⟨sb, soff, hsa, hsc⟩ := hP.s.get (i := f) (by simpa using hf)
  have hs1 := hsc f (byteV T.s[f]) (by simp [hf])
  have hff : (f : Int) < (T.slen : Int) := by omega
  rw [hsa] at t1
  unfold byteV at *
  have HL := hid hlen
  clear hsa hsc hlen hP
  go_enter Try.func75, Try.ntmps75
  go_wp2
  go_ret
  exact ⟨rfl, rfl⟩
end Go.Proofs.Ytjodmimnbpgfcaa

/- Ways -/
namespace Go.Proofs.Ytjodmimnbpgfcaa

inductive Val where
  | mk (kind : Int) (b : Int) (l : List Val)

def Val.kind : Val → Int | .mk k _ _ => k
def Val.b : Val → Int | .mk _ b _ => b
def Val.l : Val → List Val | .mk _ _ l => l

/-- From where items that say something come to an end: for the last j + 1 places. -/
def reachL (E : Nat → Nat → Bool) (ok : Nat → Bool) (n : Nat) : Nat → List Bool
  | 0 => [ok n]
  | j + 1 => (ok (n - (j + 1)) || (List.range (j + 1)).any fun i => (reachL E ok n j).getD i false && E (n - (j + 1)) (n - (j + 1) + 1 + i)) :: reachL E ok n j
def reachF (E : Nat → Nat → Bool) (ok : Nat → Bool) (n : Nat) (k : Nat) : Bool := (reachL E ok n n).getD k false

/-- All items behind some; W: what one item may be. -/
def oftenW (W : Nat → (Nat → Bool) → List (Val × Nat)) (may ok : Nat → Bool) : Nat → Nat → List Val → List (Val × Nat)
  | 0, _, _ => []
  | d + 1, f, had => ((W f fun t => decide (f < t) && may t).flatMap fun x => oftenW W may ok d x.2 (had ++ [x.1])) ++ if ok f then [(.mk 6 0 had, f)] else []

def mayF (E : Nat → Nat → Bool) (ok : Nat → Bool) (n k : Nat) : Bool := (List.range' k (n + 1 - k)).any fun t => ok t && E k t

def ways (s : List UInt8) : Re → Nat → (Nat → Bool) → List (Val × Nat)
  | .none, _, _ => []
  | .empty, f, ok => if ok f then [(.mk 1 0 [], f)] else []
  | .byte S, f, ok => match s[f]? with | some x => if S.has x.toNat && ok (f + 1) then [(.mk 2 (x.toNat : Int) [], f + 1)] else [] | Option.none => []
  | .both a b, f, ok => (ways s a f (mayF (endsF s b) ok s.length)).flatMap fun x => (ways s b x.2 ok).map fun y => (.mk 3 0 [x.1, y.1], y.2)
  | .or a b, f, ok => ((ways s a f ok).map fun x => (.mk 4 0 [x.1], x.2)) ++ ((ways s b f ok).map fun x => (.mk 5 0 [x.1], x.2))
  | .star a, f, ok => oftenW (ways s a) (reachF (endsF s a) ok s.length) ok (s.length + 1 - f) f []
  | .group a, f, ok => (ways s a f ok).map fun x => (.mk 7 0 [x.1], x.2)
  | .anew a, f, ok => ways s a f ok

/-- Takes them one by one, till there are enough. -/
def runT {σ : Type} (t : Val → Nat → σ → Bool × σ) : List (Val × Nat) → σ → Bool × σ
  | [], s => (true, s)
  | x :: r, s => if (t x.1 x.2 s).1 then runT t r (t x.1 x.2 s).2 else t x.1 x.2 s

theorem runT_append {σ : Type} (t : Val → Nat → σ → Bool × σ) : ∀ (a b : List (Val × Nat)) (s : σ), runT t (a ++ b) s = if (runT t a s).1 then runT t b (runT t a s).2 else runT t a s
  | [], b, s => by simp [runT]
  | x :: r, b, s => by
    simp only [List.cons_append, runT]
    by_cases h : (t x.1 x.2 s).1 = true
    · simp [h, runT_append t r b]
    · simp [h]

theorem runT_map {σ : Type} (t : Val → Nat → σ → Bool × σ) (f : Val × Nat → Val × Nat) : ∀ (a : List (Val × Nat)) (s : σ), runT t (a.map f) s = runT (fun v n s => t (f (v, n)).1 (f (v, n)).2 s) a s
  | [], s => rfl
  | x :: r, s => by
    simp only [List.map_cons, runT]
    rw [runT_map t f r]

theorem runT_flatMap {σ : Type} (t : Val → Nat → σ → Bool × σ) (f : Val × Nat → List (Val × Nat)) : ∀ (a : List (Val × Nat)) (s : σ), runT t (a.flatMap f) s = runT (fun v n s => runT t (f (v, n)) s) a s
  | [], s => rfl
  | x :: r, s => by
    simp only [List.flatMap_cons, runT, runT_append]
    by_cases h : (runT t (f x) s).1 = true
    · simp [h, runT_flatMap t f r]
    · simp [h]

theorem runT_single {σ : Type} (t : Val → Nat → σ → Bool × σ) (x : Val × Nat) (s : σ) : runT t [x] s = t x.1 x.2 s := by
  simp only [runT]
  by_cases h : (t x.1 x.2 s).1 = true
  · rw [if_pos h]; exact Prod.ext h.symm rfl
  · rw [if_neg h]

theorem reachL_len (E : Nat → Nat → Bool) (ok : Nat → Bool) (n : Nat) : ∀ j, (reachL E ok n j).length = j + 1
  | 0 => rfl
  | j + 1 => by simp [reachL, reachL_len E ok n j]

/-- What ends, ends in the text. -/
theorem starFold_le {E : Nat → Nat → Bool} {n : Nat} (hE : ∀ f t, f ≤ n → E f t = true → f ≤ t ∧ t ≤ n) : ∀ (l : List Nat) (P : Nat → Bool) (f0 : Nat), (∀ k ∈ l, k ≤ n) → (∀ t, P t = true → f0 ≤ t ∧ t ≤ n) →
    ∀ t, l.foldl (starStep E) P t = true → f0 ≤ t ∧ t ≤ n
  | [], P, f0, _, hP, t, h => hP t h
  | k :: l, P, f0, hl, hP, t, h => by
    refine starFold_le hE l _ f0 (fun j hj => hl j (List.mem_cons_of_mem _ hj)) ?_ t h
    intro t ht
    unfold starStep at ht
    split at ht
    · rename_i hk
      rcases Bool.or_eq_true _ _ |>.mp ht with h1 | h1
      · exact hP t h1
      · have := hE k t (hl k (by simp)) h1
        have := hP k hk
        omega
    · exact hP t ht
theorem bothFold_le {A : Nat → Bool} {E : Nat → Nat → Bool} {n f0 : Nat} (hA : ∀ t, A t = true → f0 ≤ t ∧ t ≤ n) (hE : ∀ f t, f ≤ n → E f t = true → f ≤ t ∧ t ≤ n) : ∀ (l : List Nat) (P : Nat → Bool), (∀ t, P t = true → f0 ≤ t ∧ t ≤ n) →
    ∀ t, l.foldl (bothStep A E) P t = true → f0 ≤ t ∧ t ≤ n
  | [], P, hP, t, h => hP t h
  | k :: l, P, hP, t, h => by
    refine bothFold_le hA hE l _ ?_ t h
    intro t ht
    unfold bothStep at ht
    split at ht
    · rename_i hk
      have hk' := hA k hk
      rcases Bool.or_eq_true _ _ |>.mp ht with h1 | h1
      · exact hP t h1
      · have := hE k t (by omega) h1
        omega
    · exact hP t ht

theorem endsF_le (s : List UInt8) : ∀ (r : Re) (f t : Nat), f ≤ s.length → endsF s r f t = true → f ≤ t ∧ t ≤ s.length
  | .none, f, t, _, h => by simp [endsF] at h
  | .empty, f, t, hf, h => by simp [endsF] at h; omega
  | .byte S, f, t, hf, h => by
    rw [endsF] at h
    split at h
    · rename_i x hx
      have := (List.getElem?_eq_some_iff.1 hx).1
      simp at h; omega
    · cases h
  | .both a b, f, t, hf, h => by
    rw [endsF] at h
    exact bothFold_le (fun t ht => endsF_le s a f t hf ht) (fun f t hf ht => endsF_le s b f t hf ht) _ _ (by simp) t h
  | .or a b, f, t, hf, h => by
    simp only [endsF, Bool.or_eq_true] at h
    rcases h with h | h
    · exact endsF_le s a f t hf h
    · exact endsF_le s b f t hf h
  | .star a, f, t, hf, h => by
    rw [endsF] at h
    refine starFold_le (fun f t hf ht => endsF_le s a f t hf ht) _ _ f (fun k hk => ?_) (fun t ht => ?_) t h
    · simp [List.mem_range'] at hk; omega
    · simp at ht; omega
  | .group a, f, t, hf, h => endsF_le s a f t hf (by simpa [endsF] using h)
  | .anew a, f, t, hf, h => endsF_le s a f t hf (by simpa [endsF] using h)

end Go.Proofs.Ytjodmimnbpgfcaa
