/- The reference's All, walked. A library text: no claim is stated here. -/
import Derived.Test.YtjodmimnbpgfcaaS32

/- AllB -/
namespace Go.Proofs.Ytjodmimnbpgfcaa
open Go.RowKit Go.IntWalk

theorem grow_app {g : G} {wk W w4 : World} {v : Value} (hW : Grow g wk g W) (hv : ∀ k, v.ownBlock = some k → wk.heap.size ≤ k) (hf : Fut g wk) (hgr : W.grownBy w4 v.ownBlock) : Grow g wk g w4 :=
  hW.grown hgr (fun k hk => ⟨hv k hk, hf.none_of_size (hv k hk)⟩)

def okV (v : Val) : Prop := shapeV v = true ∧ (bitsV v).length ≤ 1000000

def refAll (c : Core) (u : List UInt8) (most : Int) : List Val × Int :=
  if formedF c = false ∨ 256 < u.length ∨ most < 0 ∨ 2000 < most then ([], 1)
  else if (evR (most.toNat + 1) c.re u).length ≤ most.toNat then ((evR (most.toNat + 1) c.re u).foldl insR [], 0) else ([], 6)

def AllPost (g : G) (p : List Val × Int) (w : World) (e : Ending) (w' : World) : Prop := ∃ g' a cap, e = .returned (.tuple #[.slice a p.1.length cap, .int .i64 p.2]) ∧ Grow g w g' w' ∧ ValsV g' a p.1.length cap p.1

set_option maxRecDepth 100000 in
set_option maxHeartbeats 2000000 in
theorem refAll_bad {g : G} {r : CRow} {c : Core} (h : RefV g r c) (hn : nodes c ≤ 2000) {u : List UInt8} {sa : Option Addr} {sc : Nat} (most : Int) (hbad : formedF c = false ∨ 256 < u.length ∨ most < 0 ∨ 2000 < most) (w : World) (hw : Fut g w) :
    Calls Try.prog 21 #[.agg (cellsR r), .slice sa u.length sc, .int .i64 most] w (AllPost g ([], 1) w) := by
  obtain ⟨g1, hg1, c0, cs, cn, cl, cv⟩ := box_ref hw r
  have hf1 := hg1.fut
  have HC := hid (rgood_any (h.le hg1.le) hn _ hf1)
  have H := hid (cv _ hf1)
  have HG1 := hid hg1
  clear c0 cs cn cl cv hg1
  cases hfm : formedF c with
  | false =>
    rw [hfm] at HC
    go_enter Try.func21, Try.ntmps21
    go_wp2_with (first | (refine wpList_load54 rfl _ rfl rfl H.out ?_) | (go_at_call 39; refine HC.out.mono ?_; rintro e w2 ⟨rfl, hg2⟩; have HG2 := hid hg2; clear hg2) | fail)
    go_ret2
    exact ⟨g1, none, 0, rfl, HG1.out.trans HG2.out, .nil 0 0⟩
  | true =>
    rw [hfm] at HC hbad
    by_cases h1 : 256 < u.length
    · have e1 : decide ((u.length : Int) > 256) = true := by simp; omega
      go_enter Try.func21, Try.ntmps21
      go_wp2_with (first | (refine wpList_load54 rfl _ rfl rfl H.out ?_) | (go_at_call 39; refine HC.out.mono ?_; rintro e w2 ⟨rfl, hg2⟩; have HG2 := hid hg2; clear hg2) | fail)
      go_ret2
      exact ⟨g1, none, 0, rfl, HG1.out.trans HG2.out, .nil 0 0⟩
    · have e1 : decide ((u.length : Int) > 256) = false := by simp; omega
      by_cases h2 : most < 0
      · have e2 : decide (most < 0) = true := by simpa using h2
        go_enter Try.func21, Try.ntmps21
        go_wp2_with (first | (refine wpList_load54 rfl _ rfl rfl H.out ?_) | (go_at_call 39; refine HC.out.mono ?_; rintro e w2 ⟨rfl, hg2⟩; have HG2 := hid hg2; clear hg2) | fail)
        go_ret2
        exact ⟨g1, none, 0, rfl, HG1.out.trans HG2.out, .nil 0 0⟩
      · have e2 : decide (most < 0) = false := by simpa using h2
        have h3 : 2000 < most := by
          rcases hbad with h | h | h | h
          · cases h
          · exact absurd h h1
          · exact absurd h h2
          · exact h
        have e3 : decide (most > 2000) = true := by simpa using h3
        go_enter Try.func21, Try.ntmps21
        go_wp2_with (first | (refine wpList_load54 rfl _ rfl rfl H.out ?_) | (go_at_call 39; refine HC.out.mono ?_; rintro e w2 ⟨rfl, hg2⟩; have HG2 := hid hg2; clear hg2) | fail)
        go_ret2
        exact ⟨g1, none, 0, rfl, HG1.out.trans HG2.out, .nil 0 0⟩

set_option maxRecDepth 100000 in
set_option maxHeartbeats 4000000 in
theorem refAll_good {g : G} {r : CRow} {c : Core} (h : RefV g r c) (hn : nodes c ≤ 2000) (hwf : wfC c = true) {u : List UInt8} {sa : Option Addr} {sc : Nat} (hsl : SliceV g sa u.length sc (u.map byteV)) (most : Int) (hfm : formedF c = true) (h1 : u.length ≤ 256) (h2 : 0 ≤ most) (h3 : most ≤ 2000) (hok : ∀ x ∈ evR (most.toNat + 1) c.re u, okV x) (w : World) (hw : Fut g w) :
    Calls Try.prog 21 #[.agg (cellsR r), .slice sa u.length sc, .int .i64 most] w (AllPost g (if (evR (most.toNat + 1) c.re u).length ≤ most.toNat then ((evR (most.toNat + 1) c.re u).foldl insR [], 0) else ([], 6)) w) := by
  obtain ⟨i0, hi, hz0, hz1, hz2⟩ := info_parts Try.info61
  obtain ⟨g1, hg1, c0, cs, cn, cl, cv⟩ := box_ref hw r
  have hf1 := hg1.fut
  have HC := hid (rgood_any (h.le hg1.le) hn _ hf1)
  have HEV := hid (fun w' (hw' : Fut g1 w') => every_any h (most.toNat + 1) most (by omega) (by omega) (by omega) hwf g1 hg1.le u sa sc (by omega) (hsl.le hg1.le) w' hw')
  have hLl := evR_len (m := most.toNat + 1) (by omega) c.re u
  have H := hid (cv _ hf1)
  have HCV := hid cv
  have HG1 := hid hg1
  have e1 : decide ((u.length : Int) > 256) = false := by simp; omega
  have e2 : decide (most < 0) = false := by simpa using h2
  have e3 : decide (most > 2000) = false := by simpa using h3
  generalize evR (most.toNat + 1) c.re u = L at HEV hLl hok ⊢
  have HOK := hid hok
  clear c0 cs cn cl cv hg1 hok
  rw [hfm] at HC
  by_cases hfew : L.length ≤ most.toNat
  case neg =>
    rw [if_neg hfew]
    have e4 : decide ((L.length : Int) > most) = true := by simp; omega
    go_enter Try.func21, Try.ntmps21
    go_upto_region 3 with (first | (refine wpList_load54 rfl _ rfl rfl H.out ?_) | (go_at_call 39; refine HC.out.mono ?_; rintro e w2 ⟨rfl, hg2⟩; have HG2 := hid hg2; have hf2 := hg2.fut; have H2 := hid (HCV.out _ hg2.fut); clear hg2) | fail)
    go_wp2_with (first | (refine wpList_load54 rfl _ rfl rfl H2.out ?_) | (go_at_call 40; refine (HEV.out _ hf2).mono ?_; rintro e w3 ⟨g3, la, lc, rfl, hg3, hv3⟩; have HG3 := hid hg3; have hf3 := hg3.fut; have HV3 := hid hv3; clear hg3 hv3) | fail)
    go_ret2
    exact ⟨g3, none, 0, rfl, (HG1.out.trans HG2.out).trans HG3.out, .nil 0 0⟩
  case pos =>
    rw [if_pos hfew]
    have e4 : decide ((L.length : Int) > most) = false := by simp; omega
    generalize hRES : L.foldl insR [] = RES
    have HRES := hid hRES
    clear hRES
    go_enter Try.func21, Try.ntmps21
    go_upto_region 3 with (first | (refine wpList_load54 rfl _ rfl rfl H.out ?_) | (go_at_call 39; refine HC.out.mono ?_; rintro e w2 ⟨rfl, hg2⟩; have HG2 := hid hg2; have hf2 := hg2.fut; have H2 := hid (HCV.out _ hg2.fut); clear hg2) | fail)
    go_wp2_with (first | (refine wpList_load54 rfl _ rfl rfl H2.out ?_) | (go_at_call 40; refine (HEV.out _ hf2).mono ?_; rintro e w3 ⟨g3, la, lc, rfl, hg3, hv3⟩; have HG3 := hid ((HG1.out.trans HG2.out).trans hg3); have hf3 := hg3.fut; have HV3 := hid hv3; clear hg3 hv3) | fail)
    go_loopg [9, 10] L.length (fun rem s9 i wr => ∃ (q : Nat) (R : List Val) (gq : G) (ra : Option Addr) (rc : Nat), q + rem = L.length ∧ s9 = .slice ra R.length rc ∧ i = .int .i64 q ∧ R.length = q ∧ Hid (R = (L.take q).foldl insR []) ∧ Hid (∀ x ∈ R, okV x) ∧ g3.Le gq ∧ Grow g w gq wr ∧ ValsV gq ra R.length rc R)
    case atStart => exact ⟨0, [], g3, none, 0, by omega, rfl, rfl, rfl, by rfl, (fun x hx => by simp at hx), G.Le.refl _, HG3.out, .nil 0 0⟩
    case round =>
      obtain ⟨q, R, gq, ra, rc, hq, rfl, rfl, hRq, HRE, HRO, hle, hg, hvr⟩ := hrel
      have HRQ := hid hRq
      clear hRq
      have HG := hid hg
      have hfq := hg.fut
      have HVR := hid hvr
      have hrc := hvr.len.2
      clear hg hvr
      by_cases hlt : q < L.length
      · obtain ⟨lb, lo, xr, rfl, hcx, hvx, -⟩ := HV3.out.at hlt
        have hlc := HV3.out.len.2
        obtain ⟨x0, x1, x2⟩ := hcx.le hle
        have HVX := hid (hvx.le hle)
        have hokx := HOK.out L[q] (List.getElem_mem _)
        have hql : (q : Int) < L.length := by omega
        clear hcx hvx
        go_upto_block 2 with fail
        go_cut [11] from 44 to 61 (fun s11 wk => s11 = .int .i64 (posR R L[q] R.length : Nat) ∧ Grow gq wr gq wk)
        case first =>
          go_wp2_with fail
          go_loopg [11] R.length (fun rem i wk => i = .int .i64 (rem : Nat) ∧ rem ≤ R.length ∧ Hid (posR R L[q] rem = posR R L[q] R.length) ∧ Grow gq wr gq wk)
          case atStart => exact ⟨rfl, Nat.le_refl _, rfl, Grow.refl hfq⟩
          case round =>
            obtain ⟨rfl, hkr, HP, hgk⟩ := hrel
            have hfk := hgk.fut
            have HGK := hid hgk
            clear hgk
            have hx : ∀ x : Wg gq wr, Fut gq x.w := fun x => x.h.fut
            have hne : Nonempty (Wg gq wr) := ⟨⟨_, Grow.refl hfk⟩⟩
            cases gk with
            | zero =>
              go_upto_region 11 with fail
              refine wp_region_cls (g := gq) (w0 := wr) (by kernel_rfl) (by kernel_rfl) (Grow.refl hfk) ?_
              repeat (go_big_quiet_step (fail))
              refine wpQuiet_nil ?_
              rintro wa ⟨⟨_, hga⟩, rfl⟩
              have HGA := hid hga
              have hfa := hga.fut
              clear hga hx hne
              go_wp2_with fail
              go_meet
              case rel => exact ⟨by rw [← HP.out]; rfl, HGK.out.trans HGA.out⟩
            | succ kk =>
              have hkk : kk < R.length := by omega
              obtain ⟨rb, ro, yr, rfl, hcy, hvy, -⟩ := HVR.out.at hkk
              obtain ⟨y0, y1, y2⟩ := hcy
              have hoky := HRO.out R[kk] (List.getElem_mem _)
              have HE := hid (fun (x : Wg gq wr) => eager_any hvy HVX.out hoky.1 hokx.1 hoky.2 hokx.2 x.w x.h.fut)
              have hki : (kk : Int) < R.length := by omega
              have hpos : posR R L[q] (kk + 1) = if eagerF R[kk] L[q] > 0 then posR R L[q] kk else kk + 1 := by
                rw [posR, List.getElem?_eq_getElem hkk]
              unfold VRow.val at HE
              go_upto_region 11 with fail
              refine wp_region_cls (g := gq) (w0 := wr) (by kernel_rfl) (by kernel_rfl) (Grow.refl hfk) ?_
              by_cases hgt : eagerF R[kk] L[q] > 0
              · have hgt' : decide (eagerF R[kk] L[q] > 0) = true := by simpa using hgt
                rw [if_pos hgt] at hpos
                have HPOS := hid hpos
                clear hpos
                repeat (go_big_quiet_step (exact quiet_grow (HE.out _)))
                refine wpQuiet_nil ?_
                rintro wa ⟨⟨_, hga⟩, rfl⟩
                have HGA := hid hga
                have hfa := hga.fut
                clear hga hx hne
                go_wp2_with fail
                go_roundg kk
                case measure => omega
                case rel => exact ⟨by go_num, by omega, HPOS.out.symm.trans HP.out, HGK.out.trans HGA.out⟩
              · have hgt' : decide (eagerF R[kk] L[q] > 0) = false := by simpa using hgt
                rw [if_neg hgt] at hpos
                have HPOS := hid hpos
                clear hpos
                repeat (go_big_quiet_step (exact quiet_grow (HE.out _)))
                refine wpQuiet_nil ?_
                rintro wa ⟨⟨_, hga⟩, rfl⟩
                have HGA := hid hga
                have hfa := hga.fut
                clear hga hx hne
                go_wp2_with fail
                go_meet
                case rel => exact ⟨by rw [← HP.out, HPOS.out]; rfl, HGK.out.trans HGA.out⟩
        case rest =>
          obtain ⟨rfl, hgk⟩ := hcut
          have hkle := posR_le R L[q] R.length
          have hins : (L.take (q + 1)).foldl insR [] = R.take (posR R L[q] R.length) ++ [L[q]] ++ R.drop (posR R L[q] R.length) := by
            rw [List.take_add_one, List.getElem?_eq_getElem hlt, List.foldl_append, ← HRE.out]; rfl
          generalize posR R L[q] R.length = k at hkle hins ⊢
          have HINS := hid hins
          have hfk := hgk.fut
          have HGK := hid (HG.out.trans hgk)
          obtain ⟨rsR, hsrc⟩ := HVR.out.src
          have HS1 := hid (hsrc.part hkle)
          have HS2 := hid (hsrc.tail hrc.1 hkle)
          have hR2 : R.length ≤ 2001 := by have := HRQ.out; omega
          clear hgk hins hsrc HG
          go_upto_region 13 with fail
          refine wp_region_held_drew (S := (fun w' => Fut gq w')) (by kernel_rfl) hfk.drew ?_
          intro hS0
          refine wpAnyH_take (i := 1) (oi := { dst := some 62, op := Go.Op.move (Go.Operand.tmp 9), type := 56, pos := "ref.go:818", after := #[], guard := none }) (v := ?_) rfl (by kernel_rfl) (by kernel_rfl) (by kernel_rfl) (fun _ _ _ h => h) (Or.inl ⟨by rfl, ?_⟩) (by assumption) ?_
          rotate_left
          · intro w hSw; go_simp; all_goals with_reducible rfl
          try simp only [Act.put, List.setIfInBounds_toArray, List.set_cons_zero, List.set_cons_succ]
          refine wpAnyH_take (i := 2) (oi := { dst := some 63, op := Go.Op.move (Go.Operand.tmp 11), type := 3, pos := "ref.go:818", after := #[], guard := none }) (v := ?_) rfl (by kernel_rfl) (by kernel_rfl) (by kernel_rfl) (fun _ _ _ h => h) (Or.inl ⟨by rfl, ?_⟩) (by assumption) ?_
          rotate_left
          · intro w hSw; go_simp; all_goals with_reducible rfl
          try simp only [Act.put, List.setIfInBounds_toArray, List.set_cons_zero, List.set_cons_succ]
          refine wpAnyH_take (i := 3) (oi := { dst := some 64, op := Go.Op.slice 56 (Go.Operand.tmp 62) none (some (Go.Operand.tmp 63)) none, type := 56, pos := "ref.go:818", after := #[{ on := 1, ground := Go.Ground.data }, { on := 2, ground := Go.Ground.data }], guard := none }) (v := ?_) rfl (by kernel_rfl) (by kernel_rfl) (by kernel_rfl) (fun _ _ _ h => h) (Or.inl ⟨by rfl, ?_⟩) (by assumption) ?_
          rotate_left
          · intro w hSw; refine exec_take56 (x := .tmp 62) (y := .tmp 63) (sa := ra) (n := R.length) (sc := rc) (k := k) ?_ ?_ ?_ (by omega) <;> rfl
          try simp only [Act.put, List.setIfInBounds_toArray, List.set_cons_zero, List.set_cons_succ]
          refine wpAnyH_take (i := 5) (oi := { dst := some 66, op := Go.Op.move (Go.Operand.tmp 8), type := 56, pos := "ref.go:818", after := #[], guard := none }) (v := ?_) rfl (by kernel_rfl) (by kernel_rfl) (by kernel_rfl) (fun _ _ _ h => h) (Or.inl ⟨by rfl, ?_⟩) (by assumption) ?_
          rotate_left
          · intro w hSw; go_simp; all_goals with_reducible rfl
          try simp only [Act.put, List.setIfInBounds_toArray, List.set_cons_zero, List.set_cons_succ]
          refine wpAnyH_take (i := 6) (oi := { dst := some 67, op := Go.Op.move (Go.Operand.tmp 10), type := 3, pos := "ref.go:818", after := #[], guard := none }) (v := ?_) rfl (by kernel_rfl) (by kernel_rfl) (by kernel_rfl) (fun _ _ _ h => h) (Or.inl ⟨by rfl, ?_⟩) (by assumption) ?_
          rotate_left
          · intro w hSw; go_simp; all_goals with_reducible rfl
          try simp only [Act.put, List.setIfInBounds_toArray, List.set_cons_zero, List.set_cons_succ]
          refine wpAnyH_take (i := 7) (oi := { dst := some 68, op := Go.Op.indexAddr 56 (Go.Operand.tmp 66) (Go.Operand.tmp 67), type := 0, pos := "ref.go:818", after := #[{ on := 5, ground := Go.Ground.data }, { on := 6, ground := Go.Ground.data }], guard := none }) (v := ?_) rfl (by kernel_rfl) (by kernel_rfl) (by kernel_rfl) (fun _ _ _ h => h) (Or.inl ⟨by rfl, ?_⟩) (by assumption) ?_
          rotate_left
          · intro w hSw; go_simp; all_goals with_reducible rfl
          try simp only [Act.put, List.setIfInBounds_toArray, List.set_cons_zero, List.set_cons_succ]
          refine wpAnyH_take (i := 8) (oi := { dst := some 69, op := Go.Op.load 61 (Go.Operand.tmp 68), type := 61, pos := "ref.go:818", after := #[{ on := 7, ground := Go.Ground.data }], guard := none }) (v := ?_) rfl (by kernel_rfl) (by kernel_rfl) (by kernel_rfl) (fun _ _ _ h => h) (Or.inl ⟨by rfl, ?_⟩) (by assumption) ?_
          rotate_left
          · intro w hSw; go_simp; all_goals with_reducible rfl
          try simp only [Act.put, List.setIfInBounds_toArray, List.set_cons_zero, List.set_cons_succ]
          refine wpAnyH_take (i := 11) (oi := { dst := some 72, op := Go.Op.move (Go.Operand.tmp 9), type := 56, pos := "ref.go:818", after := #[], guard := none }) (v := ?_) rfl (by kernel_rfl) (by kernel_rfl) (by kernel_rfl) (fun _ _ _ h => h) (Or.inl ⟨by rfl, ?_⟩) (by assumption) ?_
          rotate_left
          · intro w hSw; go_simp; all_goals with_reducible rfl
          try simp only [Act.put, List.setIfInBounds_toArray, List.set_cons_zero, List.set_cons_succ]
          refine wpAnyH_take (i := 12) (oi := { dst := some 73, op := Go.Op.move (Go.Operand.tmp 11), type := 3, pos := "ref.go:818", after := #[], guard := none }) (v := ?_) rfl (by kernel_rfl) (by kernel_rfl) (by kernel_rfl) (fun _ _ _ h => h) (Or.inl ⟨by rfl, ?_⟩) (by assumption) ?_
          rotate_left
          · intro w hSw; go_simp; all_goals with_reducible rfl
          try simp only [Act.put, List.setIfInBounds_toArray, List.set_cons_zero, List.set_cons_succ]
          refine wpAnyH_take (i := 13) (oi := { dst := some 74, op := Go.Op.slice 56 (Go.Operand.tmp 72) (some (Go.Operand.tmp 73)) none none, type := 56, pos := "ref.go:818", after := #[{ on := 11, ground := Go.Ground.data }, { on := 12, ground := Go.Ground.data }], guard := none }) (v := ?_) rfl (by kernel_rfl) (by kernel_rfl) (by kernel_rfl) (fun _ _ _ h => h) (Or.inl ⟨by rfl, ?_⟩) (by assumption) ?_
          rotate_left
          · intro w hSw; refine exec_drop56 (x := .tmp 72) (y := .tmp 73) (sa := ra) (n := R.length) (sc := rc) (k := k) ?_ ?_ ?_ (by omega) <;> rfl
          try simp only [Act.put, List.setIfInBounds_toArray, List.set_cons_zero, List.set_cons_succ]
          refine wpAnyH_ready (rs := [0,9]) (by kernel_rfl) (by simp) ?_
          refine (AllReadyH.cons (o := { dst := some 61, op := Go.Op.buildSlice 56 0 #[], type := 56, pos := "ref.go:818", after := #[], guard := none }) rfl (fun K hK => ?_) (AllReadyH.cons (o := { dst := some 70, op := Go.Op.buildSlice 56 1 #[(0, Go.Operand.tmp 69)], type := 56, pos := "ref.go:818", after := #[{ on := 8, ground := Go.Ground.data }], guard := none }) rfl (fun K hK => ?_) AllReadyH.nil))
          · go_simp
            refine hK.out _ _ ?_ (fun hHeld => ?_)
            · first | exact Fut.drew (by assumption) | exact Fut.alloc (by assumption) _ | assumption
            clear hK K
            try simp only [Act.put, List.setIfInBounds_toArray, List.set_cons_zero, List.set_cons_succ]
            refine wpAnyH_ready (rs := [4,9]) (by kernel_rfl) (by simp) ?_
            refine (AllReadyH.cons (o := { dst := some 65, op := Go.Op.call { callee := Go.Callee.builtin Go.Builtin.append, args := #[Go.Operand.tmp 61, Go.Operand.tmp 64], argTypes := #[56, 56] }, type := 56, pos := "ref.go:818", after := #[{ on := 0, ground := Go.Ground.data }, { on := 3, ground := Go.Ground.data }], guard := none }) rfl (fun K hK => ?_) (AllReadyH.cons (o := { dst := some 70, op := Go.Op.buildSlice 56 1 #[(0, Go.Operand.tmp 69)], type := 56, pos := "ref.go:818", after := #[{ on := 8, ground := Go.Ground.data }], guard := none }) rfl (fun K hK => ?_) AllReadyH.nil))
            · refine step_append_vals rfl (.tmp 61) (.tmp 64) rfl rfl wc.heap.size rfl (by first | exact own_zero (w := wc) (Nat.le_refl _) | exact own_zeroB wc _ | exact own_zeroC wc _) rfl HS1.out (by assumption) (by unfold maxLen; omega) (by omega) (by simp <;> omega) ?_
              intro qa qc w4 ho4 hgr4 hat4
              simp only [Nat.zero_add, List.nil_append] at ho4 ⊢
              have hG4 : Grow gq wc gq w4 := by first | exact grow_app (((Grow.refl hfk).alloc (.cells #[] 61)).drew) (fun b hb => by cases hb; exact Nat.le_refl _) hfk hgr4 | exact grow_app ((((Grow.refl hfk).alloc (.cells #[] 61)).alloc (.cells #[.int .i64 xr.k, .int .u8 xr.b, .slice xr.a xr.len xr.cap] 61)).drew) (fun b hb => by cases hb; exact Nat.le_refl _) hfk hgr4 | exact grow_app ((((Grow.refl hfk).alloc (.cells #[.int .i64 xr.k, .int .u8 xr.b, .slice xr.a xr.len xr.cap] 61)).alloc (.cells #[] 61)).drew) (fun b hb => by cases hb; exact Nat.le_succ _) hfk hgr4
              have HG4 := hid hG4
              have HO4 := hid ho4
              have HGR4 := hid hgr4
              have hf4 := hG4.fut
              clear hG4 ho4 hgr4 hat4
              refine hK.out _ _ ?_ (fun hHeld => ?_)
              · first | exact Fut.drew (by assumption) | exact Fut.alloc (by assumption) _ | assumption
              clear hK K
              try simp only [Act.put, List.setIfInBounds_toArray, List.set_cons_zero, List.set_cons_succ]
              refine wpAnyH_ready (rs := [9]) (by kernel_rfl) (by simp) ?_
              refine (AllReadyH.cons (o := { dst := some 70, op := Go.Op.buildSlice 56 1 #[(0, Go.Operand.tmp 69)], type := 56, pos := "ref.go:818", after := #[{ on := 8, ground := Go.Ground.data }], guard := none }) rfl (fun K hK => ?_) AllReadyH.nil)
              · go_simp
                refine hK.out _ _ ?_ (fun hHeld => ?_)
                · first | exact Fut.drew (by assumption) | exact Fut.alloc (by assumption) _ | assumption
                clear hK K
                try simp only [Act.put, List.setIfInBounds_toArray, List.set_cons_zero, List.set_cons_succ]
                refine wpAnyH_ready (rs := [10]) (by kernel_rfl) (by simp) ?_
                refine (AllReadyH.cons (o := { dst := some 71, op := Go.Op.call { callee := Go.Callee.builtin Go.Builtin.append, args := #[Go.Operand.tmp 65, Go.Operand.tmp 70], argTypes := #[56, 56] }, type := 56, pos := "ref.go:818", after := #[{ on := 4, ground := Go.Ground.data }, { on := 9, ground := Go.Ground.data }, { on := 4, ground := Go.Ground.chain }], guard := none }) rfl (fun K hK => ?_) AllReadyH.nil)
                · refine step_append_lies _ rfl (.tmp 65) (.tmp 70) 56 rfl wc.heap.size 61 i0 (.agg #[.int .i64 0, .int .u8 0, .slice none 0 0]) 3 40 Try.underlying56 hi hz0 hz1 hz2 rfl (by decide) _ k (rowsCells (rsR.take k)) rfl (by first | exact HO4.out | exact HO4.out.alloc _) ⟨_, 0, none⟩ 1 1 xr.cells rfl rfl (by first | exact World.news_of_block (heap_alloc_new w4 _) | exact World.news_of_block ((HGR4.out.block (wc.heap.size + 1) (by simp) (show some (wc.heap.size + 1) ≠ some wc.heap.size by simp)).trans (heap_drew_new2 wc (.cells #[] 61) (.cells #[.int .i64 xr.k, .int .u8 xr.b, .slice xr.a xr.len xr.cap] 61))) | exact World.news_of_block ((HGR4.out.block wc.heap.size (by simp <;> omega) (show some wc.heap.size ≠ some (wc.heap.size + 1) by simp)).trans (heap_drew_old2 wc (.cells #[.int .i64 xr.k, .int .u8 xr.b, .slice xr.a xr.len xr.cap] 61) (.cells #[] 61)))) (by simp [VRow.cells, Value.oneCell']) (by decide) (by unfold maxLen; omega) (by omega) (by have := HG4.out.size; first | exact this | (rw [World.size_alloc]; omega)) _ rfl ?_
                  intro kb kcap w5 ho5 hgr5 hat5 hlt5
                  have hG5 : Grow gq wc gq w5 := by first | exact grow_app HG4.out (fun b hb => (HO4.out.lt b hb).1) hfk hgr5 | exact grow_app (HG4.out.alloc _) (fun b hb => (HO4.out.lt b hb).1) hfk hgr5
                  have HG5 := hid hG5
                  have HO5 := hid ho5
                  have hf5 := hG5.fut
                  clear hG5 ho5 hgr5 hat5 hlt5
                  refine hK.out _ _ ?_ (fun hHeld => ?_)
                  · first | exact Fut.drew (by assumption) | exact Fut.alloc (by assumption) _ | assumption
                  clear hK K
                  try simp only [Act.put, List.setIfInBounds_toArray, List.set_cons_zero, List.set_cons_succ]
                  refine wpAnyH_ready (rs := [14]) (by kernel_rfl) (by simp) ?_
                  refine (AllReadyH.cons (o := { dst := some 75, op := Go.Op.call { callee := Go.Callee.builtin Go.Builtin.append, args := #[Go.Operand.tmp 71, Go.Operand.tmp 74], argTypes := #[56, 56] }, type := 56, pos := "ref.go:818", after := #[{ on := 10, ground := Go.Ground.data }, { on := 13, ground := Go.Ground.data }, { on := 10, ground := Go.Ground.chain }], guard := none }) rfl (fun K hK => ?_) AllReadyH.nil)
                  · refine step_append_vals rfl (.tmp 71) (.tmp 74) rfl rfl wc.heap.size rfl HO5.out rfl HS2.out (by assumption) (by unfold maxLen; omega) (by omega) HG5.out.size ?_
                    intro sa6 sc6 w6 ho6 hgr6 hat6
                    have hG6 : Grow gq wc gq w6 := grow_app HG5.out (fun b hb => (HO5.out.lt b hb).1) hfk hgr6
                    have HG6 := hid hG6
                    have HO6 := hid ho6
                    have hf6 := hG6.fut
                    clear hG6 ho6 hgr6 hat6
                    refine hK.out _ _ ?_ (fun hHeld => ?_)
                    · first | exact Fut.drew (by assumption) | exact Fut.alloc (by assumption) _ | assumption
                    clear hK K
                    try simp only [Act.put, List.setIfInBounds_toArray, List.set_cons_zero, List.set_cons_succ]
                    refine wpAnyH_take (i := 15) (oi := { dst := some 9, op := Go.Op.assign (Go.Operand.tmp 75), type := 56, pos := "ref.go:818", after := #[{ on := 14, ground := Go.Ground.data }, { on := 14, ground := Go.Ground.chain }, { on := 0, ground := Go.Ground.phase }, { on := 1, ground := Go.Ground.phase }, { on := 2, ground := Go.Ground.phase }, { on := 3, ground := Go.Ground.phase }, { on := 4, ground := Go.Ground.phase }, { on := 5, ground := Go.Ground.phase }, { on := 6, ground := Go.Ground.phase }, { on := 7, ground := Go.Ground.phase }, { on := 8, ground := Go.Ground.phase }, { on := 9, ground := Go.Ground.phase }, { on := 10, ground := Go.Ground.phase }, { on := 11, ground := Go.Ground.phase }, { on := 12, ground := Go.Ground.phase }, { on := 13, ground := Go.Ground.phase }, { on := 14, ground := Go.Ground.phase }], guard := none }) (v := ?_) rfl (by kernel_rfl) (by kernel_rfl) (by kernel_rfl) (fun _ _ _ h => h) (Or.inl ⟨by rfl, ?_⟩) (by assumption) ?_
                    rotate_left
                    · intro w hSw; go_simp; all_goals with_reducible rfl
                    try simp only [Act.put, List.setIfInBounds_toArray, List.set_cons_zero, List.set_cons_succ]
                    refine wpAnyH_done (by kernel_rfl) ?_ _
                    go_wp2_with fail
                    go_roundg (L.length - (q + 1))
                    case measure => omega
                    case rel =>
                      have hP : OwnP wc.heap.size gq w6 (.slice sa6 (k + 1 + (R.length - k)) sc6) (R.take k ++ [L[q]] ++ R.drop k) (rsR.take k ++ [xr] ++ rsR.drop k) := by
                        refine ⟨?_, (HS1.out.rows.app ⟨rfl, fun i r v h1 h2 => ?_⟩).app HS2.out.rows⟩
                        · have e1 : (R.take k ++ [L[q]] ++ R.drop k).length = k + 1 + (R.length - k) := by simp; omega
                          have e2 : rowsCells (rsR.take k ++ [xr] ++ rsR.drop k) = rowsCells (rsR.take k) ++ xr.cells ++ rowsCells (rsR.drop k) := by simp [rowsCells]
                          rw [e1, e2]; exact HO6.out
                        · cases i with
                          | zero => simp at h1 h2; subst h1 h2; exact HVX.out
                          | succ i => simp at h1
                      obtain ⟨g7, a7, c7, he7, hg7, hle7, hv7⟩ := hP.done HG6.out HGK.out (by simp; omega)
                      simp only [Value.slice.injEq] at he7
                      obtain ⟨rfl, he8, rfl⟩ := he7
                      refine ⟨q + 1, R.take k ++ [L[q]] ++ R.drop k, g7, sa6, sc6, by omega, by rw [he8], by go_num, ?_, HINS.out.symm, ?_, hle.trans hle7, hg7, hv7⟩
                      · rw [← he8]; have := HRQ.out; omega
                      · intro y hy
                        simp only [List.mem_append, List.mem_singleton] at hy
                        rcases hy with (hy | hy) | hy
                        · exact HRO.out y (List.mem_of_mem_take hy)
                        · rw [hy]; exact hokx
                        · exact HRO.out y (List.mem_of_mem_drop hy)
            · go_simp
              refine hK.out _ _ ?_ (fun hHeld => ?_)
              · first | exact Fut.drew (by assumption) | exact Fut.alloc (by assumption) _ | assumption
              clear hK K
              try simp only [Act.put, List.setIfInBounds_toArray, List.set_cons_zero, List.set_cons_succ]
              refine wpAnyH_ready (rs := [4]) (by kernel_rfl) (by simp) ?_
              refine (AllReadyH.cons (o := { dst := some 65, op := Go.Op.call { callee := Go.Callee.builtin Go.Builtin.append, args := #[Go.Operand.tmp 61, Go.Operand.tmp 64], argTypes := #[56, 56] }, type := 56, pos := "ref.go:818", after := #[{ on := 0, ground := Go.Ground.data }, { on := 3, ground := Go.Ground.data }], guard := none }) rfl (fun K hK => ?_) AllReadyH.nil)
              · refine step_append_vals rfl (.tmp 61) (.tmp 64) rfl rfl wc.heap.size rfl (by first | exact own_zero (w := wc) (Nat.le_refl _) | exact own_zeroB wc _ | exact own_zeroC wc _) rfl HS1.out (by assumption) (by unfold maxLen; omega) (by omega) (by simp <;> omega) ?_
                intro qa qc w4 ho4 hgr4 hat4
                simp only [Nat.zero_add, List.nil_append] at ho4 ⊢
                have hG4 : Grow gq wc gq w4 := by first | exact grow_app (((Grow.refl hfk).alloc (.cells #[] 61)).drew) (fun b hb => by cases hb; exact Nat.le_refl _) hfk hgr4 | exact grow_app ((((Grow.refl hfk).alloc (.cells #[] 61)).alloc (.cells #[.int .i64 xr.k, .int .u8 xr.b, .slice xr.a xr.len xr.cap] 61)).drew) (fun b hb => by cases hb; exact Nat.le_refl _) hfk hgr4 | exact grow_app ((((Grow.refl hfk).alloc (.cells #[.int .i64 xr.k, .int .u8 xr.b, .slice xr.a xr.len xr.cap] 61)).alloc (.cells #[] 61)).drew) (fun b hb => by cases hb; exact Nat.le_succ _) hfk hgr4
                have HG4 := hid hG4
                have HO4 := hid ho4
                have HGR4 := hid hgr4
                have hf4 := hG4.fut
                clear hG4 ho4 hgr4 hat4
                refine hK.out _ _ ?_ (fun hHeld => ?_)
                · first | exact Fut.drew (by assumption) | exact Fut.alloc (by assumption) _ | assumption
                clear hK K
                try simp only [Act.put, List.setIfInBounds_toArray, List.set_cons_zero, List.set_cons_succ]
                refine wpAnyH_ready (rs := [10]) (by kernel_rfl) (by simp) ?_
                refine (AllReadyH.cons (o := { dst := some 71, op := Go.Op.call { callee := Go.Callee.builtin Go.Builtin.append, args := #[Go.Operand.tmp 65, Go.Operand.tmp 70], argTypes := #[56, 56] }, type := 56, pos := "ref.go:818", after := #[{ on := 4, ground := Go.Ground.data }, { on := 9, ground := Go.Ground.data }, { on := 4, ground := Go.Ground.chain }], guard := none }) rfl (fun K hK => ?_) AllReadyH.nil)
                · refine step_append_lies _ rfl (.tmp 65) (.tmp 70) 56 rfl wc.heap.size 61 i0 (.agg #[.int .i64 0, .int .u8 0, .slice none 0 0]) 3 40 Try.underlying56 hi hz0 hz1 hz2 rfl (by decide) _ k (rowsCells (rsR.take k)) rfl (by first | exact HO4.out | exact HO4.out.alloc _) ⟨_, 0, none⟩ 1 1 xr.cells rfl rfl (by first | exact World.news_of_block (heap_alloc_new w4 _) | exact World.news_of_block ((HGR4.out.block (wc.heap.size + 1) (by simp) (show some (wc.heap.size + 1) ≠ some wc.heap.size by simp)).trans (heap_drew_new2 wc (.cells #[] 61) (.cells #[.int .i64 xr.k, .int .u8 xr.b, .slice xr.a xr.len xr.cap] 61))) | exact World.news_of_block ((HGR4.out.block wc.heap.size (by simp <;> omega) (show some wc.heap.size ≠ some (wc.heap.size + 1) by simp)).trans (heap_drew_old2 wc (.cells #[.int .i64 xr.k, .int .u8 xr.b, .slice xr.a xr.len xr.cap] 61) (.cells #[] 61)))) (by simp [VRow.cells, Value.oneCell']) (by decide) (by unfold maxLen; omega) (by omega) (by have := HG4.out.size; first | exact this | (rw [World.size_alloc]; omega)) _ rfl ?_
                  intro kb kcap w5 ho5 hgr5 hat5 hlt5
                  have hG5 : Grow gq wc gq w5 := by first | exact grow_app HG4.out (fun b hb => (HO4.out.lt b hb).1) hfk hgr5 | exact grow_app (HG4.out.alloc _) (fun b hb => (HO4.out.lt b hb).1) hfk hgr5
                  have HG5 := hid hG5
                  have HO5 := hid ho5
                  have hf5 := hG5.fut
                  clear hG5 ho5 hgr5 hat5 hlt5
                  refine hK.out _ _ ?_ (fun hHeld => ?_)
                  · first | exact Fut.drew (by assumption) | exact Fut.alloc (by assumption) _ | assumption
                  clear hK K
                  try simp only [Act.put, List.setIfInBounds_toArray, List.set_cons_zero, List.set_cons_succ]
                  refine wpAnyH_ready (rs := [14]) (by kernel_rfl) (by simp) ?_
                  refine (AllReadyH.cons (o := { dst := some 75, op := Go.Op.call { callee := Go.Callee.builtin Go.Builtin.append, args := #[Go.Operand.tmp 71, Go.Operand.tmp 74], argTypes := #[56, 56] }, type := 56, pos := "ref.go:818", after := #[{ on := 10, ground := Go.Ground.data }, { on := 13, ground := Go.Ground.data }, { on := 10, ground := Go.Ground.chain }], guard := none }) rfl (fun K hK => ?_) AllReadyH.nil)
                  · refine step_append_vals rfl (.tmp 71) (.tmp 74) rfl rfl wc.heap.size rfl HO5.out rfl HS2.out (by assumption) (by unfold maxLen; omega) (by omega) HG5.out.size ?_
                    intro sa6 sc6 w6 ho6 hgr6 hat6
                    have hG6 : Grow gq wc gq w6 := grow_app HG5.out (fun b hb => (HO5.out.lt b hb).1) hfk hgr6
                    have HG6 := hid hG6
                    have HO6 := hid ho6
                    have hf6 := hG6.fut
                    clear hG6 ho6 hgr6 hat6
                    refine hK.out _ _ ?_ (fun hHeld => ?_)
                    · first | exact Fut.drew (by assumption) | exact Fut.alloc (by assumption) _ | assumption
                    clear hK K
                    try simp only [Act.put, List.setIfInBounds_toArray, List.set_cons_zero, List.set_cons_succ]
                    refine wpAnyH_take (i := 15) (oi := { dst := some 9, op := Go.Op.assign (Go.Operand.tmp 75), type := 56, pos := "ref.go:818", after := #[{ on := 14, ground := Go.Ground.data }, { on := 14, ground := Go.Ground.chain }, { on := 0, ground := Go.Ground.phase }, { on := 1, ground := Go.Ground.phase }, { on := 2, ground := Go.Ground.phase }, { on := 3, ground := Go.Ground.phase }, { on := 4, ground := Go.Ground.phase }, { on := 5, ground := Go.Ground.phase }, { on := 6, ground := Go.Ground.phase }, { on := 7, ground := Go.Ground.phase }, { on := 8, ground := Go.Ground.phase }, { on := 9, ground := Go.Ground.phase }, { on := 10, ground := Go.Ground.phase }, { on := 11, ground := Go.Ground.phase }, { on := 12, ground := Go.Ground.phase }, { on := 13, ground := Go.Ground.phase }, { on := 14, ground := Go.Ground.phase }], guard := none }) (v := ?_) rfl (by kernel_rfl) (by kernel_rfl) (by kernel_rfl) (fun _ _ _ h => h) (Or.inl ⟨by rfl, ?_⟩) (by assumption) ?_
                    rotate_left
                    · intro w hSw; go_simp; all_goals with_reducible rfl
                    try simp only [Act.put, List.setIfInBounds_toArray, List.set_cons_zero, List.set_cons_succ]
                    refine wpAnyH_done (by kernel_rfl) ?_ _
                    go_wp2_with fail
                    go_roundg (L.length - (q + 1))
                    case measure => omega
                    case rel =>
                      have hP : OwnP wc.heap.size gq w6 (.slice sa6 (k + 1 + (R.length - k)) sc6) (R.take k ++ [L[q]] ++ R.drop k) (rsR.take k ++ [xr] ++ rsR.drop k) := by
                        refine ⟨?_, (HS1.out.rows.app ⟨rfl, fun i r v h1 h2 => ?_⟩).app HS2.out.rows⟩
                        · have e1 : (R.take k ++ [L[q]] ++ R.drop k).length = k + 1 + (R.length - k) := by simp; omega
                          have e2 : rowsCells (rsR.take k ++ [xr] ++ rsR.drop k) = rowsCells (rsR.take k) ++ xr.cells ++ rowsCells (rsR.drop k) := by simp [rowsCells]
                          rw [e1, e2]; exact HO6.out
                        · cases i with
                          | zero => simp at h1 h2; subst h1 h2; exact HVX.out
                          | succ i => simp at h1
                      obtain ⟨g7, a7, c7, he7, hg7, hle7, hv7⟩ := hP.done HG6.out HGK.out (by simp; omega)
                      simp only [Value.slice.injEq] at he7
                      obtain ⟨rfl, he8, rfl⟩ := he7
                      refine ⟨q + 1, R.take k ++ [L[q]] ++ R.drop k, g7, sa6, sc6, by omega, by rw [he8], by go_num, ?_, HINS.out.symm, ?_, hle.trans hle7, hg7, hv7⟩
                      · rw [← he8]; have := HRQ.out; omega
                      · intro y hy
                        simp only [List.mem_append, List.mem_singleton] at hy
                        rcases hy with (hy | hy) | hy
                        · exact HRO.out y (List.mem_of_mem_take hy)
                        · rw [hy]; exact hokx
                        · exact HRO.out y (List.mem_of_mem_drop hy)
          · go_simp
            refine hK.out _ _ ?_ (fun hHeld => ?_)
            · first | exact Fut.drew (by assumption) | exact Fut.alloc (by assumption) _ | assumption
            clear hK K
            try simp only [Act.put, List.setIfInBounds_toArray, List.set_cons_zero, List.set_cons_succ]
            refine wpAnyH_ready (rs := [0]) (by kernel_rfl) (by simp) ?_
            refine (AllReadyH.cons (o := { dst := some 61, op := Go.Op.buildSlice 56 0 #[], type := 56, pos := "ref.go:818", after := #[], guard := none }) rfl (fun K hK => ?_) AllReadyH.nil)
            · go_simp
              refine hK.out _ _ ?_ (fun hHeld => ?_)
              · first | exact Fut.drew (by assumption) | exact Fut.alloc (by assumption) _ | assumption
              clear hK K
              try simp only [Act.put, List.setIfInBounds_toArray, List.set_cons_zero, List.set_cons_succ]
              refine wpAnyH_ready (rs := [4]) (by kernel_rfl) (by simp) ?_
              refine (AllReadyH.cons (o := { dst := some 65, op := Go.Op.call { callee := Go.Callee.builtin Go.Builtin.append, args := #[Go.Operand.tmp 61, Go.Operand.tmp 64], argTypes := #[56, 56] }, type := 56, pos := "ref.go:818", after := #[{ on := 0, ground := Go.Ground.data }, { on := 3, ground := Go.Ground.data }], guard := none }) rfl (fun K hK => ?_) AllReadyH.nil)
              · refine step_append_vals rfl (.tmp 61) (.tmp 64) rfl rfl wc.heap.size rfl (by first | exact own_zero (w := wc) (Nat.le_refl _) | exact own_zeroB wc _ | exact own_zeroC wc _) rfl HS1.out (by assumption) (by unfold maxLen; omega) (by omega) (by simp <;> omega) ?_
                intro qa qc w4 ho4 hgr4 hat4
                simp only [Nat.zero_add, List.nil_append] at ho4 ⊢
                have hG4 : Grow gq wc gq w4 := by first | exact grow_app (((Grow.refl hfk).alloc (.cells #[] 61)).drew) (fun b hb => by cases hb; exact Nat.le_refl _) hfk hgr4 | exact grow_app ((((Grow.refl hfk).alloc (.cells #[] 61)).alloc (.cells #[.int .i64 xr.k, .int .u8 xr.b, .slice xr.a xr.len xr.cap] 61)).drew) (fun b hb => by cases hb; exact Nat.le_refl _) hfk hgr4 | exact grow_app ((((Grow.refl hfk).alloc (.cells #[.int .i64 xr.k, .int .u8 xr.b, .slice xr.a xr.len xr.cap] 61)).alloc (.cells #[] 61)).drew) (fun b hb => by cases hb; exact Nat.le_succ _) hfk hgr4
                have HG4 := hid hG4
                have HO4 := hid ho4
                have HGR4 := hid hgr4
                have hf4 := hG4.fut
                clear hG4 ho4 hgr4 hat4
                refine hK.out _ _ ?_ (fun hHeld => ?_)
                · first | exact Fut.drew (by assumption) | exact Fut.alloc (by assumption) _ | assumption
                clear hK K
                try simp only [Act.put, List.setIfInBounds_toArray, List.set_cons_zero, List.set_cons_succ]
                refine wpAnyH_ready (rs := [10]) (by kernel_rfl) (by simp) ?_
                refine (AllReadyH.cons (o := { dst := some 71, op := Go.Op.call { callee := Go.Callee.builtin Go.Builtin.append, args := #[Go.Operand.tmp 65, Go.Operand.tmp 70], argTypes := #[56, 56] }, type := 56, pos := "ref.go:818", after := #[{ on := 4, ground := Go.Ground.data }, { on := 9, ground := Go.Ground.data }, { on := 4, ground := Go.Ground.chain }], guard := none }) rfl (fun K hK => ?_) AllReadyH.nil)
                · refine step_append_lies _ rfl (.tmp 65) (.tmp 70) 56 rfl wc.heap.size 61 i0 (.agg #[.int .i64 0, .int .u8 0, .slice none 0 0]) 3 40 Try.underlying56 hi hz0 hz1 hz2 rfl (by decide) _ k (rowsCells (rsR.take k)) rfl (by first | exact HO4.out | exact HO4.out.alloc _) ⟨_, 0, none⟩ 1 1 xr.cells rfl rfl (by first | exact World.news_of_block (heap_alloc_new w4 _) | exact World.news_of_block ((HGR4.out.block (wc.heap.size + 1) (by simp) (show some (wc.heap.size + 1) ≠ some wc.heap.size by simp)).trans (heap_drew_new2 wc (.cells #[] 61) (.cells #[.int .i64 xr.k, .int .u8 xr.b, .slice xr.a xr.len xr.cap] 61))) | exact World.news_of_block ((HGR4.out.block wc.heap.size (by simp <;> omega) (show some wc.heap.size ≠ some (wc.heap.size + 1) by simp)).trans (heap_drew_old2 wc (.cells #[.int .i64 xr.k, .int .u8 xr.b, .slice xr.a xr.len xr.cap] 61) (.cells #[] 61)))) (by simp [VRow.cells, Value.oneCell']) (by decide) (by unfold maxLen; omega) (by omega) (by have := HG4.out.size; first | exact this | (rw [World.size_alloc]; omega)) _ rfl ?_
                  intro kb kcap w5 ho5 hgr5 hat5 hlt5
                  have hG5 : Grow gq wc gq w5 := by first | exact grow_app HG4.out (fun b hb => (HO4.out.lt b hb).1) hfk hgr5 | exact grow_app (HG4.out.alloc _) (fun b hb => (HO4.out.lt b hb).1) hfk hgr5
                  have HG5 := hid hG5
                  have HO5 := hid ho5
                  have hf5 := hG5.fut
                  clear hG5 ho5 hgr5 hat5 hlt5
                  refine hK.out _ _ ?_ (fun hHeld => ?_)
                  · first | exact Fut.drew (by assumption) | exact Fut.alloc (by assumption) _ | assumption
                  clear hK K
                  try simp only [Act.put, List.setIfInBounds_toArray, List.set_cons_zero, List.set_cons_succ]
                  refine wpAnyH_ready (rs := [14]) (by kernel_rfl) (by simp) ?_
                  refine (AllReadyH.cons (o := { dst := some 75, op := Go.Op.call { callee := Go.Callee.builtin Go.Builtin.append, args := #[Go.Operand.tmp 71, Go.Operand.tmp 74], argTypes := #[56, 56] }, type := 56, pos := "ref.go:818", after := #[{ on := 10, ground := Go.Ground.data }, { on := 13, ground := Go.Ground.data }, { on := 10, ground := Go.Ground.chain }], guard := none }) rfl (fun K hK => ?_) AllReadyH.nil)
                  · refine step_append_vals rfl (.tmp 71) (.tmp 74) rfl rfl wc.heap.size rfl HO5.out rfl HS2.out (by assumption) (by unfold maxLen; omega) (by omega) HG5.out.size ?_
                    intro sa6 sc6 w6 ho6 hgr6 hat6
                    have hG6 : Grow gq wc gq w6 := grow_app HG5.out (fun b hb => (HO5.out.lt b hb).1) hfk hgr6
                    have HG6 := hid hG6
                    have HO6 := hid ho6
                    have hf6 := hG6.fut
                    clear hG6 ho6 hgr6 hat6
                    refine hK.out _ _ ?_ (fun hHeld => ?_)
                    · first | exact Fut.drew (by assumption) | exact Fut.alloc (by assumption) _ | assumption
                    clear hK K
                    try simp only [Act.put, List.setIfInBounds_toArray, List.set_cons_zero, List.set_cons_succ]
                    refine wpAnyH_take (i := 15) (oi := { dst := some 9, op := Go.Op.assign (Go.Operand.tmp 75), type := 56, pos := "ref.go:818", after := #[{ on := 14, ground := Go.Ground.data }, { on := 14, ground := Go.Ground.chain }, { on := 0, ground := Go.Ground.phase }, { on := 1, ground := Go.Ground.phase }, { on := 2, ground := Go.Ground.phase }, { on := 3, ground := Go.Ground.phase }, { on := 4, ground := Go.Ground.phase }, { on := 5, ground := Go.Ground.phase }, { on := 6, ground := Go.Ground.phase }, { on := 7, ground := Go.Ground.phase }, { on := 8, ground := Go.Ground.phase }, { on := 9, ground := Go.Ground.phase }, { on := 10, ground := Go.Ground.phase }, { on := 11, ground := Go.Ground.phase }, { on := 12, ground := Go.Ground.phase }, { on := 13, ground := Go.Ground.phase }, { on := 14, ground := Go.Ground.phase }], guard := none }) (v := ?_) rfl (by kernel_rfl) (by kernel_rfl) (by kernel_rfl) (fun _ _ _ h => h) (Or.inl ⟨by rfl, ?_⟩) (by assumption) ?_
                    rotate_left
                    · intro w hSw; go_simp; all_goals with_reducible rfl
                    try simp only [Act.put, List.setIfInBounds_toArray, List.set_cons_zero, List.set_cons_succ]
                    refine wpAnyH_done (by kernel_rfl) ?_ _
                    go_wp2_with fail
                    go_roundg (L.length - (q + 1))
                    case measure => omega
                    case rel =>
                      have hP : OwnP wc.heap.size gq w6 (.slice sa6 (k + 1 + (R.length - k)) sc6) (R.take k ++ [L[q]] ++ R.drop k) (rsR.take k ++ [xr] ++ rsR.drop k) := by
                        refine ⟨?_, (HS1.out.rows.app ⟨rfl, fun i r v h1 h2 => ?_⟩).app HS2.out.rows⟩
                        · have e1 : (R.take k ++ [L[q]] ++ R.drop k).length = k + 1 + (R.length - k) := by simp; omega
                          have e2 : rowsCells (rsR.take k ++ [xr] ++ rsR.drop k) = rowsCells (rsR.take k) ++ xr.cells ++ rowsCells (rsR.drop k) := by simp [rowsCells]
                          rw [e1, e2]; exact HO6.out
                        · cases i with
                          | zero => simp at h1 h2; subst h1 h2; exact HVX.out
                          | succ i => simp at h1
                      obtain ⟨g7, a7, c7, he7, hg7, hle7, hv7⟩ := hP.done HG6.out HGK.out (by simp; omega)
                      simp only [Value.slice.injEq] at he7
                      obtain ⟨rfl, he8, rfl⟩ := he7
                      refine ⟨q + 1, R.take k ++ [L[q]] ++ R.drop k, g7, sa6, sc6, by omega, by rw [he8], by go_num, ?_, HINS.out.symm, ?_, hle.trans hle7, hg7, hv7⟩
                      · rw [← he8]; have := HRQ.out; omega
                      · intro y hy
                        simp only [List.mem_append, List.mem_singleton] at hy
                        rcases hy with (hy | hy) | hy
                        · exact HRO.out y (List.mem_of_mem_take hy)
                        · rw [hy]; exact hokx
                        · exact HRO.out y (List.mem_of_mem_drop hy)
      · obtain rfl : q = L.length := by omega
        have e : R = RES := by rw [HRE.out, List.take_length]; exact HRES.out
        go_wp2_with fail
        go_ret2
        rw [← e]
        exact ⟨gq, ra, rc, rfl, HG.out, HVR.out⟩
end Go.Proofs.Ytjodmimnbpgfcaa
