/- The reference's every, walked: a star. A library text: no claim is stated here. -/
import Derived.Test.YtjodmimnbpgfcaaS30

/- EvE -/
namespace Go.Proofs.Ytjodmimnbpgfcaa
open Go.RowKit Go.IntWalk

/-- Items in front of stars. -/
def itemsV (A B : List Val) : List Val := A.flatMap fun x => B.map fun y => Val.mk 6 0 (x :: y.l)
theorem itemsV_snoc (A B : List Val) {i : Nat} (hi : i < A.length) : itemsV (A.take (i + 1)) B = itemsV (A.take i) B ++ B.map fun y => Val.mk 6 0 (A[i] :: y.l) := by
  unfold itemsV
  rw [List.take_add_one, List.getElem?_eq_getElem hi, List.flatMap_append]
  simp

theorem own_one {w : World} {r : VRow} {base : Nat} (hb : base ≤ w.heap.size) : (w.alloc (.cells #[.int .i64 r.k, .int .u8 r.b, .slice r.a r.len r.cap] 61)).ownsRow base 61 3 (.slice (some ⟨w.heap.size, 0, none⟩) 1 1) 1 r.cells :=
  ⟨rfl, .inr ⟨w.heap.size, 1, _, rfl, hb, heap_alloc_new w _, Nat.le_refl _, by unfold maxLen; omega, rfl, rfl⟩⟩

theorem ValV.rest {g : G} {r : VRow} {v : Val} (h : ValV g r v) : ValsV g r.a r.len r.cap v.l ∧ r.len = v.l.length := by
  cases h with
  | nil k b => exact ⟨.nil 0 0, rfl⟩
  | row k b blk off cap l f hpos hcap hm hc hr => exact ⟨.row 0 0 blk off cap l f hpos hcap hm hc hr, rfl⟩

/-- A row behind the append of an item and the star's rest. -/
theorem star_row {gj : G} {wr w4 : World} {la : Option Addr} {lc : Nat} {ra rb : VRow} {x y : Val} {rs : List VRow} (hw : Fut gj wr) (hx : ValV gj ra x) (hsrc : SrcV gj rb.a rb.len y.l rs) (hm : rb.len = y.l.length)
    (ho : w4.ownsRow wr.heap.size 61 3 (.slice la (1 + rb.len) lc) (1 + rb.len) (ra.cells ++ rowsCells rs))
    (hgr : (wr.alloc (.cells #[.int .i64 ra.k, .int .u8 ra.b, .slice ra.a ra.len ra.cap] 61)).drew.grownBy w4 (Value.ownBlock (.slice (some ⟨wr.heap.size, 0, none⟩) 1 1)))
 :
    ∃ g6, Grow gj wr g6 w4 ∧ ValV g6 ⟨6, 0, la, 1 + rb.len, lc⟩ (.mk 6 0 (x :: y.l)) := by
  have hG : Grow gj wr gj w4 := ((Grow.refl hw).alloc _).drew.grown hgr (fun k hk => by
    simp only [Value.ownBlock, Option.some.injEq] at hk
    subst hk
    exact ⟨Nat.le_refl _, hw.none_of_size (Nat.le_refl _)⟩)
  have hO : OwnV wr.heap.size gj w4 (.slice la (1 + rb.len) lc) (x :: y.l) (ra :: rs) := by
    refine ⟨?_, by simp [hsrc.rows.1], fun i r c h1 h2 => ?_, fun k hk => ?_, fun e => by simp at e⟩
    · have e : rowsCells (ra :: rs) = ra.cells ++ rowsCells rs := by simp [rowsCells]
      have e2 : (x :: y.l).length = 1 + rb.len := by rw [hm]; simp; omega
      rw [e, e2]; exact ho
    · cases i with
      | zero => simp at h1 h2; subst h1 h2; exact hx
      | succ i => exact hsrc.rows.2 i r c (by simpa using h1) (by simpa using h2)
    · have := (ho.lt k hk).1
      exact hw.none_of_size this
  obtain ⟨g', a, cap, he, hg, hle, hv, -⟩ := hO.keep hG (Nat.le_refl _) 6 0
  simp only [Value.slice.injEq] at he
  obtain ⟨rfl, h2, rfl⟩ := he
  rw [← h2] at hv
  exact ⟨g', hg, hv⟩

set_option maxRecDepth 100000 in
set_option maxHeartbeats 1000000 in
theorem ev_star_nil {g : G} (s : Set4) (n : Int) (a : Option Addr) (len cap : Nat) (most : Int) {sa : Option Addr} {sc : Nat} (w : World) (hw : Fut g w) :
    Calls Try.prog 40 #[.agg (cellsR ⟨5, s, n, a, len, cap⟩), .slice sa 0 sc, .int .i64 most] w (EvPost g [.mk 6 0 []] w) := by
  obtain ⟨i0, hi, hz0, hz1, hz2⟩ := info_parts Try.info61
  obtain ⟨g1, hg1, c0, cs, cn, cl, cv⟩ := box_ref hw ⟨5, s, n, a, len, cap⟩
  have hf1 := hg1.fut
  have HG1 := hid hg1
  clear cs cv hg1
  have HE := hid ((EInv.start HG1.out).go ((Grow.refl hf1).alloc (.cells #[.int .i64 6, .int .u8 0, .slice none 0 0] 61)))
  go_enter Try.func40, Try.ntmps40
  go_wp2_with (first | (at_builtin; refine wpList_append_lies _ rfl (.tmp 178) (.tmp 180) 56 rfl _ 61 i0 (.agg #[.int .i64 0, .int .u8 0, .slice none 0 0]) 3 40 Try.underlying56 hi hz0 hz1 hz2 rfl (by decide) _ 0 (rowsCells _) rfl (HE.out.rowN rfl) ⟨w.heap.size + 1, 0, none⟩ 1 1 (VRow.cells ⟨6, 0, none, 0, 0⟩) rfl rfl (World.news_of_block (by simpa using heap_alloc_new (World.alloc _ _) _)) (by simp [VRow.cells, Value.oneCell']) (by decide) (by unfold maxLen; omega) (by omega) HE.out.base _ rfl ?_; intro kb kcap w3 hown3 hgrow3 hat3 hlt3; have HF := hid (HE.out.app rfl (r2 := ⟨6, 0, none, 0, 0⟩) (.nil 6 0) hown3 hgrow3 hat3); clear hown3 hgrow3 hat3 hlt3) | fail)
  refine wp_loop_rounds 1 ?_; rw [rounds_succ]
  go_wp2_with fail
  go_ret
  exact HF.out.done rfl

set_option maxRecDepth 100000 in
set_option maxHeartbeats 4000000 in
theorem ev_star {g : G} (s : Set4) (n : Int) {b off : Nat} (cap : Nat) {r0 : CRow} {FA FS : List UInt8 → List Val} (m : Nat) (most : Int) (hmm : (m : Int) = most + 1) (hm2 : m ≤ 2001) (hr0 : ∀ w', Fut g w' → w'.rangeAt b off (cellsR r0).toList) (H0 : EvSpec g most r0 FA) (hFA : ∀ u, (FA u).length ≤ m) (hFS : ∀ u, (FS u).length ≤ m ∧ ∀ y ∈ FS u, y.l.length ≤ u.length) {sa : Option Addr} {sc : Nat} (u : List UInt8) (hu0 : u ≠ []) (hu : u.length ≤ 1000) (hsl : SliceV g sa u.length sc (u.map byteV))
    (HS : ∀ k, 1 ≤ k → k ≤ u.length → ∀ g', g.Le g' → ∀ w, Fut g' w → Calls Try.prog 40 #[.agg (cellsR ⟨5, s, n, some ⟨b, off, none⟩, 1, cap⟩), .slice (tailA sa sc k 1) (u.length - k) (sc - k), .int .i64 most] w (EvPost g' (FS (u.drop k)) w)) (w : World) (hw : Fut g w) :
    Calls Try.prog 40 #[.agg (cellsR ⟨5, s, n, some ⟨b, off, none⟩, 1, cap⟩), .slice sa u.length sc, .int .i64 most] w (EvPost g (((List.range u.length).flatMap fun k => itemsV (FA (u.take (k + 1))) (FS (u.drop (k + 1)))).take m) w) := by
  obtain ⟨i0, hi, hz0, hz1, hz2⟩ := info_parts Try.info61
  obtain ⟨g1, hg1, c0, cs, cn, cl, cv⟩ := box_ref hw ⟨5, s, n, some ⟨b, off, none⟩, 1, cap⟩
  have hf1 := hg1.fut
  have hle1 := hg1.le
  have hscu := hsl.length.2.1
  have HA := hid (fun (k : Nat) (hk : k ≤ u.length) => H0.part hu hsl hk)
  have HB := hid HS
  have HR0 := hid (fun w' (hw' : Fut g1 w') => hr0 w' (hw'.le hle1))
  have HCV := hid cv
  have HG1 := hid hg1
  have hul : ((u.length : Int) == 0) = false := by simpa using hu0
  clear cs cv hg1 hr0 H0 HS
  generalize hRES : ((List.range u.length).flatMap fun k => itemsV (FA (u.take (k + 1))) (FS (u.drop (k + 1)))).take m = RES
  have HRES := hid hRES
  clear hRES
  go_enter Try.func40, Try.ntmps40
  go_wp2_with fail
  go_loopg [7, 17] u.length (fun rem s7 i wr => ∃ (k n7 : Nat) (gq : G) (la : Option Addr) (lc : Nat) (rs : List VRow), k + rem = u.length ∧ s7 = .slice la n7 lc ∧ (((List.range k).flatMap fun k => itemsV (FA (u.take (k + 1))) (FS (u.drop (k + 1)))).take m).length = n7 ∧ i = .int .i64 ((k : Int) + 1) ∧ g1.Le gq ∧ EInv g w (((List.range k).flatMap fun k => itemsV (FA (u.take (k + 1))) (FS (u.drop (k + 1)))).take m) gq wr la lc rs)
  case atStart => exact ⟨0, 0, g1, none, 0, [], by omega, rfl, by simp, rfl, G.Le.refl _, by simpa using EInv.start HG1.out⟩
  case round =>
    obtain ⟨k, n7, gq, la, lc, rs, hk, rfl, hn7, rfl, hle2, hI⟩ := hrel
    have hn7m : n7 ≤ m := by rw [← hn7, List.length_take]; omega
    have hfq := hI.grow.fut
    have d3 := fun w' (h : Fut gq w') => cl w' (h.le hle2)
    have HE0 := hid hI
    clear hI hf1 HG1
    by_cases hku : k < u.length
    · by_cases hroom : (n7 : Int) ≤ most
      · have HAk := hid (fun g' (hle : g1.Le g') => HA.out (k + 1) hku g' (hle1.trans hle))
        have HBk := hid (fun g' (hle : g1.Le g') => HB.out (k + 1) (by omega) hku g' (hle1.trans hle))
        have hAl := hFA (u.take (k + 1))
        have hBl := (hFS (u.drop (k + 1))).1
        have hBy := (hFS (u.drop (k + 1))).2
        have hdl : (u.drop (k + 1)).length ≤ 1000 := by simp; omega
        have hP : (List.range (k + 1)).flatMap (fun k => itemsV (FA (u.take (k + 1))) (FS (u.drop (k + 1)))) = (List.range k).flatMap (fun k => itemsV (FA (u.take (k + 1))) (FS (u.drop (k + 1)))) ++ itemsV (FA (u.take (k + 1))) (FS (u.drop (k + 1))) := by
          rw [List.range_succ, List.flatMap_append]; simp
        generalize FA (u.take (k + 1)) = A at HAk hAl hP
        generalize FS (u.drop (k + 1)) = B at HBk hBl hBy hP
        generalize hPd : (List.range k).flatMap (fun k => itemsV (FA (u.take (k + 1))) (FS (u.drop (k + 1)))) = P at HE0 hn7 hP
        have HBY := hid hBy
        clear HA HB hFA hFS hBy
        go_upto_region 39 with fail
        refine wp_region_held_drew (S := (fun w' => Fut gq w')) (by kernel_rfl) hfq.drew ?_
        intro hS0
        refine wpAnyH_take (i := 0) (oi := { dst := some 194, op := Go.Op.fieldAddr 54 (Go.Operand.tmp 3) 3, type := 0, pos := "ref.go:781", after := #[], guard := none }) (v := ?_) rfl (by kernel_rfl) (by kernel_rfl) (by kernel_rfl) (fun _ _ _ h => h) (Or.inl ⟨by rfl, ?_⟩) (by assumption) ?_
        rotate_left
        · intro w hSw; have hS1 := hSw.le hle2; go_simp; all_goals with_reducible rfl
        try simp only [Act.put, List.setIfInBounds_toArray, List.set_cons_zero, List.set_cons_succ]
        refine wpAnyH_take (i := 1) (oi := { dst := some 195, op := Go.Op.load 52 (Go.Operand.tmp 194), type := 52, pos := "ref.go:781", after := #[{ on := 0, ground := Go.Ground.data }], guard := none }) (v := ?_) rfl (by kernel_rfl) (by kernel_rfl) (by kernel_rfl) (fun _ _ _ h => h) (Or.inl ⟨by rfl, ?_⟩) (by assumption) ?_
        rotate_left
        · intro w hSw; have hS1 := hSw.le hle2; go_simp; all_goals with_reducible rfl
        try simp only [Act.put, List.setIfInBounds_toArray, List.set_cons_zero, List.set_cons_succ]
        refine wpAnyH_take (i := 2) (oi := { dst := some 196, op := Go.Op.indexAddr 52 (Go.Operand.tmp 195) (Go.Operand.const (Go.Value.int Go.IntKind.i64 0)), type := 0, pos := "ref.go:781", after := #[{ on := 1, ground := Go.Ground.data }], guard := none }) (v := ?_) rfl (by kernel_rfl) (by kernel_rfl) (by kernel_rfl) (fun _ _ _ h => h) (Or.inl ⟨by rfl, ?_⟩) (by assumption) ?_
        rotate_left
        · intro w hSw; have hS1 := hSw.le hle2; go_simp; all_goals with_reducible rfl
        try simp only [Act.put, List.setIfInBounds_toArray, List.set_cons_zero, List.set_cons_succ]
        refine wpAnyH_take (i := 3) (oi := { dst := some 197, op := Go.Op.load 54 (Go.Operand.tmp 196), type := 54, pos := "ref.go:781", after := #[{ on := 2, ground := Go.Ground.data }], guard := none }) (v := ?_) rfl (by kernel_rfl) (by kernel_rfl) (by kernel_rfl) (fun _ _ _ h => h) (Or.inl ⟨by rfl, ?_⟩) (by assumption) ?_
        rotate_left
        · intro w hSw; refine exec_load54 (x := .tmp 196) (r := r0) ?_ ?_ (HR0.out _ (hSw.le hle2)) <;> rfl
        try simp only [Act.put, List.setIfInBounds_toArray, List.set_cons_zero, List.set_cons_succ]
        refine wpAnyH_take (i := 4) (oi := { dst := some 198, op := Go.Op.move (Go.Operand.tmp 1), type := 28, pos := "ref.go:781", after := #[], guard := none }) (v := ?_) rfl (by kernel_rfl) (by kernel_rfl) (by kernel_rfl) (fun _ _ _ h => h) (Or.inl ⟨by rfl, ?_⟩) (by assumption) ?_
        rotate_left
        · intro w hSw; have hS1 := hSw.le hle2; go_simp; all_goals with_reducible rfl
        try simp only [Act.put, List.setIfInBounds_toArray, List.set_cons_zero, List.set_cons_succ]
        refine wpAnyH_take (i := 5) (oi := { dst := some 199, op := Go.Op.move (Go.Operand.tmp 17), type := 3, pos := "ref.go:781", after := #[], guard := none }) (v := ?_) rfl (by kernel_rfl) (by kernel_rfl) (by kernel_rfl) (fun _ _ _ h => h) (Or.inl ⟨by rfl, ?_⟩) (by assumption) ?_
        rotate_left
        · intro w hSw; have hS1 := hSw.le hle2; go_simp; all_goals with_reducible rfl
        try simp only [Act.put, List.setIfInBounds_toArray, List.set_cons_zero, List.set_cons_succ]
        refine wpAnyH_take (i := 6) (oi := { dst := some 200, op := Go.Op.slice 28 (Go.Operand.tmp 198) none (some (Go.Operand.tmp 199)) none, type := 28, pos := "ref.go:781", after := #[{ on := 4, ground := Go.Ground.data }, { on := 5, ground := Go.Ground.data }], guard := none }) (v := ?_) rfl (by kernel_rfl) (by kernel_rfl) (by kernel_rfl) (fun _ _ _ h => h) (Or.inl ⟨by rfl, ?_⟩) (by assumption) ?_
        rotate_left
        · intro w hSw; refine exec_take28 (x := .tmp 198) (y := .tmp 199) (sa := sa) (n := u.length) (sc := sc) (k := k + 1) ?_ ?_ ?_ (by omega) <;> rfl
        try simp only [Act.put, List.setIfInBounds_toArray, List.set_cons_zero, List.set_cons_succ]
        refine wpAnyH_take (i := 7) (oi := { dst := some 201, op := Go.Op.move (Go.Operand.tmp 2), type := 3, pos := "ref.go:781", after := #[], guard := none }) (v := ?_) rfl (by kernel_rfl) (by kernel_rfl) (by kernel_rfl) (fun _ _ _ h => h) (Or.inl ⟨by rfl, ?_⟩) (by assumption) ?_
        rotate_left
        · intro w hSw; have hS1 := hSw.le hle2; go_simp; all_goals with_reducible rfl
        try simp only [Act.put, List.setIfInBounds_toArray, List.set_cons_zero, List.set_cons_succ]
        refine wpAnyH_ready (rs := [8]) (by kernel_rfl) (by simp) ?_
        refine (AllReadyH.cons (o := { dst := some 202, op := Go.Op.call { callee := Go.Callee.value (Go.Operand.func 40), args := #[Go.Operand.tmp 197, Go.Operand.tmp 200, Go.Operand.tmp 201], argTypes := #[54, 28, 3] }, type := 56, pos := "ref.go:781", after := #[{ on := 3, ground := Go.Ground.data }, { on := 6, ground := Go.Ground.data }, { on := 7, ground := Go.Ground.data }], guard := none }) rfl (fun K hK => ?_) AllReadyH.nil)
        · go_simp
          refine (HAk.out gq hle2 _ (by assumption)).mono ?_
          rintro e w2 ⟨g2, aa, ac, rfl, hg2, hv2⟩
          have hf2 := hg2.fut
          have HG2 := hid ((Grow.refl hfq).drew.trans hg2)
          have HV2 := hid hv2
          have hfq2 := hg2.fut.le hg2.le
          clear hg2 hv2
          try go_wp2_with fail
          refine hK.out _ _ ?_ (fun hHeld => ?_)
          · first | exact Fut.drew (by assumption) | exact Fut.alloc (by assumption) _ | assumption
          clear hK K
          try simp only [Act.put, List.setIfInBounds_toArray, List.set_cons_zero, List.set_cons_succ]
          refine wpAnyH_take (i := 9) (oi := { dst := some 18, op := Go.Op.assign (Go.Operand.tmp 202), type := 56, pos := "ref.go:781", after := #[{ on := 8, ground := Go.Ground.data }, { on := 8, ground := Go.Ground.chain }, { on := 0, ground := Go.Ground.phase }, { on := 1, ground := Go.Ground.phase }, { on := 2, ground := Go.Ground.phase }, { on := 3, ground := Go.Ground.phase }, { on := 4, ground := Go.Ground.phase }, { on := 5, ground := Go.Ground.phase }, { on := 6, ground := Go.Ground.phase }, { on := 7, ground := Go.Ground.phase }, { on := 8, ground := Go.Ground.phase }], guard := none }) (v := ?_) rfl (by kernel_rfl) (by kernel_rfl) (by kernel_rfl) (fun _ _ _ h => h) (Or.inl ⟨by rfl, ?_⟩) (by assumption) ?_
          rotate_left
          · intro w hSw; have hS1 := hSw.le hle2; go_simp; all_goals with_reducible rfl
          try simp only [Act.put, List.setIfInBounds_toArray, List.set_cons_zero, List.set_cons_succ]
          refine wpAnyH_done (by kernel_rfl) ?_ _
          by_cases hA0 : A.length = 0
          · have hA0' : ((A.length : Int) == 0) = true := by simp [hA0]
            go_wp2_with fail
            go_roundg (u.length - (k + 1))
            case measure => omega
            case rel =>
              have hA : A = [] := List.eq_nil_of_length_eq_zero hA0
              subst hA
              have e : itemsV [] B = [] := rfl
              rw [e, List.append_nil] at hP
              exact ⟨k + 1, n7, g2, la, lc, rs, by omega, rfl, by rw [hP]; exact hn7, by go_num, hle2.trans HG2.out.le, by rw [hP]; exact HE0.out.go HG2.out⟩
          · have hA0' : ((A.length : Int) == 0) = false := by simp; intro e; exact hA0 (by rw [e]; rfl)
            have hle3 := hle2.trans HG2.out.le
            clear cl
            go_upto_region 41 with fail
            refine wp_region_held_drew (S := (fun w' => Fut g2 w')) (by kernel_rfl) hf2.drew ?_
            intro hS0
            refine wpAnyH_take (i := 0) (oi := { dst := some 206, op := Go.Op.load 54 (Go.Operand.tmp 3), type := 54, pos := "ref.go:785", after := #[], guard := none }) (v := ?_) rfl (by kernel_rfl) (by kernel_rfl) (by kernel_rfl) (fun _ _ _ h => h) (Or.inl ⟨by rfl, ?_⟩) (by assumption) ?_
            rotate_left
            · intro w hSw; refine exec_load54 (x := .tmp 3) (r := ⟨5, s, n, some ⟨b, off, none⟩, 1, cap⟩) ?_ ?_ (HCV.out _ (hSw.le hle3)) <;> rfl
            try simp only [Act.put, List.setIfInBounds_toArray, List.set_cons_zero, List.set_cons_succ]
            refine wpAnyH_take (i := 1) (oi := { dst := some 207, op := Go.Op.move (Go.Operand.tmp 1), type := 28, pos := "ref.go:785", after := #[], guard := none }) (v := ?_) rfl (by kernel_rfl) (by kernel_rfl) (by kernel_rfl) (fun _ _ _ h => h) (Or.inl ⟨by rfl, ?_⟩) (by assumption) ?_
            rotate_left
            · intro w hSw; have hS1 := hSw.le hle3; go_simp; all_goals with_reducible rfl
            try simp only [Act.put, List.setIfInBounds_toArray, List.set_cons_zero, List.set_cons_succ]
            refine wpAnyH_take (i := 2) (oi := { dst := some 208, op := Go.Op.move (Go.Operand.tmp 17), type := 3, pos := "ref.go:785", after := #[], guard := none }) (v := ?_) rfl (by kernel_rfl) (by kernel_rfl) (by kernel_rfl) (fun _ _ _ h => h) (Or.inl ⟨by rfl, ?_⟩) (by assumption) ?_
            rotate_left
            · intro w hSw; have hS1 := hSw.le hle3; go_simp; all_goals with_reducible rfl
            try simp only [Act.put, List.setIfInBounds_toArray, List.set_cons_zero, List.set_cons_succ]
            refine wpAnyH_take (i := 3) (oi := { dst := some 209, op := Go.Op.slice 28 (Go.Operand.tmp 207) (some (Go.Operand.tmp 208)) none none, type := 28, pos := "ref.go:785", after := #[{ on := 1, ground := Go.Ground.data }, { on := 2, ground := Go.Ground.data }], guard := none }) (v := ?_) rfl (by kernel_rfl) (by kernel_rfl) (by kernel_rfl) (fun _ _ _ h => h) (Or.inl ⟨by rfl, ?_⟩) (by assumption) ?_
            rotate_left
            · intro w hSw; refine exec_drop28 (x := .tmp 207) (y := .tmp 208) (sa := sa) (n := u.length) (sc := sc) (k := k + 1) ?_ ?_ ?_ (by omega) <;> rfl
            try simp only [Act.put, List.setIfInBounds_toArray, List.set_cons_zero, List.set_cons_succ]
            refine wpAnyH_take (i := 4) (oi := { dst := some 210, op := Go.Op.move (Go.Operand.tmp 2), type := 3, pos := "ref.go:785", after := #[], guard := none }) (v := ?_) rfl (by kernel_rfl) (by kernel_rfl) (by kernel_rfl) (fun _ _ _ h => h) (Or.inl ⟨by rfl, ?_⟩) (by assumption) ?_
            rotate_left
            · intro w hSw; have hS1 := hSw.le hle3; go_simp; all_goals with_reducible rfl
            try simp only [Act.put, List.setIfInBounds_toArray, List.set_cons_zero, List.set_cons_succ]
            refine wpAnyH_ready (rs := [5]) (by kernel_rfl) (by simp) ?_
            refine (AllReadyH.cons (o := { dst := some 211, op := Go.Op.call { callee := Go.Callee.value (Go.Operand.func 40), args := #[Go.Operand.tmp 206, Go.Operand.tmp 209, Go.Operand.tmp 210], argTypes := #[54, 28, 3] }, type := 56, pos := "ref.go:785", after := #[{ on := 0, ground := Go.Ground.data }, { on := 3, ground := Go.Ground.data }, { on := 4, ground := Go.Ground.data }], guard := none }) rfl (fun K hK => ?_) AllReadyH.nil)
            · go_simp
              refine (HBk.out g2 hle3 _ (by assumption)).mono ?_
              rintro e w3 ⟨g3, ba, bc, rfl, hg3, hv3⟩
              have hf3 := hg3.fut
              have HG3 := hid ((Grow.refl hf2).drew.trans hg3)
              have HV3 := hid hv3
              have hfq3 := hg3.fut.le hg3.le
              clear hg3 hv3
              try go_wp2_with fail
              refine hK.out _ _ ?_ (fun hHeld => ?_)
              · first | exact Fut.drew (by assumption) | exact Fut.alloc (by assumption) _ | assumption
              clear hK K
              try simp only [Act.put, List.setIfInBounds_toArray, List.set_cons_zero, List.set_cons_succ]
              refine wpAnyH_take (i := 6) (oi := { dst := some 19, op := Go.Op.assign (Go.Operand.tmp 211), type := 56, pos := "ref.go:785", after := #[{ on := 5, ground := Go.Ground.data }, { on := 5, ground := Go.Ground.chain }, { on := 0, ground := Go.Ground.phase }, { on := 1, ground := Go.Ground.phase }, { on := 2, ground := Go.Ground.phase }, { on := 3, ground := Go.Ground.phase }, { on := 4, ground := Go.Ground.phase }, { on := 5, ground := Go.Ground.phase }], guard := none }) (v := ?_) rfl (by kernel_rfl) (by kernel_rfl) (by kernel_rfl) (fun _ _ _ h => h) (Or.inl ⟨by rfl, ?_⟩) (by assumption) ?_
              rotate_left
              · intro w hSw; have hS1 := hSw.le hle3; go_simp; all_goals with_reducible rfl
              try simp only [Act.put, List.setIfInBounds_toArray, List.set_cons_zero, List.set_cons_succ]
              refine wpAnyH_done (by kernel_rfl) ?_ _
              have HE1 := hid ((HE0.out.go HG2.out).go HG3.out)
              have HVA : Hid (ValsV g3 aa A.length ac A) := hid (ValV.le HV2.out HG3.out.le)
              have hle5 := hle3.trans HG3.out.le
              clear HE0 HG2 HG3 HV2 HAk HBk d3 hfq2 hfq
              go_wp2_with fail
              go_loopg [7, 20] A.length (fun rem s7 i wr => ∃ (p n8 : Nat) (gp : G) (la : Option Addr) (lc : Nat) (rs : List VRow), p + rem = A.length ∧ s7 = .slice la n8 lc ∧ ((P ++ itemsV (A.take p) B).take m).length = n8 ∧ i = .int .i64 p ∧ g3.Le gp ∧ EInv g w ((P ++ itemsV (A.take p) B).take m) gp wr la lc rs)
              case atStart => exact ⟨0, n7, g3, la, lc, rs, by omega, rfl, by simpa [itemsV] using hn7, rfl, G.Le.refl _, by simpa [itemsV] using HE1.out⟩
              case round =>
                clear HE1
                obtain ⟨p, n8, gp, la1, lc1, rs1, hp, rfl, hn8, rfl, hle6, hI⟩ := hrel
                by_cases hlt : p < A.length
                · have HE2 := hid hI
                  clear hI
                  go_wp2_with fail
                  go_loopg [7, 21] B.length (fun rem s7 i wr => ∃ (j n9 : Nat) (gj : G) (la : Option Addr) (lc : Nat) (rs : List VRow), j + rem = B.length ∧ s7 = .slice la n9 lc ∧ ((P ++ itemsV (A.take p) B ++ (B.take j).map fun y => Val.mk 6 0 (A[p] :: y.l)).take m).length = n9 ∧ i = .int .i64 j ∧ g3.Le gj ∧ EInv g w ((P ++ itemsV (A.take p) B ++ (B.take j).map fun y => Val.mk 6 0 (A[p] :: y.l)).take m) gj wr la lc rs)
                  case atStart => exact ⟨0, n8, gp, la1, lc1, rs1, by omega, rfl, by simpa using hn8, rfl, hle6, by simpa using HE2.out⟩
                  case round =>
                    clear HE2
                    obtain ⟨j, n9, gj, la2, lc2, rs2, hj, rfl, hn9, rfl, hle7, hI⟩ := hrel
                    have hn9m : n9 ≤ m := by rw [← hn9, List.length_take]; omega
                    have hfj := hI.grow.fut
                    by_cases hjt : j < B.length
                    · by_cases hroom2 : (n9 : Int) ≤ most
                      · obtain ⟨ab, ao, ra, rfl, hca, hva, -⟩ := HVA.out.at hlt
                        obtain ⟨bb, bo, rb, rfl, hcb, hvb, -⟩ := HV3.out.at hjt
                        have hac := HVA.out.len.2
                        have hbc := HV3.out.len.2
                        obtain ⟨a0, a1, a2⟩ := hca.le hle7
                        obtain ⟨b0, b1, b2⟩ := hcb.le hle7
                        have hpi : (p : Int) < A.length := by omega
                        have hji : (j : Int) < B.length := by omega
                        obtain ⟨hsv, hsn⟩ := hvb.rest
                        obtain ⟨rsy, hsrc⟩ := hsv.src
                        have hyl := HBY.out B[j] (List.getElem_mem _)
                        have HXV := hid (hva.le hle7)
                        have HSRC := hid (hsrc.le hle7)
                        have HE := hid hI
                        have HSN := hid hsn
                        have hyl2 : rb.len ≤ 1000 := by omega
                        clear hsn
                        clear hI hca hcb hva hvb hsv hsrc
                        go_upto_region 48 with fail
                        refine wp_region_held_drew (S := (fun w' => Fut gj w')) (by kernel_rfl) hfj.drew ?_
                        intro hS0
                        refine wpAnyH_take (i := 0) (oi := { dst := some 230, op := Go.Op.move (Go.Operand.tmp 7), type := 56, pos := "ref.go:788", after := #[], guard := none }) (v := ?_) rfl (by kernel_rfl) (by kernel_rfl) (by kernel_rfl) (fun _ _ _ h => h) (Or.inl ⟨by rfl, ?_⟩) (by assumption) ?_
                        rotate_left
                        · intro w hSw; go_simp; all_goals with_reducible rfl
                        try simp only [Act.put, List.setIfInBounds_toArray, List.set_cons_zero, List.set_cons_succ]
                        refine wpAnyH_take (i := 1) (oi := { dst := some 231, op := Go.Op.move (Go.Operand.tmp 18), type := 56, pos := "ref.go:788", after := #[], guard := none }) (v := ?_) rfl (by kernel_rfl) (by kernel_rfl) (by kernel_rfl) (fun _ _ _ h => h) (Or.inl ⟨by rfl, ?_⟩) (by assumption) ?_
                        rotate_left
                        · intro w hSw; go_simp; all_goals with_reducible rfl
                        try simp only [Act.put, List.setIfInBounds_toArray, List.set_cons_zero, List.set_cons_succ]
                        refine wpAnyH_take (i := 2) (oi := { dst := some 232, op := Go.Op.move (Go.Operand.tmp 20), type := 3, pos := "ref.go:788", after := #[], guard := none }) (v := ?_) rfl (by kernel_rfl) (by kernel_rfl) (by kernel_rfl) (fun _ _ _ h => h) (Or.inl ⟨by rfl, ?_⟩) (by assumption) ?_
                        rotate_left
                        · intro w hSw; go_simp; all_goals with_reducible rfl
                        try simp only [Act.put, List.setIfInBounds_toArray, List.set_cons_zero, List.set_cons_succ]
                        refine wpAnyH_take (i := 3) (oi := { dst := some 233, op := Go.Op.indexAddr 56 (Go.Operand.tmp 231) (Go.Operand.tmp 232), type := 0, pos := "ref.go:788", after := #[{ on := 1, ground := Go.Ground.data }, { on := 2, ground := Go.Ground.data }], guard := none }) (v := ?_) rfl (by kernel_rfl) (by kernel_rfl) (by kernel_rfl) (fun _ _ _ h => h) (Or.inl ⟨by rfl, ?_⟩) (by assumption) ?_
                        rotate_left
                        · intro w hSw; go_simp; all_goals with_reducible rfl
                        try simp only [Act.put, List.setIfInBounds_toArray, List.set_cons_zero, List.set_cons_succ]
                        refine wpAnyH_take (i := 4) (oi := { dst := some 234, op := Go.Op.load 61 (Go.Operand.tmp 233), type := 61, pos := "ref.go:788", after := #[{ on := 3, ground := Go.Ground.data }], guard := none }) (v := ?_) rfl (by kernel_rfl) (by kernel_rfl) (by kernel_rfl) (fun _ _ _ h => h) (Or.inl ⟨by rfl, ?_⟩) (by assumption) ?_
                        rotate_left
                        · intro w hSw; go_simp; all_goals with_reducible rfl
                        try simp only [Act.put, List.setIfInBounds_toArray, List.set_cons_zero, List.set_cons_succ]
                        refine wpAnyH_take (i := 6) (oi := { dst := some 236, op := Go.Op.move (Go.Operand.tmp 19), type := 56, pos := "ref.go:788", after := #[], guard := none }) (v := ?_) rfl (by kernel_rfl) (by kernel_rfl) (by kernel_rfl) (fun _ _ _ h => h) (Or.inl ⟨by rfl, ?_⟩) (by assumption) ?_
                        rotate_left
                        · intro w hSw; go_simp; all_goals with_reducible rfl
                        try simp only [Act.put, List.setIfInBounds_toArray, List.set_cons_zero, List.set_cons_succ]
                        refine wpAnyH_take (i := 7) (oi := { dst := some 237, op := Go.Op.move (Go.Operand.tmp 21), type := 3, pos := "ref.go:788", after := #[], guard := none }) (v := ?_) rfl (by kernel_rfl) (by kernel_rfl) (by kernel_rfl) (fun _ _ _ h => h) (Or.inl ⟨by rfl, ?_⟩) (by assumption) ?_
                        rotate_left
                        · intro w hSw; go_simp; all_goals with_reducible rfl
                        try simp only [Act.put, List.setIfInBounds_toArray, List.set_cons_zero, List.set_cons_succ]
                        refine wpAnyH_take (i := 8) (oi := { dst := some 238, op := Go.Op.indexAddr 56 (Go.Operand.tmp 236) (Go.Operand.tmp 237), type := 0, pos := "ref.go:788", after := #[{ on := 6, ground := Go.Ground.data }, { on := 7, ground := Go.Ground.data }], guard := none }) (v := ?_) rfl (by kernel_rfl) (by kernel_rfl) (by kernel_rfl) (fun _ _ _ h => h) (Or.inl ⟨by rfl, ?_⟩) (by assumption) ?_
                        rotate_left
                        · intro w hSw; go_simp; all_goals with_reducible rfl
                        try simp only [Act.put, List.setIfInBounds_toArray, List.set_cons_zero, List.set_cons_succ]
                        refine wpAnyH_take (i := 9) (oi := { dst := some 239, op := Go.Op.fieldAddr 61 (Go.Operand.tmp 238) 2, type := 0, pos := "ref.go:788", after := #[{ on := 8, ground := Go.Ground.data }], guard := none }) (v := ?_) rfl (by kernel_rfl) (by kernel_rfl) (by kernel_rfl) (fun _ _ _ h => h) (Or.inl ⟨by rfl, ?_⟩) (by assumption) ?_
                        rotate_left
                        · intro w hSw; go_simp; all_goals with_reducible rfl
                        try simp only [Act.put, List.setIfInBounds_toArray, List.set_cons_zero, List.set_cons_succ]
                        refine wpAnyH_take (i := 10) (oi := { dst := some 240, op := Go.Op.load 56 (Go.Operand.tmp 239), type := 56, pos := "ref.go:788", after := #[{ on := 9, ground := Go.Ground.data }], guard := none }) (v := ?_) rfl (by kernel_rfl) (by kernel_rfl) (by kernel_rfl) (fun _ _ _ h => h) (Or.inl ⟨by rfl, ?_⟩) (by assumption) ?_
                        rotate_left
                        · intro w hSw; go_simp; all_goals with_reducible rfl
                        try simp only [Act.put, List.setIfInBounds_toArray, List.set_cons_zero, List.set_cons_succ]
                        refine wpAnyH_ready (rs := [5]) (by kernel_rfl) (by simp) ?_
                        refine (AllReadyH.cons (o := { dst := some 235, op := Go.Op.buildSlice 56 1 #[(0, Go.Operand.tmp 234)], type := 56, pos := "ref.go:788", after := #[{ on := 4, ground := Go.Ground.data }], guard := none }) rfl (fun K hK => ?_) AllReadyH.nil)
                        · go_simp
                          refine hK.out _ _ ?_ (fun hHeld => ?_)
                          · first | exact Fut.drew (by assumption) | exact Fut.alloc (by assumption) _ | assumption
                          clear hK K
                          try simp only [Act.put, List.setIfInBounds_toArray, List.set_cons_zero, List.set_cons_succ]
                          refine wpAnyH_ready (rs := [11]) (by kernel_rfl) (by simp) ?_
                          refine (AllReadyH.cons (o := { dst := some 241, op := Go.Op.call { callee := Go.Callee.builtin Go.Builtin.append, args := #[Go.Operand.tmp 235, Go.Operand.tmp 240], argTypes := #[56, 56] }, type := 56, pos := "ref.go:788", after := #[{ on := 5, ground := Go.Ground.data }, { on := 10, ground := Go.Ground.data }], guard := none }) rfl (fun K hK => ?_) AllReadyH.nil)
                          · refine step_append_vals rfl (.tmp 235) (.tmp 240) rfl rfl wr.heap.size rfl (own_one (r := ra) (Nat.le_refl _)) rfl HSRC.out (by assumption) (by unfold maxLen; omega) (by omega) (by simp) ?_
                            intro qa qc w4 ho4 hgr4 hat4
                            obtain ⟨g6, hG6, hv6⟩ := star_row hfj HXV.out HSRC.out HSN.out ho4 hgr4
                            have HG6 := hid hG6
                            have HV6 := hid hv6
                            have hf6 : Fut gj w4 := hG6.fut.le hG6.le
                            have HE6 := hid ((HE.out.go hG6).go ((Grow.refl hG6.fut).alloc (.cells #[.int .i64 6, .int .u8 0, .slice qa (1 + rb.len) qc] 61)))
                            clear hG6 hv6 ho4 hgr4 hat4
                            refine hK.out _ _ ?_ (fun hHeld => ?_)
                            · first | exact Fut.drew (by assumption) | exact Fut.alloc (by assumption) _ | assumption
                            clear hK K
                            try simp only [Act.put, List.setIfInBounds_toArray, List.set_cons_zero, List.set_cons_succ]
                            refine wpAnyH_take (i := 12) (oi := { dst := some 242, op := Go.Op.build 61 #[(0, Go.Operand.const (Go.Value.int Go.IntKind.i64 6)), (2, Go.Operand.tmp 241)], type := 61, pos := "ref.go:788", after := #[{ on := 11, ground := Go.Ground.data }], guard := none }) (v := ?_) rfl (by kernel_rfl) (by kernel_rfl) (by kernel_rfl) (fun _ _ _ h => h) (Or.inl ⟨by rfl, ?_⟩) (by assumption) ?_
                            rotate_left
                            · intro w hSw; go_simp; all_goals with_reducible rfl
                            try simp only [Act.put, List.setIfInBounds_toArray, List.set_cons_zero, List.set_cons_succ]
                            refine wpAnyH_ready (rs := [13]) (by kernel_rfl) (by simp) ?_
                            refine (AllReadyH.cons (o := { dst := some 243, op := Go.Op.buildSlice 56 1 #[(0, Go.Operand.tmp 242)], type := 56, pos := "ref.go:788", after := #[{ on := 12, ground := Go.Ground.data }], guard := none }) rfl (fun K hK => ?_) AllReadyH.nil)
                            · go_simp
                              refine hK.out _ _ ?_ (fun hHeld => ?_)
                              · first | exact Fut.drew (by assumption) | exact Fut.alloc (by assumption) _ | assumption
                              clear hK K
                              try simp only [Act.put, List.setIfInBounds_toArray, List.set_cons_zero, List.set_cons_succ]
                              refine wpAnyH_ready (rs := [14]) (by kernel_rfl) (by simp) ?_
                              refine (AllReadyH.cons (o := { dst := some 244, op := Go.Op.call { callee := Go.Callee.builtin Go.Builtin.append, args := #[Go.Operand.tmp 230, Go.Operand.tmp 243], argTypes := #[56, 56] }, type := 56, pos := "ref.go:788", after := #[{ on := 0, ground := Go.Ground.data }, { on := 13, ground := Go.Ground.data }, { on := 11, ground := Go.Ground.chain }], guard := none }) rfl (fun K hK => ?_) AllReadyH.nil)
                              · refine step_append_lies _ rfl (.tmp 230) (.tmp 243) 56 rfl _ 61 i0 (.agg #[.int .i64 0, .int .u8 0, .slice none 0 0]) 3 40 Try.underlying56 hi hz0 hz1 hz2 rfl (by decide) _ n9 (rowsCells _) rfl (HE6.out.rowN hn9) ⟨w4.heap.size, 0, none⟩ 1 1 (VRow.cells ⟨6, 0, qa, 1 + rb.len, qc⟩) rfl rfl (World.news_of_block (heap_alloc_new _ _)) (by simp [VRow.cells, Value.oneCell']) (by decide) (by unfold maxLen; omega) (by omega) HE6.out.base _ rfl ?_
                                intro kb kcap w3 hown3 hgrow3 hat3 hlt3
                                have HF := hid (HE6.out.app hn9 (r2 := ⟨6, 0, qa, 1 + rb.len, qc⟩) HV6.out hown3 hgrow3 hat3)
                                have hf3 := HF.out.grow.fut
                                clear hown3 hgrow3 hat3 hlt3
                                have hfj3 := HF.out.grow.fut.le HG6.out.le
                                refine hK.out _ _ ?_ (fun hHeld => ?_)
                                · first | exact Fut.drew (by assumption) | exact Fut.alloc (by assumption) _ | assumption
                                clear hK K
                                try simp only [Act.put, List.setIfInBounds_toArray, List.set_cons_zero, List.set_cons_succ]
                                refine wpAnyH_take (i := 15) (oi := { dst := some 7, op := Go.Op.assign (Go.Operand.tmp 244), type := 56, pos := "ref.go:788", after := #[{ on := 14, ground := Go.Ground.data }, { on := 14, ground := Go.Ground.chain }, { on := 0, ground := Go.Ground.phase }, { on := 1, ground := Go.Ground.phase }, { on := 2, ground := Go.Ground.phase }, { on := 3, ground := Go.Ground.phase }, { on := 4, ground := Go.Ground.phase }, { on := 5, ground := Go.Ground.phase }, { on := 6, ground := Go.Ground.phase }, { on := 7, ground := Go.Ground.phase }, { on := 8, ground := Go.Ground.phase }, { on := 9, ground := Go.Ground.phase }, { on := 10, ground := Go.Ground.phase }, { on := 11, ground := Go.Ground.phase }, { on := 12, ground := Go.Ground.phase }, { on := 13, ground := Go.Ground.phase }, { on := 14, ground := Go.Ground.phase }], guard := none }) (v := ?_) rfl (by kernel_rfl) (by kernel_rfl) (by kernel_rfl) (fun _ _ _ h => h) (Or.inl ⟨by rfl, ?_⟩) (by assumption) ?_
                                rotate_left
                                · intro w hSw; go_simp; all_goals with_reducible rfl
                                try simp only [Act.put, List.setIfInBounds_toArray, List.set_cons_zero, List.set_cons_succ]
                                refine wpAnyH_done (by kernel_rfl) ?_ _
                                go_wp2_with fail
                                go_roundg (B.length - (j + 1))
                                case measure => omega
                                case rel =>
                                  have e : (P ++ itemsV (A.take p) B ++ (B.take (j + 1)).map fun y => Val.mk 6 0 (A[p] :: y.l)).take m = (P ++ itemsV (A.take p) B ++ (B.take j).map fun y => Val.mk 6 0 (A[p] :: y.l)).take m ++ [.mk 6 0 (A[p] :: B[j].l)] := by
                                    rw [take_room (by omega), List.take_add_one, List.getElem?_eq_getElem hjt, List.map_append, ← List.append_assoc]; rfl
                                  have hf := HF.out
                                  rw [← e] at hf
                                  exact ⟨j + 1, n9 + 1, g6, _, _, _, by omega, rfl, by rw [e, List.length_append, hn9]; rfl, by go_num, hle7.trans HG6.out.le, hf⟩
                      · have e : (P ++ itemsV (A.take p) B ++ (B.take j).map fun y => Val.mk 6 0 (A[p] :: y.l)).take m = (P ++ itemsV (A.take (p + 1)) B).take m := by
                          have h := take_full (m := m) (X := P ++ itemsV (A.take p) B ++ (B.take j).map fun y => Val.mk 6 0 (A[p] :: y.l)) (by omega) ((B.drop j).map fun y => Val.mk 6 0 (A[p] :: y.l))
                          rw [h, List.append_assoc _ ((B.take j).map _), ← List.map_append, List.take_append_drop, itemsV_snoc A B hlt, List.append_assoc]
                        rw [e] at hI hn9
                        have HE := hid hI
                        clear hI
                        go_wp2_with fail
                        go_roundg (A.length - (p + 1))
                        case measure => omega
                        case rel => exact ⟨p + 1, n9, gj, la2, lc2, rs2, by omega, rfl, hn9, by go_num, hle7, HE.out⟩
                    · obtain rfl : j = B.length := by omega
                      have e : (P ++ itemsV (A.take p) B ++ (B.take B.length).map fun y => Val.mk 6 0 (A[p] :: y.l)).take m = (P ++ itemsV (A.take (p + 1)) B).take m := by
                        rw [List.take_length, itemsV_snoc A B hlt, List.append_assoc]
                      rw [e] at hI hn9
                      have HE := hid hI
                      clear hI
                      go_wp2_with fail
                      go_roundg (A.length - (p + 1))
                      case measure => omega
                      case rel => exact ⟨p + 1, n9, gj, la2, lc2, rs2, by omega, rfl, hn9, by go_num, hle7, HE.out⟩
                · obtain rfl : p = A.length := by omega
                  rw [List.take_length, ← hP] at hI hn8
                  have HE := hid hI
                  clear hI
                  go_wp2_with fail
                  go_roundg (u.length - (k + 1))
                  case measure => omega
                  case rel => exact ⟨k + 1, n8, gp, la1, lc1, rs1, by omega, rfl, hn8, by go_num, hle5.trans hle6, HE.out⟩
      · have hX : (((List.range u.length).flatMap fun k => itemsV (FA (u.take (k + 1))) (FS (u.drop (k + 1)))).take m) = (((List.range k).flatMap fun k => itemsV (FA (u.take (k + 1))) (FS (u.drop (k + 1)))).take m) := by
          obtain ⟨Y, hY⟩ := range_split (fun k => itemsV (FA (u.take (k + 1))) (FS (u.drop (k + 1)))) (show k ≤ u.length by omega)
          rw [hY, ← take_full (by omega)]
        go_wp2_with fail
        go_ret
        rw [← HRES.out, hX]
        exact HE0.out.done hn7
    · obtain rfl : k = u.length := by omega
      go_wp2_with fail
      go_ret
      rw [← HRES.out]
      exact HE0.out.done hn7
end Go.Proofs.Ytjodmimnbpgfcaa
