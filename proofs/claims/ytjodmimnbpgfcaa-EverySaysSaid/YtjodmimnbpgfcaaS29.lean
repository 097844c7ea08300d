/- The reference's every, walked: one or the other. A library text: no claim is stated here. -/
import Derived.Test.YtjodmimnbpgfcaaS28

/- EvC -/
namespace Go.Proofs.Ytjodmimnbpgfcaa
open Go.RowKit Go.IntWalk

theorem exec_load54 {a : Act} {o : Oper} {x : Operand} {w : World} {b off : Nat} {r : CRow} (ho : o.op = .load 54 x) (hx : a.eval x = .pointer (some ⟨b, off, none⟩)) (h : w.rangeAt b off (cellsR r).toList) :
    (execOp a.eval o).run Try.prog w = .ok (.value (.agg (cellsR r))) w := by
  unfold execOp
  simp only [ho, hx]
  rw [Sem.run_bind, load54 h]
  rfl

set_option maxRecDepth 100000 in
set_option maxHeartbeats 1000000 in
theorem ev_or {g : G} (s : Set4) (n : Int) {b off : Nat} (cap : Nat) {r0 r1 : CRow} {FA FB : List UInt8 → List Val} (m : Nat) (most : Int) (hmm : (m : Int) = most + 1) (hm2 : m ≤ 2001) (hr0 : ∀ w', Fut g w' → w'.rangeAt b off (cellsR r0).toList) (hr1 : ∀ w', Fut g w' → w'.rangeAt b (off + 259) (cellsR r1).toList) (H0 : EvSpec g most r0 FA) (H1 : EvSpec g most r1 FB) (hFA : ∀ u, (FA u).length ≤ m) (hFB : ∀ u, (FB u).length ≤ m) {sa : Option Addr} {sc : Nat} (u : List UInt8) (hu : u.length ≤ 1000) (hsl : SliceV g sa u.length sc (u.map byteV)) (w : World) (hw : Fut g w) :
    Calls Try.prog 40 #[.agg (cellsR ⟨4, s, n, some ⟨b, off, none⟩, 2, cap⟩), .slice sa u.length sc, .int .i64 most] w (EvPost g ((((FA u).map fun x => Val.mk 4 0 [x]) ++ ((FB u).map fun x => Val.mk 5 0 [x])).take m) w) := by
  obtain ⟨i0, hi, hz0, hz1, hz2⟩ := info_parts Try.info61
  obtain ⟨g1, hg1, c0, cs, cn, cl, cv⟩ := box_ref hw ⟨4, s, n, some ⟨b, off, none⟩, 2, cap⟩
  have hf1 := hg1.fut
  have hle1 := hg1.le
  have HA := hid (fun g' hle => H0 g' hle u sa sc hu)
  have HB := hid (fun g' hle => H1 g' hle u sa sc hu)
  have HR0 := hid (fun w' (hw' : Fut g1 w') => hr0 w' (hw'.le hle1))
  have HR1 := hid (fun w' (hw' : Fut g1 w') => hr1 w' (hw'.le hle1))
  have HG1 := hid hg1
  have hFAu := hFA u
  have hFBu := hFB u
  generalize FA u = A at HA hFAu ⊢
  generalize FB u = B at HB hFBu ⊢
  clear cs cv hg1 hr0 hr1 H0 H1 hFA hFB
  go_enter Try.func40, Try.ntmps40
  go_upto_region 24 with fail
  go_cut [13, 14] from 123 to 137 (fun s13 s14 wc => ∃ (g2 : G) (aa : Option Addr) (ac : Nat) (ba : Option Addr) (bc : Nat), s13 = .slice aa A.length ac ∧ s14 = .slice ba B.length bc ∧ Hid (Grow g w g2 wc) ∧ Hid (g1.Le g2) ∧ Hid (ValsV g2 aa A.length ac A) ∧ Hid (ValsV g2 ba B.length bc B))
  case first =>
    refine wp_region_held_drew (S := (fun w' => Fut g1 w')) (by kernel_rfl) hf1.drew ?_
    intro hS0
    refine wpAnyH_take (i := 0) (oi := { dst := some 123, op := Go.Op.fieldAddr 54 (Go.Operand.tmp 3) 3, type := 0, pos := "ref.go:769", after := #[], guard := none }) (v := ?_) rfl (by kernel_rfl) (by kernel_rfl) (by kernel_rfl) (fun _ _ _ h => h) (Or.inl ⟨by rfl, ?_⟩) (by assumption) ?_
    rotate_left
    · intro w hSw; go_simp; all_goals with_reducible rfl
    try simp only [Act.put, List.setIfInBounds_toArray, List.set_cons_zero, List.set_cons_succ]
    refine wpAnyH_take (i := 1) (oi := { dst := some 124, op := Go.Op.load 52 (Go.Operand.tmp 123), type := 52, pos := "ref.go:769", after := #[{ on := 0, ground := Go.Ground.data }], guard := none }) (v := ?_) rfl (by kernel_rfl) (by kernel_rfl) (by kernel_rfl) (fun _ _ _ h => h) (Or.inl ⟨by rfl, ?_⟩) (by assumption) ?_
    rotate_left
    · intro w hSw; go_simp; all_goals with_reducible rfl
    try simp only [Act.put, List.setIfInBounds_toArray, List.set_cons_zero, List.set_cons_succ]
    refine wpAnyH_take (i := 2) (oi := { dst := some 125, op := Go.Op.indexAddr 52 (Go.Operand.tmp 124) (Go.Operand.const (Go.Value.int Go.IntKind.i64 0)), type := 0, pos := "ref.go:769", after := #[{ on := 1, ground := Go.Ground.data }], guard := none }) (v := ?_) rfl (by kernel_rfl) (by kernel_rfl) (by kernel_rfl) (fun _ _ _ h => h) (Or.inl ⟨by rfl, ?_⟩) (by assumption) ?_
    rotate_left
    · intro w hSw; go_simp; all_goals with_reducible rfl
    try simp only [Act.put, List.setIfInBounds_toArray, List.set_cons_zero, List.set_cons_succ]
    refine wpAnyH_take (i := 3) (oi := { dst := some 126, op := Go.Op.load 54 (Go.Operand.tmp 125), type := 54, pos := "ref.go:769", after := #[{ on := 2, ground := Go.Ground.data }], guard := none }) (v := ?_) rfl (by kernel_rfl) (by kernel_rfl) (by kernel_rfl) (fun _ _ _ h => h) (Or.inl ⟨by rfl, ?_⟩) (by assumption) ?_
    rotate_left
    · intro w hSw; refine exec_load54 (x := .tmp 125) (r := r0) ?_ ?_ (HR0.out _ hSw) <;> rfl
    try simp only [Act.put, List.setIfInBounds_toArray, List.set_cons_zero, List.set_cons_succ]
    refine wpAnyH_take (i := 4) (oi := { dst := some 127, op := Go.Op.move (Go.Operand.tmp 1), type := 28, pos := "ref.go:769", after := #[], guard := none }) (v := ?_) rfl (by kernel_rfl) (by kernel_rfl) (by kernel_rfl) (fun _ _ _ h => h) (Or.inl ⟨by rfl, ?_⟩) (by assumption) ?_
    rotate_left
    · intro w hSw; go_simp; all_goals with_reducible rfl
    try simp only [Act.put, List.setIfInBounds_toArray, List.set_cons_zero, List.set_cons_succ]
    refine wpAnyH_take (i := 5) (oi := { dst := some 128, op := Go.Op.move (Go.Operand.tmp 2), type := 3, pos := "ref.go:769", after := #[], guard := none }) (v := ?_) rfl (by kernel_rfl) (by kernel_rfl) (by kernel_rfl) (fun _ _ _ h => h) (Or.inl ⟨by rfl, ?_⟩) (by assumption) ?_
    rotate_left
    · intro w hSw; go_simp; all_goals with_reducible rfl
    try simp only [Act.put, List.setIfInBounds_toArray, List.set_cons_zero, List.set_cons_succ]
    refine wpAnyH_take (i := 7) (oi := { dst := some 130, op := Go.Op.fieldAddr 54 (Go.Operand.tmp 3) 3, type := 0, pos := "ref.go:769", after := #[], guard := none }) (v := ?_) rfl (by kernel_rfl) (by kernel_rfl) (by kernel_rfl) (fun _ _ _ h => h) (Or.inl ⟨by rfl, ?_⟩) (by assumption) ?_
    rotate_left
    · intro w hSw; go_simp; all_goals with_reducible rfl
    try simp only [Act.put, List.setIfInBounds_toArray, List.set_cons_zero, List.set_cons_succ]
    refine wpAnyH_take (i := 8) (oi := { dst := some 131, op := Go.Op.load 52 (Go.Operand.tmp 130), type := 52, pos := "ref.go:769", after := #[{ on := 7, ground := Go.Ground.data }], guard := none }) (v := ?_) rfl (by kernel_rfl) (by kernel_rfl) (by kernel_rfl) (fun _ _ _ h => h) (Or.inl ⟨by rfl, ?_⟩) (by assumption) ?_
    rotate_left
    · intro w hSw; go_simp; all_goals with_reducible rfl
    try simp only [Act.put, List.setIfInBounds_toArray, List.set_cons_zero, List.set_cons_succ]
    refine wpAnyH_take (i := 9) (oi := { dst := some 132, op := Go.Op.indexAddr 52 (Go.Operand.tmp 131) (Go.Operand.const (Go.Value.int Go.IntKind.i64 1)), type := 0, pos := "ref.go:769", after := #[{ on := 8, ground := Go.Ground.data }], guard := none }) (v := ?_) rfl (by kernel_rfl) (by kernel_rfl) (by kernel_rfl) (fun _ _ _ h => h) (Or.inl ⟨by rfl, ?_⟩) (by assumption) ?_
    rotate_left
    · intro w hSw; go_simp; all_goals with_reducible rfl
    try simp only [Act.put, List.setIfInBounds_toArray, List.set_cons_zero, List.set_cons_succ]
    refine wpAnyH_take (i := 10) (oi := { dst := some 133, op := Go.Op.load 54 (Go.Operand.tmp 132), type := 54, pos := "ref.go:769", after := #[{ on := 9, ground := Go.Ground.data }], guard := none }) (v := ?_) rfl (by kernel_rfl) (by kernel_rfl) (by kernel_rfl) (fun _ _ _ h => h) (Or.inl ⟨by rfl, ?_⟩) (by assumption) ?_
    rotate_left
    · intro w hSw; refine exec_load54 (x := .tmp 132) (r := r1) ?_ ?_ (HR1.out _ hSw) <;> rfl
    try simp only [Act.put, List.setIfInBounds_toArray, List.set_cons_zero, List.set_cons_succ]
    refine wpAnyH_take (i := 11) (oi := { dst := some 134, op := Go.Op.move (Go.Operand.tmp 1), type := 28, pos := "ref.go:769", after := #[], guard := none }) (v := ?_) rfl (by kernel_rfl) (by kernel_rfl) (by kernel_rfl) (fun _ _ _ h => h) (Or.inl ⟨by rfl, ?_⟩) (by assumption) ?_
    rotate_left
    · intro w hSw; go_simp; all_goals with_reducible rfl
    try simp only [Act.put, List.setIfInBounds_toArray, List.set_cons_zero, List.set_cons_succ]
    refine wpAnyH_take (i := 12) (oi := { dst := some 135, op := Go.Op.move (Go.Operand.tmp 2), type := 3, pos := "ref.go:769", after := #[], guard := none }) (v := ?_) rfl (by kernel_rfl) (by kernel_rfl) (by kernel_rfl) (fun _ _ _ h => h) (Or.inl ⟨by rfl, ?_⟩) (by assumption) ?_
    rotate_left
    · intro w hSw; go_simp; all_goals with_reducible rfl
    try simp only [Act.put, List.setIfInBounds_toArray, List.set_cons_zero, List.set_cons_succ]
    refine wpAnyH_ready (rs := [6]) (by kernel_rfl) (by simp) ?_
    refine (AllReadyH.cons (o := { dst := some 129, op := Go.Op.call { callee := Go.Callee.value (Go.Operand.func 40), args := #[Go.Operand.tmp 126, Go.Operand.tmp 127, Go.Operand.tmp 128], argTypes := #[54, 28, 3] }, type := 56, pos := "ref.go:769", after := #[{ on := 3, ground := Go.Ground.data }, { on := 4, ground := Go.Ground.data }, { on := 5, ground := Go.Ground.data }], guard := none }) rfl (fun K hK => ?_) AllReadyH.nil)
    · go_simp
      first | refine (HA.out _ (hle1.trans HGB.out.le) (hsl.le (hle1.trans HGB.out.le)) _ HGB.out.fut).mono ?_ | refine (HA.out _ hle1 (hsl.le hle1) _ (by assumption)).mono ?_
      rintro e wA ⟨gA, aA, cA, rfl, hgA, hvA⟩
      have hfA : Fut g1 wA := hgA.fut.le (by first | exact HGB.out.le.trans hgA.le | exact hgA.le)
      have HGA := hid hgA
      have HVA := hid hvA
      clear hgA hvA
      try go_wp2_with fail
      refine hK.out _ _ ?_ (fun hHeld => ?_)
      · first | exact Fut.drew (by assumption) | exact Fut.alloc (by assumption) _ | assumption
      clear hK K
      try simp only [Act.put, List.setIfInBounds_toArray, List.set_cons_zero, List.set_cons_succ]
      refine wpAnyH_ready (rs := [13]) (by kernel_rfl) (by simp) ?_
      refine (AllReadyH.cons (o := { dst := some 136, op := Go.Op.call { callee := Go.Callee.value (Go.Operand.func 40), args := #[Go.Operand.tmp 133, Go.Operand.tmp 134, Go.Operand.tmp 135], argTypes := #[54, 28, 3] }, type := 56, pos := "ref.go:769", after := #[{ on := 10, ground := Go.Ground.data }, { on := 11, ground := Go.Ground.data }, { on := 12, ground := Go.Ground.data }, { on := 6, ground := Go.Ground.chain }], guard := none }) rfl (fun K hK => ?_) AllReadyH.nil)
      · go_simp
        first | refine (HB.out _ (hle1.trans HGA.out.le) (hsl.le (hle1.trans HGA.out.le)) _ HGA.out.fut).mono ?_ | refine (HB.out _ hle1 (hsl.le hle1) _ (by assumption)).mono ?_
        rintro e wB ⟨gB, aB, cB, rfl, hgB, hvB⟩
        have hfB : Fut g1 wB := hgB.fut.le (by first | exact HGA.out.le.trans hgB.le | exact hgB.le)
        have HGB := hid hgB
        have HVB := hid hvB
        clear hgB hvB
        try go_wp2_with fail
        refine hK.out _ _ ?_ (fun hHeld => ?_)
        · first | exact Fut.drew (by assumption) | exact Fut.alloc (by assumption) _ | assumption
        clear hK K
        try simp only [Act.put, List.setIfInBounds_toArray, List.set_cons_zero, List.set_cons_succ]
        refine wpAnyH_take (i := 14) (oi := { dst := some 13, op := Go.Op.assign (Go.Operand.tmp 129), type := 56, pos := "ref.go:769", after := #[{ on := 6, ground := Go.Ground.data }, { on := 13, ground := Go.Ground.chain }, { on := 0, ground := Go.Ground.phase }, { on := 1, ground := Go.Ground.phase }, { on := 2, ground := Go.Ground.phase }, { on := 3, ground := Go.Ground.phase }, { on := 4, ground := Go.Ground.phase }, { on := 5, ground := Go.Ground.phase }, { on := 6, ground := Go.Ground.phase }, { on := 7, ground := Go.Ground.textOnly Go.Departure.lateStores }, { on := 8, ground := Go.Ground.textOnly Go.Departure.lateStores }, { on := 9, ground := Go.Ground.textOnly Go.Departure.lateStores }, { on := 10, ground := Go.Ground.textOnly Go.Departure.lateStores }, { on := 11, ground := Go.Ground.textOnly Go.Departure.lateStores }, { on := 12, ground := Go.Ground.textOnly Go.Departure.lateStores }, { on := 13, ground := Go.Ground.textOnly Go.Departure.lateStoresUnsure }], guard := none }) (v := ?_) rfl (by kernel_rfl) (by kernel_rfl) (by kernel_rfl) (fun _ _ _ h => h) (Or.inl ⟨by rfl, ?_⟩) (by assumption) ?_
        rotate_left
        · intro w hSw; go_simp; all_goals with_reducible rfl
        try simp only [Act.put, List.setIfInBounds_toArray, List.set_cons_zero, List.set_cons_succ]
        refine wpAnyH_take (i := 15) (oi := { dst := some 14, op := Go.Op.assign (Go.Operand.tmp 136), type := 56, pos := "ref.go:769", after := #[{ on := 13, ground := Go.Ground.data }, { on := 14, ground := Go.Ground.chain }, { on := 0, ground := Go.Ground.phase }, { on := 1, ground := Go.Ground.phase }, { on := 2, ground := Go.Ground.phase }, { on := 3, ground := Go.Ground.phase }, { on := 4, ground := Go.Ground.phase }, { on := 5, ground := Go.Ground.phase }, { on := 6, ground := Go.Ground.phase }, { on := 7, ground := Go.Ground.phase }, { on := 8, ground := Go.Ground.phase }, { on := 9, ground := Go.Ground.phase }, { on := 10, ground := Go.Ground.phase }, { on := 11, ground := Go.Ground.phase }, { on := 12, ground := Go.Ground.phase }, { on := 13, ground := Go.Ground.phase }, { on := 14, ground := Go.Ground.phase }], guard := none }) (v := ?_) rfl (by kernel_rfl) (by kernel_rfl) (by kernel_rfl) (fun _ _ _ h => h) (Or.inl ⟨by rfl, ?_⟩) (by assumption) ?_
        rotate_left
        · intro w hSw; go_simp; all_goals with_reducible rfl
        try simp only [Act.put, List.setIfInBounds_toArray, List.set_cons_zero, List.set_cons_succ]
        refine wpAnyH_done (by kernel_rfl) ?_ _
        go_wp2_with fail
        go_meet
        case rel =>
          first
          | exact ⟨gB, aA, cA, aB, cB, rfl, rfl, (HG1.out.drew.trans HGA.out).trans HGB.out, HGA.out.le.trans HGB.out.le, HVA.out.le HGB.out.le, HVB.out⟩
          | exact ⟨gA, aA, cA, aB, cB, rfl, rfl, (HG1.out.drew.trans HGB.out).trans HGA.out, HGB.out.le.trans HGA.out.le, HVA.out, HVB.out.le HGA.out.le⟩
  case rest =>
    obtain ⟨g2, aa, ac, ba, bc, rfl, rfl, HG2, HL2, HVA, HVB⟩ := hcut
    clear HA HB HR0 HR1 hf1
    have hf2 := HG2.out.fut
    go_wp2_with fail
    go_loopg [7, 15] A.length (fun rem s7 i wr => ∃ (q : Nat) (gq : G) (la : Option Addr) (lc : Nat) (rs : List VRow), q + rem = A.length ∧ s7 = .slice la q lc ∧ i = .int .i64 q ∧ g2.Le gq ∧ EInv g w ((A.take q).map fun x => .mk 4 0 [x]) gq wr la lc rs)
    case atStart => exact ⟨0, g2, none, 0, [], by omega, rfl, rfl, G.Le.refl _, EInv.start HG2.out⟩
    case round =>
      obtain ⟨q, gq, la, lc, rs, hq, rfl, rfl, hle2, hI⟩ := hrel
      have hlq : ((A.take q).map fun x => Val.mk 4 0 [x]).length = q := by simp; omega
      by_cases hlt : q < A.length
      · obtain ⟨bb, bo, ra, rfl, hcv, hva, hone⟩ := HVA.out.at hlt
        have hac := HVA.out.len.2
        have hon := (hone 4 0).le hle2
        have HE := hid (hI.go ((Grow.refl hI.grow.fut).alloc (.cells #[.int .i64 4, .int .u8 0, .slice (some ⟨bb, bo + q * 3, none⟩) 1 (ac - q)] 61)))
        clear hI hcv hva hone
        go_wp2_with (first | (refine wpList_one56 rfl (.tmp 144) (.tmp 145) (.tmp 147) rfl rfl rfl rfl hlt hac.1 ?_) | (at_builtin; refine wpList_append_lies _ rfl (.tmp 143) (.tmp 150) 56 rfl _ 61 i0 (.agg #[.int .i64 0, .int .u8 0, .slice none 0 0]) 3 40 Try.underlying56 hi hz0 hz1 hz2 rfl (by decide) _ q (rowsCells _) rfl (HE.out.rowN hlq) ⟨wr.heap.size, 0, none⟩ 1 1 (VRow.cells ⟨4, 0, some ⟨bb, bo + q * 3, none⟩, 1, ac - q⟩) rfl rfl (World.news_of_block (heap_alloc_new _ _)) (by simp [VRow.cells, Value.oneCell']) (by decide) (by unfold maxLen; omega) (by omega) HE.out.base _ rfl ?_; intro kb kcap w3 hown3 hgrow3 hat3 hlt3; have HF := hid (HE.out.app hlq (r2 := ⟨4, 0, some ⟨bb, bo + q * 3, none⟩, 1, ac - q⟩) hon hown3 hgrow3 hat3); clear hown3 hgrow3 hat3 hlt3) | fail)
        go_roundg (A.length - (q + 1))
        case measure => omega
        case rel =>
          have e : (A.take (q + 1)).map (fun x => Val.mk 4 0 [x]) = (A.take q).map (fun x => Val.mk 4 0 [x]) ++ [.mk 4 0 [A[q]]] := by rw [List.take_add_one, List.getElem?_eq_getElem hlt, List.map_append]; rfl
          have hf := HF.out
          rw [← e] at hf
          exact ⟨q + 1, gq, _, _, _, by omega, rfl, by go_num, hle2, hf⟩
      · obtain rfl : q = A.length := by omega
        rw [List.take_length] at hI hlq
        have HI0 := hid hI
        clear hI
        go_wp2_with fail
        go_loopg [7, 16] B.length (fun rem s7 i wr => ∃ (q n : Nat) (gq : G) (la : Option Addr) (lc : Nat) (rs : List VRow), q + rem = B.length ∧ s7 = .slice la n lc ∧ (((A.map fun x => Val.mk 4 0 [x]) ++ (B.take q).map fun x => Val.mk 5 0 [x]).take m).length = n ∧ i = .int .i64 q ∧ g2.Le gq ∧ EInv g w (((A.map fun x => Val.mk 4 0 [x]) ++ (B.take q).map fun x => Val.mk 5 0 [x]).take m) gq wr la lc rs)
        case atStart =>
          have e : ((A.map fun x => Val.mk 4 0 [x]) ++ (B.take 0).map fun x => Val.mk 5 0 [x]).take m = A.map fun x => Val.mk 4 0 [x] := by
            rw [List.take_zero, List.map_nil, List.append_nil, List.take_of_length_le (by simpa using hFAu)]
          refine ⟨0, A.length, gq, la, lc, rs, by omega, rfl, by rw [e, hlq], rfl, hle2, ?_⟩
          rw [e]
          exact HI0.out
        case round =>
          clear HI0 hle2
          obtain ⟨q, n7, gq, la, lc, rs, hq, rfl, hn7, rfl, hle2, hI⟩ := hrel
          have hn7m : n7 ≤ m := by rw [← hn7, List.length_take]; omega
          by_cases hlt : q < B.length
          · by_cases hroom : (n7 : Int) ≤ most
            · obtain ⟨bb, bo, ra, rfl, hcv, hva, hone⟩ := HVB.out.at hlt
              have hac := HVB.out.len.2
              have hon := (hone 5 0).le hle2
              have HE := hid (hI.go ((Grow.refl hI.grow.fut).alloc (.cells #[.int .i64 5, .int .u8 0, .slice (some ⟨bb, bo + q * 3, none⟩) 1 (bc - q)] 61)))
              clear hI hcv hva hone
              go_wp2_with (first | (refine wpList_one56 rfl (.tmp 165) (.tmp 166) (.tmp 168) rfl rfl rfl rfl hlt hac.1 ?_) | (at_builtin; refine wpList_append_lies _ rfl (.tmp 164) (.tmp 171) 56 rfl _ 61 i0 (.agg #[.int .i64 0, .int .u8 0, .slice none 0 0]) 3 40 Try.underlying56 hi hz0 hz1 hz2 rfl (by decide) _ n7 (rowsCells _) rfl (HE.out.rowN hn7) ⟨wr.heap.size, 0, none⟩ 1 1 (VRow.cells ⟨5, 0, some ⟨bb, bo + q * 3, none⟩, 1, bc - q⟩) rfl rfl (World.news_of_block (heap_alloc_new _ _)) (by simp [VRow.cells, Value.oneCell']) (by decide) (by unfold maxLen; omega) (by omega) HE.out.base _ rfl ?_; intro kb kcap w3 hown3 hgrow3 hat3 hlt3; have HF := hid (HE.out.app hn7 (r2 := ⟨5, 0, some ⟨bb, bo + q * 3, none⟩, 1, bc - q⟩) hon hown3 hgrow3 hat3); clear hown3 hgrow3 hat3 hlt3) | fail)
              go_roundg (B.length - (q + 1))
              case measure => omega
              case rel =>
                have e : ((A.map fun x => Val.mk 4 0 [x]) ++ (B.take (q + 1)).map fun x => Val.mk 5 0 [x]).take m = ((A.map fun x => Val.mk 4 0 [x]) ++ (B.take q).map fun x => Val.mk 5 0 [x]).take m ++ [.mk 5 0 [B[q]]] := by
                  rw [take_room (by omega), List.take_add_one, List.getElem?_eq_getElem hlt, List.map_append, List.append_assoc]; rfl
                have hf := HF.out
                rw [← e] at hf
                exact ⟨q + 1, n7 + 1, gq, _, _, _, by omega, rfl, by rw [e, List.length_append, hn7]; rfl, by go_num, hle2, hf⟩
            · have e : ((A.map fun x => Val.mk 4 0 [x]) ++ (B.take q).map fun x => Val.mk 5 0 [x]).take m = ((A.map fun x => Val.mk 4 0 [x]) ++ B.map fun x => Val.mk 5 0 [x]).take m := by
                have h := take_full (m := m) (X := (A.map fun x => Val.mk 4 0 [x]) ++ (B.take q).map fun x => Val.mk 5 0 [x]) (by omega) ((B.drop q).map fun x => Val.mk 5 0 [x])
                rw [h, List.append_assoc, ← List.map_append, List.take_append_drop]
              rw [e] at hI hn7
              have HE := hid hI
              clear hI
              go_wp2_with fail
              go_ret
              exact HE.out.done hn7
          · obtain rfl : q = B.length := by omega
            rw [List.take_length] at hI hn7
            have HE := hid hI
            clear hI
            go_wp2_with fail
            go_ret
            exact HE.out.done hn7
end Go.Proofs.Ytjodmimnbpgfcaa
