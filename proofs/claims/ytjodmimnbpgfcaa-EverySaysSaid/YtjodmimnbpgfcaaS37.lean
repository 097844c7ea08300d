/- each, walked: one of two. A library text: no claim is stated here. each, walked: often. A library text: no claim is stated here. each, walked: a group. A library text: no claim is stated here. -/
import Derived.Test.YtjodmimnbpgfcaaS36

/- Each4 -/
namespace Go.Proofs.Ytjodmimnbpgfcaa
open Go.RowKit Go.IntWalk

set_option maxRecDepth 100000 in
set_option maxHeartbeats 4000000 in
theorem each_4 {σ : Type} {I : Inv σ} {live : σ → Prop} {T : Tab} {g0 : G} {mb i : Nat} {x y z : Core} (hS : Sys T g0 mb I) (hx : (flatC T.c)[i]? = some x) (hk : x.kind = 4) (hl : x.l = [y, z]) (hre : x.re = .or y.re z.re) (IH : ∀ (y : Core) (j : Nat), nodes y < nodes x → (flatC T.c)[j]? = some y → EachSpec I live T mb g0 j y.re) : EachSpec I live T mb g0 i x.re := by
  intro g M s w f okv tkv ok tk D hle0 hI hlive hf ho h hD
  have hw := hS.fut hI
  have ho0 := ho
  have h0 := h
  obtain ⟨Fo, co, rfl, hFo, hoc⟩ := ho
  obtain ⟨Ft, ct, rfl, hFt, htc⟩ := h
  obtain ⟨r, ka, kn, kcap, hpm⟩ := hS.tab.parts i x hx
  obtain ⟨g1, hg1, e1, e2, e3, e4⟩ := box4 hw (.cells #[.pointer (some ⟨mb, 0, none⟩)] 111) (.cells #[.func (.func Fo) #[] co] 140) (.cells #[.func (.func Ft) #[] ct] 141) (.cells #[.int .i64 4, .int .u64 r.s.a, .int .u64 r.s.b, .int .u64 r.s.c, .int .u64 r.s.d, .int .i64 r.n, .slice r.a r.len r.cap, .slice ka kn kcap] 133)
  have k1 := fut_cell e1 0 _ rfl
  have k2 := fut_cell e2 0 _ rfl
  have k3 := fut_cell e3 0 _ rfl
  have k5 := fut_cell e4 7 _ rfl
  have m1 := fut_cell (hle0.blk _ _ hS.maker) 0 _ rfl
  have m2 := fut_cell (hle0.blk _ _ hS.maker) 1 _ rfl
  have t0 := fut_cell (hle0.blk _ _ hS.tab.tab) 0 _ rfl
  have hfew := hS.tab.few
  have hshort := hS.tab.short
  have hin := flat_lt hx
  have hii : (i : Int) < (nodes T.c : Int) := by omega
  have hpc := hpm.c.le hle0
  obtain ⟨q0, q1, q2, q3, q4, q5, q6⟩ := hpc
  have q7 := fun w (hw : Fut g w) => hpm.c7 w (hw.le hle0)
  rw [hpm.k, hk] at q0
  have fa := fun o => hw.alloc o
  have fa2 := fun o o2 => (hw.alloc o).alloc o2
  have fa3 := fun o o2 o3 => ((hw.alloc o).alloc o2).alloc o3
  have fa4 := fun o o2 o3 o4 => (((hw.alloc o).alloc o2).alloc o3).alloc o4
  have HPM := hid hpm
  have HG1 := hid hg1
  have HI := hid hI
  have HI1 := hid (hS.grow hI hg1)
  have HOC := hid hoc
  have HTC := hid htc
  have HX := hid hx
  have HRE := hid hre
  have HD := hid hD
  have HO0 := hid (ho0.le hg1.le)
  have HT0 := hid (h0.le hg1.le)
  have HLE0 := hid (hle0.trans hg1.le)
  have HE := hid (And.intro e1 (And.intro e2 (And.intro e3 e4)))
  have hf1 := hg1.fut
  have hlg : ∀ w', Fut g1 w' → Fut g w' := fun w' h => h.le hg1.le
  clear hpm hI hoc htc hx hg1 e1 e2 e3 e4 hre hD hk ho0 h0 hle0
  unfold Callable at hFo hFt
  have hny : nodes y < nodes x ∧ nodes z < nodes x := by
    cases x with
    | mk k s n l =>
      have := hl
      simp only [Core.l] at this
      subst this
      simp only [nodes, nodesL]; omega
  have hkids := HPM.out.kids.le HLE0.out
  rw [hl] at hkids
  obtain ⟨kb, koff, hka, hkc⟩ := hkids.get (i := 0) (by simp [kidIdx])
  have hkn := hkids.length
  simp only [List.length_map, kidIdx_len, List.length_cons, List.length_nil, Nat.zero_add, Nat.reduceAdd] at hkn
  obtain ⟨rfl, hkn2, hkn3⟩ := hkn
  have hk0 : ∀ w, Fut g1 w → w.cell? ⟨kb, koff, none⟩ = some (.int .i64 ((i + 1 : Nat) : Int)) := hkc 0 (natV (i + 1)) rfl
  have hk1 : ∀ w, Fut g1 w → w.cell? ⟨kb, koff + 1, none⟩ = some (.int .i64 ((i + 1 + nodes y : Nat) : Int)) := hkc 1 (natV (i + 1 + nodes y)) rfl
  obtain ⟨j, hj1, hj2, -⟩ := flat_kid HX.out (j := 0) (y := y) (by rw [hl]; rfl)
  rw [hl] at hj1
  simp only [kidIdx, List.getElem?_cons_zero, Option.some.injEq] at hj1
  subst hj1
  obtain ⟨j, hj1, hj3, -⟩ := flat_kid HX.out (j := 1) (y := z) (by rw [hl]; rfl)
  rw [hl] at hj1
  simp only [kidIdx, List.getElem?_cons_succ, List.getElem?_cons_zero, Option.some.injEq] at hj1
  subst hj1
  obtain ⟨ki0, hki0⟩ : ∃ ki0, ki0 = i + 1 := ⟨_, rfl⟩
  obtain ⟨ki1, hki1⟩ : ∃ ki1, ki1 = i + 1 + nodes y := ⟨_, rfl⟩
  rw [← hki0] at hk0 hj2
  rw [← hki1] at hk1 hj3
  have IHy := IH y ki0 hny.1 hj2
  have IHz := IH z ki1 hny.2 hj3
  have HJ2 := hid hj2
  have HJ3 := hid hj3
  subst hka
  clear hkids hkc hny hj2 hj3 hkn2 hkn3 hki0 hki1 IH hl
  have fin : runT tk (ways T.s x.re f ok) s = if (runT (fun v t s => tk (.mk 4 0 [v]) t s) (ways T.s y.re f ok) s).1 = true then runT (fun v t s => tk (.mk 5 0 [v]) t s) (ways T.s z.re f ok) (runT (fun v t s => tk (.mk 4 0 [v]) t s) (ways T.s y.re f ok) s).2 else runT (fun v t s => tk (.mk 4 0 [v]) t s) (ways T.s y.re f ok) s := by
    rw [HRE.out, ways, runT_append, runT_map, runT_map]
  have HIHY := hid IHy
  have HIHZ := hid IHz
  have HONE1 := hid fun (w : World) (hw : Fut g1 w) => one_any (g := g1) 4 Ft ct w hw
  have HONE2 := hid fun (g' : G) (w : World) (_ : g1.Le g') (hw : Fut g' w) => one_any (g := g') 5 Ft ct w hw
  obtain ⟨R, hR⟩ : ∃ R, runT (fun v t s => tk (.mk 4 0 [v]) t s) (ways T.s y.re f ok) s = R := ⟨_, rfl⟩
  rw [hR] at fin
  obtain ⟨b, s1⟩ := R
  have HR := hid hR
  have HF := hid fin
  clear IHy IHz fin hR
  cases b with
  | false =>
    go_enter Try.func57, Try.ntmps57
    go_wp2_with fail
    refine wp_region_noPanic ?_
    refine wp_region_held_drew (S := fun w' => Fut g1 w') (by kernel_rfl) hf1.drew ?_
    intro hS0
    refine wpAnyH_take (i := 0) (oi := { dst := some 94, op := Op.load 111 (Operand.tmp 5), type := 111, pos := "every.go:66", after := #[], guard := none }) (v := ?_) rfl (by kernel_rfl) (by kernel_rfl) (by kernel_rfl) (fun _ _ _ h => h) (Or.inl ⟨by rfl, ?_⟩) (by assumption) ?_
    rotate_left
    · intro w hSw; go_simp; all_goals with_reducible rfl
    try simp only [Act.put, List.setIfInBounds_toArray, List.set_cons_zero, List.set_cons_succ]
    refine wpAnyH_take (i := 1) (oi := { dst := some 95, op := Op.fieldAddr 133 (Operand.tmp 11) 1, type := 0, pos := "every.go:66", after := #[], guard := none }) (v := ?_) rfl (by kernel_rfl) (by kernel_rfl) (by kernel_rfl) (fun _ _ _ h => h) (Or.inl ⟨by rfl, ?_⟩) (by assumption) ?_
    rotate_left
    · intro w hSw; go_simp; all_goals with_reducible rfl
    try simp only [Act.put, List.setIfInBounds_toArray, List.set_cons_zero, List.set_cons_succ]
    refine wpAnyH_take (i := 2) (oi := { dst := some 96, op := Op.load 70 (Operand.tmp 95), type := 70, pos := "every.go:66", after := #[{ on := 1, ground := Ground.data }], guard := none }) (v := ?_) rfl (by kernel_rfl) (by kernel_rfl) (by kernel_rfl) (fun _ _ _ h => h) (Or.inl ⟨by rfl, ?_⟩) (by assumption) ?_
    rotate_left
    · intro w hSw; go_simp; all_goals with_reducible rfl
    try simp only [Act.put, List.setIfInBounds_toArray, List.set_cons_zero, List.set_cons_succ]
    refine wpAnyH_take (i := 3) (oi := { dst := some 97, op := Op.indexAddr 70 (Operand.tmp 96) (Operand.const (Value.int IntKind.i64 0)), type := 0, pos := "every.go:66", after := #[{ on := 2, ground := Ground.data }], guard := none }) (v := ?_) rfl (by kernel_rfl) (by kernel_rfl) (by kernel_rfl) (fun _ _ _ h => h) (Or.inl ⟨by rfl, ?_⟩) (by assumption) ?_
    rotate_left
    · intro w hSw; go_simp; all_goals with_reducible rfl
    try simp only [Act.put, List.setIfInBounds_toArray, List.set_cons_zero, List.set_cons_succ]
    refine wpAnyH_take (i := 4) (oi := { dst := some 98, op := Op.load 3 (Operand.tmp 97), type := 3, pos := "every.go:66", after := #[{ on := 3, ground := Ground.data }], guard := none }) (v := ?_) rfl (by kernel_rfl) (by kernel_rfl) (by kernel_rfl) (fun _ _ _ h => h) (Or.inl ⟨by rfl, ?_⟩) (by assumption) ?_
    rotate_left
    · intro w hSw; go_simp; all_goals with_reducible rfl
    try simp only [Act.put, List.setIfInBounds_toArray, List.set_cons_zero, List.set_cons_succ]
    refine wpAnyH_take (i := 5) (oi := { dst := some 99, op := Op.move (Operand.tmp 2), type := 3, pos := "every.go:66", after := #[], guard := none }) (v := ?_) rfl (by kernel_rfl) (by kernel_rfl) (by kernel_rfl) (fun _ _ _ h => h) (Or.inl ⟨by rfl, ?_⟩) (by assumption) ?_
    rotate_left
    · intro w hSw; go_simp; all_goals with_reducible rfl
    try simp only [Act.put, List.setIfInBounds_toArray, List.set_cons_zero, List.set_cons_succ]
    refine wpAnyH_take (i := 6) (oi := { dst := some 100, op := Op.load 140 (Operand.tmp 8), type := 140, pos := "every.go:66", after := #[], guard := none }) (v := ?_) rfl (by kernel_rfl) (by kernel_rfl) (by kernel_rfl) (fun _ _ _ h => h) (Or.inl ⟨by rfl, ?_⟩) (by assumption) ?_
    rotate_left
    · intro w hSw; go_simp; all_goals with_reducible rfl
    try simp only [Act.put, List.setIfInBounds_toArray, List.set_cons_zero, List.set_cons_succ]
    refine wpAnyH_take (i := 7) (oi := { dst := some 101, op := Op.load 141 (Operand.tmp 9), type := 141, pos := "every.go:66", after := #[], guard := none }) (v := ?_) rfl (by kernel_rfl) (by kernel_rfl) (by kernel_rfl) (fun _ _ _ h => h) (Or.inl ⟨by rfl, ?_⟩) (by assumption) ?_
    rotate_left
    · intro w hSw; go_simp; all_goals with_reducible rfl
    try simp only [Act.put, List.setIfInBounds_toArray, List.set_cons_zero, List.set_cons_succ]
    refine wpAnyH_ready (rs := [8]) (by kernel_rfl) (by simp) ?_
    refine AllReadyH.cons (o := { dst := some 102, op := Op.call { callee := Callee.value (Operand.func 79), args := #[Operand.const (Value.int IntKind.i64 4), Operand.tmp 101], argTypes := #[3, 141] }, type := 141, pos := "every.go:66", after := #[{ on := 7, ground := Ground.data }], guard := none }) rfl (fun K hK => ?_) AllReadyH.nil
    go_simp
    refine (HONE1.out _ hf1.drew).mono ?_
    rintro e w2 ⟨b1, b2, g2, rfl, hg2, hb1, hb2⟩
    have HG2 := hid ((Grow.refl hf1).drew.trans hg2)
    have hf2 := hg2.fut.le hg2.le
    have HT2 := hid (one1_impl hS (HT0.out.le hg2.le) 4 hb1 hb2)
    clear hg2 hb1 hb2 HONE1
    try go_wp2_with fail
    refine hK.out _ _ ?_ (fun hHeld => ?_)
    · assumption
    clear hK K
    try simp only [Act.put, List.setIfInBounds_toArray, List.set_cons_zero, List.set_cons_succ]
    refine wpAnyH_ready (rs := [9]) (by kernel_rfl) (by simp) ?_
    refine AllReadyH.cons (o := { dst := some 103, op := Op.call { callee := Callee.value (Operand.func 57), args := #[Operand.tmp 94, Operand.tmp 98, Operand.tmp 99, Operand.tmp 100, Operand.tmp 102], argTypes := #[111, 3, 3, 140, 141] }, type := 4, pos := "every.go:66", after := #[{ on := 0, ground := Ground.data }, { on := 4, ground := Ground.data }, { on := 5, ground := Ground.data }, { on := 6, ground := Ground.data }, { on := 8, ground := Ground.data }, { on := 8, ground := Ground.chain }], guard := none }) rfl (fun K hK => ?_) AllReadyH.nil
    go_simp
    refine (HIHY.out g2 M s w2 f _ _ ok _ D (HLE0.out.trans HG2.out.le) (hS.grow HI1.out HG2.out) hlive hf (HO0.out.le HG2.out.le) HT2.out HD.out).mono ?_
    clear HIHY
    rintro e w6 hp
    rw [HR.out] at hp
    have HP := hid hp
    obtain ⟨he, g6, M6, h6, i6, l6⟩ := hp
    have he2 : e = .returned (.bool false) := he
    clear he
    subst he2
    have hf6 : Fut g1 w6 := h6.step.fut.le (HG2.out.le.trans h6.le)
    clear h6 i6 l6
    try go_wp2_with fail
    refine hK.out _ _ ?_ (fun hHeld => ?_)
    · assumption
    clear hK K
    try simp only [Act.put, List.setIfInBounds_toArray, List.set_cons_zero, List.set_cons_succ]
    refine wpAnyH_take (i := 10) (oi := { dst := some 104, op := Op.move (Operand.tmp 103), type := 4, pos := "every.go:66", after := #[{ on := 9, ground := Ground.data }, { on := 9, ground := Ground.chain }], guard := none }) (v := ?_) rfl (by kernel_rfl) (by kernel_rfl) (by kernel_rfl) (fun _ _ _ h => h) (Or.inl ⟨by rfl, ?_⟩) (by assumption) ?_
    rotate_left
    · intro w hSw; go_simp; all_goals with_reducible rfl
    try simp only [Act.put, List.setIfInBounds_toArray, List.set_cons_zero, List.set_cons_succ]
    refine wpAnyH_take (i := 11) (oi := { dst := some 105, op := Op.load 111 (Operand.tmp 5), type := 111, pos := "every.go:66", after := #[{ on := 10, ground := Ground.guard }], guard := some (10, true) }) (v := undef) rfl (by kernel_rfl) (by kernel_rfl) (by kernel_rfl) (fun _ _ _ h => h) (Or.inr ⟨by rfl, rfl⟩) (by assumption) ?_
    try simp only [Act.put, List.setIfInBounds_toArray, List.set_cons_zero, List.set_cons_succ]
    refine wpAnyH_take (i := 12) (oi := { dst := some 106, op := Op.fieldAddr 133 (Operand.tmp 11) 1, type := 0, pos := "every.go:66", after := #[{ on := 10, ground := Ground.guard }], guard := some (10, true) }) (v := undef) rfl (by kernel_rfl) (by kernel_rfl) (by kernel_rfl) (fun _ _ _ h => h) (Or.inr ⟨by rfl, rfl⟩) (by assumption) ?_
    try simp only [Act.put, List.setIfInBounds_toArray, List.set_cons_zero, List.set_cons_succ]
    refine wpAnyH_take (i := 13) (oi := { dst := some 107, op := Op.load 70 (Operand.tmp 106), type := 70, pos := "every.go:66", after := #[{ on := 12, ground := Ground.data }, { on := 10, ground := Ground.guard }], guard := some (10, true) }) (v := undef) rfl (by kernel_rfl) (by kernel_rfl) (by kernel_rfl) (fun _ _ _ h => h) (Or.inr ⟨by rfl, rfl⟩) (by assumption) ?_
    try simp only [Act.put, List.setIfInBounds_toArray, List.set_cons_zero, List.set_cons_succ]
    refine wpAnyH_take (i := 14) (oi := { dst := some 108, op := Op.indexAddr 70 (Operand.tmp 107) (Operand.const (Value.int IntKind.i64 1)), type := 0, pos := "every.go:66", after := #[{ on := 13, ground := Ground.data }, { on := 10, ground := Ground.guard }], guard := some (10, true) }) (v := undef) rfl (by kernel_rfl) (by kernel_rfl) (by kernel_rfl) (fun _ _ _ h => h) (Or.inr ⟨by rfl, rfl⟩) (by assumption) ?_
    try simp only [Act.put, List.setIfInBounds_toArray, List.set_cons_zero, List.set_cons_succ]
    refine wpAnyH_take (i := 15) (oi := { dst := some 109, op := Op.load 3 (Operand.tmp 108), type := 3, pos := "every.go:66", after := #[{ on := 14, ground := Ground.data }, { on := 10, ground := Ground.guard }], guard := some (10, true) }) (v := undef) rfl (by kernel_rfl) (by kernel_rfl) (by kernel_rfl) (fun _ _ _ h => h) (Or.inr ⟨by rfl, rfl⟩) (by assumption) ?_
    try simp only [Act.put, List.setIfInBounds_toArray, List.set_cons_zero, List.set_cons_succ]
    refine wpAnyH_take (i := 16) (oi := { dst := some 110, op := Op.move (Operand.tmp 2), type := 3, pos := "every.go:66", after := #[{ on := 10, ground := Ground.guard }], guard := some (10, true) }) (v := undef) rfl (by kernel_rfl) (by kernel_rfl) (by kernel_rfl) (fun _ _ _ h => h) (Or.inr ⟨by rfl, rfl⟩) (by assumption) ?_
    try simp only [Act.put, List.setIfInBounds_toArray, List.set_cons_zero, List.set_cons_succ]
    refine wpAnyH_take (i := 17) (oi := { dst := some 111, op := Op.load 140 (Operand.tmp 8), type := 140, pos := "every.go:66", after := #[{ on := 10, ground := Ground.guard }], guard := some (10, true) }) (v := undef) rfl (by kernel_rfl) (by kernel_rfl) (by kernel_rfl) (fun _ _ _ h => h) (Or.inr ⟨by rfl, rfl⟩) (by assumption) ?_
    try simp only [Act.put, List.setIfInBounds_toArray, List.set_cons_zero, List.set_cons_succ]
    refine wpAnyH_take (i := 18) (oi := { dst := some 112, op := Op.load 141 (Operand.tmp 9), type := 141, pos := "every.go:66", after := #[{ on := 10, ground := Ground.guard }], guard := some (10, true) }) (v := undef) rfl (by kernel_rfl) (by kernel_rfl) (by kernel_rfl) (fun _ _ _ h => h) (Or.inr ⟨by rfl, rfl⟩) (by assumption) ?_
    try simp only [Act.put, List.setIfInBounds_toArray, List.set_cons_zero, List.set_cons_succ]
    refine wpAnyH_take (i := 19) (oi := { dst := some 113, op := Op.call { callee := Callee.value (Operand.func 79), args := #[Operand.const (Value.int IntKind.i64 5), Operand.tmp 112], argTypes := #[3, 141] }, type := 141, pos := "every.go:66", after := #[{ on := 18, ground := Ground.data }, { on := 10, ground := Ground.chain }, { on := 10, ground := Ground.guard }], guard := some (10, true) }) (v := undef) rfl (by kernel_rfl) (by kernel_rfl) (by kernel_rfl) (fun _ _ _ h => h) (Or.inr ⟨by rfl, rfl⟩) (by assumption) ?_
    try simp only [Act.put, List.setIfInBounds_toArray, List.set_cons_zero, List.set_cons_succ]
    refine wpAnyH_take (i := 20) (oi := { dst := some 114, op := Op.call { callee := Callee.value (Operand.func 57), args := #[Operand.tmp 105, Operand.tmp 109, Operand.tmp 110, Operand.tmp 111, Operand.tmp 113], argTypes := #[111, 3, 3, 140, 141] }, type := 4, pos := "every.go:66", after := #[{ on := 11, ground := Ground.data }, { on := 15, ground := Ground.data }, { on := 16, ground := Ground.data }, { on := 17, ground := Ground.data }, { on := 19, ground := Ground.data }, { on := 19, ground := Ground.chain }, { on := 10, ground := Ground.guard }], guard := some (10, true) }) (v := undef) rfl (by kernel_rfl) (by kernel_rfl) (by kernel_rfl) (fun _ _ _ h => h) (Or.inr ⟨by rfl, rfl⟩) (by assumption) ?_
    try simp only [Act.put, List.setIfInBounds_toArray, List.set_cons_zero, List.set_cons_succ]
    refine wpAnyH_take (i := 21) (oi := { dst := some 115, op := Op.pick (Operand.tmp 104) (Operand.tmp 114) (Operand.const (Value.bool false)), type := 4, pos := "every.go:66", after := #[{ on := 10, ground := Ground.data }, { on := 20, ground := Ground.data }], guard := none }) (v := ?_) rfl (by kernel_rfl) (by kernel_rfl) (by kernel_rfl) (fun _ _ _ h => h) (Or.inl ⟨by rfl, ?_⟩) (by assumption) ?_
    rotate_left
    · intro w hSw; go_simp; all_goals with_reducible rfl
    try simp only [Act.put, List.setIfInBounds_toArray, List.set_cons_zero, List.set_cons_succ]
    refine wpAnyH_take (i := 22) (oi := { dst := some 10, op := Op.assign (Operand.tmp 115), type := 4, pos := "every.go:66", after := #[{ on := 21, ground := Ground.data }, { on := 20, ground := Ground.chain }, { on := 0, ground := Ground.phase }, { on := 1, ground := Ground.phase }, { on := 2, ground := Ground.phase }, { on := 3, ground := Ground.phase }, { on := 4, ground := Ground.phase }, { on := 5, ground := Ground.phase }, { on := 6, ground := Ground.phase }, { on := 7, ground := Ground.phase }, { on := 8, ground := Ground.phase }, { on := 9, ground := Ground.phase }, { on := 10, ground := Ground.phase }, { on := 11, ground := Ground.phase }, { on := 12, ground := Ground.phase }, { on := 13, ground := Ground.phase }, { on := 14, ground := Ground.phase }, { on := 15, ground := Ground.phase }, { on := 16, ground := Ground.phase }, { on := 17, ground := Ground.phase }, { on := 18, ground := Ground.phase }, { on := 19, ground := Ground.phase }, { on := 20, ground := Ground.phase }, { on := 21, ground := Ground.phase }], guard := none }) (v := ?_) rfl (by kernel_rfl) (by kernel_rfl) (by kernel_rfl) (fun _ _ _ h => h) (Or.inl ⟨by rfl, ?_⟩) (by assumption) ?_
    rotate_left
    · intro w hSw; go_simp; all_goals with_reducible rfl
    try simp only [Act.put, List.setIfInBounds_toArray, List.set_cons_zero, List.set_cons_succ]
    refine wpAnyH_done (by kernel_rfl) ?_ _
    refine NoPanic.normal ?_
    go_wp2_with fail
    go_ret
    rw [HF.out]
    exact HP.out.pre ((HG1.out.trans HG2.out).istep M)
  | true =>
    go_enter Try.func57, Try.ntmps57
    go_wp2_with fail
    go_region_held3 (fun w' => Fut g1 w') (first | exact Fut.drew (by assumption) | exact Fut.alloc (by assumption) _ | assumption) (first | (go_at_call 79; refine (HONE1.out _ hf1.drew).mono ?_; rintro e w2 ⟨b1, b2, g2, rfl, hg2, hb1, hb2⟩; have HG2 := hid ((Grow.refl hf1).drew.trans hg2); have hf2 := hg2.fut.le hg2.le; have HT2 := hid (one1_impl hS (HT0.out.le hg2.le) 4 hb1 hb2); clear hg2 hb1 hb2 HONE1) | (go_at_call 57; refine (HIHY.out g2 M s w2 f _ _ ok _ D (HLE0.out.trans HG2.out.le) (hS.grow HI1.out HG2.out) hlive hf (HO0.out.le HG2.out.le) HT2.out HD.out).mono ?_; clear HIHY; rintro e w6 hp; rw [HR.out] at hp; have HP := hid hp; obtain ⟨he, g6, M6, h6, i6, l6⟩ := hp; have he2 : e = .returned (.bool true) := he; clear he; subst he2; have hf6 : Fut g1 w6 := h6.step.fut.le (HG2.out.le.trans h6.le); have H6 := hid h6; have I6 := hid i6; have L6 := hid l6; clear h6 i6 l6) | (go_at_call 79; refine (HONE2.out g6 w6 (HG2.out.le.trans H6.out.le) H6.out.step.fut).mono ?_; rintro e w7 ⟨b3, b4, g7, rfl, hg7, hb3, hb4⟩; have HG7 := hid hg7; have hf7 := hg7.fut.le ((HG2.out.le.trans H6.out.le).trans hg7.le); have HT7 := hid (one1_impl hS (HT0.out.le ((HG2.out.le.trans H6.out.le).trans hg7.le)) 5 hb3 hb4); clear hg7 hb3 hb4 HONE2) | (go_at_call 57; refine (HIHZ.out g7 M6 s1 w7 f _ _ ok _ D (HLE0.out.trans ((HG2.out.le.trans H6.out.le).trans HG7.out.le)) (hS.grow I6.out HG7.out) (L6.out trivial) hf (HO0.out.le ((HG2.out.le.trans H6.out.le).trans HG7.out.le)) HT7.out HD.out).mono ?_; rintro e w8 hp; have HP8 := hid hp; have hf8 : Fut g1 w8 := (by obtain ⟨-, g8, M8, h8, -⟩ := hp; exact h8.step.fut.le (((HG2.out.le.trans H6.out.le).trans HG7.out.le).trans h8.le)); obtain ⟨rfl, -⟩ := hp) | fail)
    all_goals go_wp2_with fail
    all_goals go_ret
    all_goals rw [HF.out]
    all_goals exact HP8.out.pre (((HG1.out.trans HG2.out).istep M).trans (H6.out.trans (HG7.out.istep M6)))

end Go.Proofs.Ytjodmimnbpgfcaa

/- Each5 -/
namespace Go.Proofs.Ytjodmimnbpgfcaa
open Go.RowKit Go.IntWalk

set_option maxRecDepth 100000 in
set_option maxHeartbeats 4000000 in
theorem each_5 {σ : Type} {I : Inv σ} {live : σ → Prop} {T : Tab} {g0 : G} {mb i : Nat} {x y : Core} (hS : Sys T g0 mb I) (hx : (flatC T.c)[i]? = some x) (hk : x.kind = 5) (hl : x.l = [y]) (hre : x.re = .star y.re) (IH : ∀ (y : Core) (j : Nat), nodes y < nodes x → (flatC T.c)[j]? = some y → EachSpec I live T mb g0 j y.re) : EachSpec I live T mb g0 i x.re := by
  intro g M s w f okv tkv ok tk D hle0 hI hlive hf ho h hD
  have hw := hS.fut hI
  have ho0 := ho
  have h0 := h
  obtain ⟨Fo, co, rfl, hFo, hoc⟩ := ho
  obtain ⟨Ft, ct, rfl, hFt, htc⟩ := h
  obtain ⟨r, ka, kn, kcap, hpm⟩ := hS.tab.parts i x hx
  obtain ⟨g1, hg1, e1, e2, e3, e4⟩ := box4 hw (.cells #[.pointer (some ⟨mb, 0, none⟩)] 111) (.cells #[.func (.func Fo) #[] co] 140) (.cells #[.func (.func Ft) #[] ct] 141) (.cells #[.int .i64 5, .int .u64 r.s.a, .int .u64 r.s.b, .int .u64 r.s.c, .int .u64 r.s.d, .int .i64 r.n, .slice r.a r.len r.cap, .slice ka kn kcap] 133)
  have k1 := fut_cell e1 0 _ rfl
  have k2 := fut_cell e2 0 _ rfl
  have k3 := fut_cell e3 0 _ rfl
  have k5 := fut_cell e4 7 _ rfl
  have m1 := fut_cell (hle0.blk _ _ hS.maker) 0 _ rfl
  have m2 := fut_cell (hle0.blk _ _ hS.maker) 1 _ rfl
  have t0 := fut_cell (hle0.blk _ _ hS.tab.tab) 0 _ rfl
  have hfew := hS.tab.few
  have hshort := hS.tab.short
  have hin := flat_lt hx
  have hii : (i : Int) < (nodes T.c : Int) := by omega
  have hpc := hpm.c.le hle0
  obtain ⟨q0, q1, q2, q3, q4, q5, q6⟩ := hpc
  have q7 := fun w (hw : Fut g w) => hpm.c7 w (hw.le hle0)
  rw [hpm.k, hk] at q0
  have fa := fun o => hw.alloc o
  have fa2 := fun o o2 => (hw.alloc o).alloc o2
  have fa3 := fun o o2 o3 => ((hw.alloc o).alloc o2).alloc o3
  have fa4 := fun o o2 o3 o4 => (((hw.alloc o).alloc o2).alloc o3).alloc o4
  have HPM := hid hpm
  have HG1 := hid hg1
  have HI := hid hI
  have HI1 := hid (hS.grow hI hg1)
  have HOC := hid hoc
  have HTC := hid htc
  have HX := hid hx
  have HRE := hid hre
  have HD := hid hD
  have HO0 := hid (ho0.le hg1.le)
  have HT0 := hid (h0.le hg1.le)
  have HLE0 := hid (hle0.trans hg1.le)
  have HE := hid (And.intro e1 (And.intro e2 (And.intro e3 e4)))
  have hf1 := hg1.fut
  have hlg : ∀ w', Fut g1 w' → Fut g w' := fun w' h => h.le hg1.le
  clear hpm hI hoc htc hx hg1 e1 e2 e3 e4 hre hD hk ho0 h0 hle0
  unfold Callable at hFo hFt
  have hny : nodes y < nodes x := by
    cases x with
    | mk k s n l =>
      have := hl
      simp only [Core.l] at this
      subst this
      simp only [nodes, nodesL]; omega
  have hkids := HPM.out.kids.le HLE0.out
  rw [hl] at hkids
  obtain ⟨kb, koff, hka, hkc⟩ := hkids.get (i := 0) (by simp [kidIdx])
  have hkn := hkids.length
  simp only [List.length_map, kidIdx_len, List.length_cons, List.length_nil, Nat.zero_add] at hkn
  obtain ⟨rfl, hkn2, hkn3⟩ := hkn
  have hk0 : ∀ w, Fut g1 w → w.cell? ⟨kb, koff, none⟩ = some (.int .i64 ((i + 1 : Nat) : Int)) := hkc 0 (natV (i + 1)) rfl
  obtain ⟨j, hj1, hj2, -⟩ := flat_kid HX.out (j := 0) (y := y) (by rw [hl]; rfl)
  rw [hl] at hj1
  simp only [kidIdx, List.getElem?_cons_zero, Option.some.injEq] at hj1
  subst hj1
  obtain ⟨ki0, hki0⟩ : ∃ ki0, ki0 = i + 1 := ⟨_, rfl⟩
  rw [← hki0] at hk0 hj2
  have IHy := IH y ki0 hny hj2
  have HJ2 := hid hj2
  subst hka
  clear hkids hkc hny hj2 hkn2 hkn3 hki0 IH hl
  have fin : runT tk (ways T.s x.re f ok) s = runT tk (oftenW (ways T.s y.re) (reachF (endsF T.s y.re) ok T.s.length) ok (T.s.length + 1 - f) f []) s := by
    rw [HRE.out, ways]
  have hr := reach_any hS HLE0.out HJ2.out (by omega) HO0.out (hS.grow HI1.out (Grow.refl hf1).drew)
  have hof := often_any (may := reachF (endsF T.s y.re) ok T.s.length) hS (by omega) IHy (T.s.length + 1 - f)
  have HR := hid hr
  have HOF := hid hof
  have HF := hid fin
  clear IHy fin hr hof
  go_enter Try.func57, Try.ntmps57
  go_wp2_with fail
  go_region_held3 (fun w' => Fut g1 w') (first | exact Fut.drew (by assumption) | exact Fut.alloc (by assumption) _ | assumption) (first | (go_at_call 81; refine HR.out.mono ?_; rintro e w2 ⟨g2, M2, ma, rfl, hg2, hi2, hs2⟩; have HG2 := hid (((Grow.refl hf1).drew.istep M).trans hg2); have hf2 := hg2.step.fut.le hg2.le; have HI2 := hid hi2; have HS2 := hid hs2; clear hg2 hi2 hs2) | (go_at_call 80; refine (HOF.out g2 M2 s w2 f [] none 0 _ _ ok tk D ma (T.s.length + 1) (HLE0.out.trans HG2.out.le) HI2.out hlive hf (Nat.le_refl _) (Nat.zero_le _) (.nil 0 0) HS2.out (HO0.out.le HG2.out.le) (HT0.out.le HG2.out.le) HD.out).mono ?_; rintro e w6 hp; have HP := hid hp; have hf6 : Fut g1 w6 := (by obtain ⟨-, g6, M6, h6, -⟩ := hp; exact h6.step.fut.le (HG2.out.le.trans h6.le)); obtain ⟨rfl, -⟩ := hp) | fail)
  all_goals go_wp2_with fail
  all_goals go_ret
  all_goals rw [HF.out]
  all_goals exact HP.out.pre ((HG1.out.istep M).trans HG2.out)

end Go.Proofs.Ytjodmimnbpgfcaa

/- Each6 -/
namespace Go.Proofs.Ytjodmimnbpgfcaa
open Go.RowKit Go.IntWalk

set_option maxRecDepth 100000 in
set_option maxHeartbeats 4000000 in
theorem each_6 {σ : Type} {I : Inv σ} {live : σ → Prop} {T : Tab} {g0 : G} {mb i : Nat} {x y : Core} (hS : Sys T g0 mb I) (hx : (flatC T.c)[i]? = some x) (hk : x.kind = 6) (hl : x.l = [y]) (hre : x.re = .group y.re) (IH : ∀ (y : Core) (j : Nat), nodes y < nodes x → (flatC T.c)[j]? = some y → EachSpec I live T mb g0 j y.re) : EachSpec I live T mb g0 i x.re := by
  intro g M s w f okv tkv ok tk D hle0 hI hlive hf ho h hD
  have hw := hS.fut hI
  have ho0 := ho
  have h0 := h
  obtain ⟨Fo, co, rfl, hFo, hoc⟩ := ho
  obtain ⟨Ft, ct, rfl, hFt, htc⟩ := h
  obtain ⟨r, ka, kn, kcap, hpm⟩ := hS.tab.parts i x hx
  obtain ⟨g1, hg1, e1, e2, e3, e4⟩ := box4 hw (.cells #[.pointer (some ⟨mb, 0, none⟩)] 111) (.cells #[.func (.func Fo) #[] co] 140) (.cells #[.func (.func Ft) #[] ct] 141) (.cells #[.int .i64 6, .int .u64 r.s.a, .int .u64 r.s.b, .int .u64 r.s.c, .int .u64 r.s.d, .int .i64 r.n, .slice r.a r.len r.cap, .slice ka kn kcap] 133)
  have k1 := fut_cell e1 0 _ rfl
  have k2 := fut_cell e2 0 _ rfl
  have k3 := fut_cell e3 0 _ rfl
  have k5 := fut_cell e4 7 _ rfl
  have m1 := fut_cell (hle0.blk _ _ hS.maker) 0 _ rfl
  have m2 := fut_cell (hle0.blk _ _ hS.maker) 1 _ rfl
  have t0 := fut_cell (hle0.blk _ _ hS.tab.tab) 0 _ rfl
  have hfew := hS.tab.few
  have hshort := hS.tab.short
  have hin := flat_lt hx
  have hii : (i : Int) < (nodes T.c : Int) := by omega
  have hpc := hpm.c.le hle0
  obtain ⟨q0, q1, q2, q3, q4, q5, q6⟩ := hpc
  have q7 := fun w (hw : Fut g w) => hpm.c7 w (hw.le hle0)
  rw [hpm.k, hk] at q0
  have fa := fun o => hw.alloc o
  have fa2 := fun o o2 => (hw.alloc o).alloc o2
  have fa3 := fun o o2 o3 => ((hw.alloc o).alloc o2).alloc o3
  have fa4 := fun o o2 o3 o4 => (((hw.alloc o).alloc o2).alloc o3).alloc o4
  have HPM := hid hpm
  have HG1 := hid hg1
  have HI := hid hI
  have HI1 := hid (hS.grow hI hg1)
  have HOC := hid hoc
  have HTC := hid htc
  have HX := hid hx
  have HRE := hid hre
  have HD := hid hD
  have HO0 := hid (ho0.le hg1.le)
  have HT0 := hid (h0.le hg1.le)
  have HLE0 := hid (hle0.trans hg1.le)
  have HE := hid (And.intro e1 (And.intro e2 (And.intro e3 e4)))
  have hf1 := hg1.fut
  have hlg : ∀ w', Fut g1 w' → Fut g w' := fun w' h => h.le hg1.le
  clear hpm hI hoc htc hx hg1 e1 e2 e3 e4 hre hD hk ho0 h0 hle0
  unfold Callable at hFo hFt
  have hny : nodes y < nodes x := by
    cases x with
    | mk k s n l =>
      have := hl
      simp only [Core.l] at this
      subst this
      simp only [nodes, nodesL]; omega
  have hkids := HPM.out.kids.le HLE0.out
  rw [hl] at hkids
  obtain ⟨kb, koff, hka, hkc⟩ := hkids.get (i := 0) (by simp [kidIdx])
  have hkn := hkids.length
  simp only [List.length_map, kidIdx_len, List.length_cons, List.length_nil, Nat.zero_add] at hkn
  obtain ⟨rfl, hkn2, hkn3⟩ := hkn
  have hk0 : ∀ w, Fut g1 w → w.cell? ⟨kb, koff, none⟩ = some (.int .i64 ((i + 1 : Nat) : Int)) := hkc 0 (natV (i + 1)) rfl
  obtain ⟨j, hj1, hj2, -⟩ := flat_kid HX.out (j := 0) (y := y) (by rw [hl]; rfl)
  rw [hl] at hj1
  simp only [kidIdx, List.getElem?_cons_zero, Option.some.injEq] at hj1
  subst hj1
  obtain ⟨ki0, hki0⟩ : ∃ ki0, ki0 = i + 1 := ⟨_, rfl⟩
  rw [← hki0] at hk0 hj2
  have IHy := IH y ki0 hny hj2
  have HJ2 := hid hj2
  subst hka
  clear hkids hkc hny hj2 hkn2 hkn3 hki0 IH hl
  have fin : runT tk (ways T.s x.re f ok) s = runT (fun v t s => tk (.mk 7 0 [v]) t s) (ways T.s y.re f ok) s := by
    rw [HRE.out, ways, runT_map]
  have HF := hid fin
  have HIH := hid IHy
  have HO1 := fun (w : World) (hw : Fut g1 w) => one_any (g := g1) 7 Ft ct w hw
  have HONE := hid HO1
  clear IHy fin HO1
  go_enter Try.func57, Try.ntmps57
  go_wp2_with fail
  go_region_held3 (fun w' => Fut g1 w') (first | exact Fut.drew (by assumption) | exact Fut.alloc (by assumption) _ | assumption) (first | (go_at_call 79; refine (HONE.out _ hf1.drew).mono ?_; rintro e w2 ⟨b1, b2, g2, rfl, hg2, hb1, hb2⟩; have HG2 := hid ((Grow.refl hf1).drew.trans hg2); have hf2 := hg2.fut.le hg2.le; have HT2 := hid (one1_impl hS (HT0.out.le hg2.le) 7 hb1 hb2); clear hg2 hb1 hb2) | (go_at_call 57; refine (HIH.out g2 M s w2 f _ _ ok _ D (HLE0.out.trans HG2.out.le) (hS.grow HI1.out HG2.out) hlive hf (HO0.out.le HG2.out.le) HT2.out HD.out).mono ?_; rintro e w6 hp; have HP := hid hp; have hf6 : Fut g1 w6 := (by obtain ⟨-, g6, M6, h6, -⟩ := hp; exact h6.step.fut.le (HG2.out.le.trans h6.le)); obtain ⟨rfl, -⟩ := hp) | fail)
  all_goals go_wp2_with fail
  all_goals go_ret
  all_goals rw [HF.out]
  all_goals exact HP.out.pre ((HG1.out.trans HG2.out).istep M)

end Go.Proofs.Ytjodmimnbpgfcaa
