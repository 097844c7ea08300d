/- some's closures. A library text: no claim is stated here. -/
import Derived.Test.YtjodmimnbpgfcaaS38

/- SomeB -/
namespace Go.Proofs.Ytjodmimnbpgfcaa
open Go.RowKit Go.IntWalk

theorem some1_impl {σ : Type} {I : Inv σ} {T : Tab} {g0 g : G} {mb : Nat} (hS : Sys T g0 mb I) {sa : Option Addr} {sc b1 : Nat} (hb1 : g.blk b1 = some (.cells #[.slice sa T.s.length sc] 28)) :
    ImplOk I T.s.length g (.func (.func 58) #[] #[.pointer (some ⟨b1, 0, none⟩)]) (fun t => t == T.s.length) := by
  refine ⟨58, _, rfl, Try.call58, fun g' M s w t hle hI ht => ?_⟩
  have hw := hS.fut hI
  have k1 := fut_cell (hle.blk _ _ hb1) 0 _ rfl
  have HI := hid hI
  clear hI hb1
  simp only [List.append_toArray, List.cons_append, List.nil_append]
  go_enter Try.func58, Try.ntmps58
  go_wp2_with fail
  go_ret
  exact ⟨ret_bool (by rw [Bool.eq_iff_iff]; simp; omega), _, _, (Grow.refl hw).istep M, HI.out⟩

/-- Behind the append. -/
theorem some_app {T : Tab} {lb : Nat} {g : G} {M M1 : Nat → Prop} {l : List Val} {W w3 : World} {la : Option Addr} {lc kb kcap : Nat} {rs : List VRow} {o : Obj} {xs : List Value} (h : LI0 T lb g M l W M1 (.slice la l.length lc) rs)
    (hg : (W.alloc o).drew.grownBy w3 (Value.ownBlock (.slice la l.length lc))) (_ho : w3.ownsRow 0 48 3 (.slice (some ⟨kb, 0, none⟩) (l.length + 1) kcap) (l.length + 1) xs) (hat : Value.ownBlock (.slice la l.length lc) = some kb ∨ kb = (W.alloc o).drew.heap.size) :
    Step (fun b => b = lb ∨ Value.ownBlock (.slice la l.length lc) = some b) g W g w3 ∧ kb ≠ lb ∧ g.blk kb = none ∧ (Value.ownBlock (.slice la l.length lc) = some kb ∨ W.heap.size ≤ kb) ∧ w3.heap[lb]? = some (.cells #[.slice la l.length lc] 41) := by
  have hlb := h.out lb ((h.mem lb).2 (.inr (.inl rfl)))
  have hs : Step (fun b => b = lb ∨ Value.ownBlock (.slice la l.length lc) = some b) g W g w3 := ((Step.refl _ h.fut).alloc o).drew.grown hg (fun k hk => ⟨.inl (.inr hk), (h.out k ((h.mem k).2 (.inr (.inr hk)))).1⟩)
  have hkb : Value.ownBlock (.slice la l.length lc) = some kb ∨ W.heap.size ≤ kb := by
    rcases hat with h1 | h1
    · exact .inl h1
    · right
      have : (W.alloc o).drew.heap.size = W.heap.size + 1 := by
        show (W.alloc o).heap.size = _
        rw [World.size_alloc]
      omega
  refine ⟨hs, ?_, ?_, hkb, ?_⟩
  · rcases hkb with h1 | h1
    · exact (h.nown kb h1).2
    · intro e; subst e; omega
  · rcases hkb with h1 | h1
    · exact (h.out kb ((h.mem kb).2 (.inr (.inr h1)))).1
    · exact h.fut.none_of_size h1
  · have h1 := hg.block lb (by show lb < (W.alloc o).heap.size; rw [World.size_alloc]; omega) (fun e => (h.nown lb e.symm).2 rfl)
    rw [h1]
    show (W.alloc o).heap[lb]? = _
    rw [Below.heap_alloc _ _ _ hlb.2]
    exact h.box

theorem some_cells {kb kcap n : Nat} {w3 : World} {rs : List VRow} (hr : rs.length = n) (ho : w3.ownsRow 0 48 3 (.slice (some ⟨kb, 0, none⟩) (n + 1) kcap) (n + 1) (rowsCells rs ++ [.int .i64 0, .int .u8 0, .slice none 0 0])) :
    w3.cell? ⟨kb, n * 3, none⟩ = some (.int .i64 0) ∧ w3.cell? ⟨kb, n * 3 + 1, none⟩ = some (.int .u8 0) ∧ w3.cell? ⟨kb, n * 3 + 2, none⟩ = some (.slice none 0 0) ∧
    w3.frozen? ⟨kb, n * 3, none⟩ = false ∧ w3.frozen? ⟨kb, n * 3 + 1, none⟩ = false ∧ w3.frozen? ⟨kb, n * 3 + 2, none⟩ = false := by
  have hl : (rowsCells rs).length = n * 3 := by rw [rowsCells_length, hr]
  refine ⟨?_, ?_, ?_, ho.frozenAt _, ho.frozenAt _, ho.frozenAt _⟩
  · rw [ho.cellAt _ (by omega), List.getElem?_append_right (by omega), hl, Nat.sub_self]; rfl
  · rw [ho.cellAt _ (by omega), List.getElem?_append_right (by omega), hl, show n * 3 + 1 - n * 3 = 1 by omega]; rfl
  · rw [ho.cellAt _ (by omega), List.getElem?_append_right (by omega), hl, show n * 3 + 2 - n * 3 = 2 by omega]; rfl

/-- Behind the stores. -/
theorem some_fin {T : Tab} {lb : Nat} {g : G} {M M1 : Nat → Prop} {l : List Val} {W w5 : World} {la : Option Addr} {lc kb kcap : Nat} {rs : List VRow} {r : VRow} {v : Val} (h : LI0 T lb g M l W M1 (.slice la l.length lc) rs)
    (hs : Step (fun b => b = lb ∨ Value.ownBlock (.slice la l.length lc) = some b) g W g w5) (hkl : kb ≠ lb) (hkg : g.blk kb = none) (hkb : Value.ownBlock (.slice la l.length lc) = some kb ∨ W.heap.size ≤ kb)
    (hbox : w5.heap[lb]? = some (.cells #[.slice (some ⟨kb, 0, none⟩) (l.length + 1) kcap] 41)) (ho : w5.ownsRow 0 48 3 (.slice (some ⟨kb, 0, none⟩) (l.length + 1) kcap) (l.length + 1) (rowsCells (rs ++ [r]))) (hv : ValV g r v) :
    ∃ M', IStep g M W g M' w5 ∧ LI T lb g M' (l ++ [v]) w5 := by
  have hlb := h.out lb ((h.mem lb).2 (.inr (.inl rfl)))
  refine ⟨fun b => M1 b ∨ b = lb ∨ Value.ownBlock (.slice (some ⟨kb, 0, none⟩) (l.length + 1) kcap) = some b, ⟨hs.mono ?_, ?_⟩, M1, _, rs ++ [r], hs.fut, ?_, hbox, ?_, h.rows.snoc hv, fun _ => Iff.rfl, h.nlb, ?_, ?_, by simp⟩
  · rintro b (rfl | hb)
    · exact (h.mem b).2 (.inr (.inl rfl))
    · exact (h.mem b).2 (.inr (.inr hb))
  · rintro b (hb | rfl | hb)
    · exact .inl ((h.mem b).2 (.inl hb))
    · exact .inl ((h.mem b).2 (.inr (.inl rfl)))
    · simp only [Value.ownBlock, Option.some.injEq] at hb
      subst hb
      rcases hkb with h1 | h1
      · exact .inl ((h.mem _).2 (.inr (.inr h1)))
      · exact .inr h1
  · refine h.tab.le hs (fun b hb => ?_)
    rintro (rfl | h1)
    · exact h.nlb hb
    · exact (h.nown b h1).1 hb
  · simpa using ho
  · intro b hb
    simp only [Value.ownBlock, Option.some.injEq] at hb
    subst hb
    refine ⟨fun h1 => ?_, hkl⟩
    rcases hkb with h2 | h2
    · exact (h.nown _ h2).1 h1
    · have := hs.size
      have h3 := (h.out _ ((h.mem _).2 (.inl h1))).2
      omega
  · have key : ∀ b, M b → g.blk b = none ∧ b < w5.heap.size := fun b hb => ⟨(h.out b hb).1, Nat.lt_of_lt_of_le (h.out b hb).2 hs.size⟩
    rintro b (hb | rfl | hb)
    · exact key b ((h.mem b).2 (.inl hb))
    · exact key b ((h.mem b).2 (.inr (.inl rfl)))
    · have hlt := (ho.lt b hb).2
      simp only [Value.ownBlock, Option.some.injEq] at hb
      subst hb
      exact ⟨hkg, hlt⟩

theorem some_set {rs : List VRow} {n : Nat} (hr : rs.length = n) (r : VRow) :
    (((rowsCells rs ++ ([.int .i64 0, .int .u8 0, .slice none 0 0] : List Value)).set (n * 3) (Value.int .i64 r.k)).set (n * 3 + 1) (Value.int .u8 r.b)).set (n * 3 + 2) (Value.slice r.a r.len r.cap) = rowsCells (rs ++ [r]) := by
  have hl : (rowsCells rs).length = n * 3 := by rw [rowsCells_length, hr]
  rw [← hl, rowsCells_append]
  generalize rowsCells rs = A
  have h0 : ∀ (A B : List Value) (i : Nat) (u : Value), (A ++ B).set (A.length + i) u = A ++ B.set i u := fun A B i u => by
    rw [List.set_append_right _ _ (Nat.le_add_right _ _), Nat.add_sub_cancel_left]
  have h1 := h0 A [.int .i64 0, .int .u8 0, .slice none 0 0] 0 (.int .i64 r.k)
  rw [Nat.add_zero] at h1
  rw [h1, h0, h0]
  simp [rowsCells, VRow.cells]

section
variable {T : Tab} {lb : Nat} {g : G} {M M1 : Nat → Prop} {l : List Val} {W w3 : World} {la : Option Addr} {lc kb kcap : Nat} {rs : List VRow} {r : VRow} {v : Val}

theorem some_endA (h : LI0 T lb g M l W M1 (.slice la l.length lc) rs)
    (hap : Step (fun b => b = lb ∨ Value.ownBlock (.slice la l.length lc) = some b) g W g w3 ∧ kb ≠ lb ∧ g.blk kb = none ∧ (Value.ownBlock (.slice la l.length lc) = some kb ∨ W.heap.size ≤ kb) ∧ w3.heap[lb]? = some (.cells #[.slice la l.length lc] 41))
    (ho : w3.ownsRow 0 48 3 (.slice (some ⟨kb, 0, none⟩) (l.length + 1) kcap) (l.length + 1) (rowsCells rs ++ [.int .i64 0, .int .u8 0, .slice none 0 0])) (hv : ValV g r v) :
    ∃ M', IStep g M W g M' ((((w3.setCell ⟨kb, l.length * 3, none⟩ (.int .i64 r.k)).setCell ⟨kb, l.length * 3 + 1, none⟩ (.int .u8 r.b)).setCell ⟨kb, l.length * 3 + 2, none⟩ (.slice r.a r.len r.cap)).setCell ⟨lb, 0, none⟩ (.slice (some ⟨kb, 0, none⟩) (l.length + 1) kcap)) ∧
      LI T lb g M' (l ++ [v]) ((((w3.setCell ⟨kb, l.length * 3, none⟩ (.int .i64 r.k)).setCell ⟨kb, l.length * 3 + 1, none⟩ (.int .u8 r.b)).setCell ⟨kb, l.length * 3 + 2, none⟩ (.slice r.a r.len r.cap)).setCell ⟨lb, 0, none⟩ (.slice (some ⟨kb, 0, none⟩) (l.length + 1) kcap)) := by
  obtain ⟨h1, h2, h3, h4, h5⟩ := hap
  have hlg := (h.out lb ((h.mem lb).2 (.inr (.inl rfl)))).1
  have hkn : (fun b => b = lb ∨ Value.ownBlock (.slice la l.length lc) = some b) kb ∨ W.heap.size ≤ kb := by
    rcases h4 with h4 | h4
    · exact .inl (.inr h4)
    · exact .inr h4
  have ho3 := (((ho.stored (l.length * 3) (.int .i64 r.k)).1.stored (l.length * 3 + 1) (.int .u8 r.b)).1.stored (l.length * 3 + 2) (.slice r.a r.len r.cap)).1
  rw [some_set h.rows.1] at ho3
  refine some_fin h ((((h1.setCell (a := ⟨kb, _, none⟩) h3 hkn _).setCell (a := ⟨kb, _, none⟩) h3 hkn _).setCell (a := ⟨kb, _, none⟩) h3 hkn _).setCell (a := ⟨lb, 0, none⟩) hlg (.inl (.inl rfl)) _) h2 h3 h4 ?_ (ownsRow_setCell_ne ho3 (by simp [Value.ownBlock]; exact h2) _) hv
  have e : ∀ (w : World) (o : Nat) (u : Value), (w.setCell ⟨kb, o, none⟩ u).heap[lb]? = w.heap[lb]? := fun w o u => heap_setCell_other w _ lb u (Ne.symm h2)
  exact heap_setCell_same (((e _ _ _).trans ((e _ _ _).trans (e _ _ _))).trans h5) _

theorem some_endB (h : LI0 T lb g M l W M1 (.slice la l.length lc) rs)
    (hap : Step (fun b => b = lb ∨ Value.ownBlock (.slice la l.length lc) = some b) g W g w3 ∧ kb ≠ lb ∧ g.blk kb = none ∧ (Value.ownBlock (.slice la l.length lc) = some kb ∨ W.heap.size ≤ kb) ∧ w3.heap[lb]? = some (.cells #[.slice la l.length lc] 41))
    (ho : w3.ownsRow 0 48 3 (.slice (some ⟨kb, 0, none⟩) (l.length + 1) kcap) (l.length + 1) (rowsCells rs ++ [.int .i64 0, .int .u8 0, .slice none 0 0])) (hv : ValV g r v) :
    ∃ M', IStep g M W g M' ((((w3.setCell ⟨lb, 0, none⟩ (.slice (some ⟨kb, 0, none⟩) (l.length + 1) kcap)).setCell ⟨kb, l.length * 3, none⟩ (.int .i64 r.k)).setCell ⟨kb, l.length * 3 + 1, none⟩ (.int .u8 r.b)).setCell ⟨kb, l.length * 3 + 2, none⟩ (.slice r.a r.len r.cap)) ∧
      LI T lb g M' (l ++ [v]) ((((w3.setCell ⟨lb, 0, none⟩ (.slice (some ⟨kb, 0, none⟩) (l.length + 1) kcap)).setCell ⟨kb, l.length * 3, none⟩ (.int .i64 r.k)).setCell ⟨kb, l.length * 3 + 1, none⟩ (.int .u8 r.b)).setCell ⟨kb, l.length * 3 + 2, none⟩ (.slice r.a r.len r.cap)) := by
  obtain ⟨h1, h2, h3, h4, h5⟩ := hap
  have hlg := (h.out lb ((h.mem lb).2 (.inr (.inl rfl)))).1
  have hkn : (fun b => b = lb ∨ Value.ownBlock (.slice la l.length lc) = some b) kb ∨ W.heap.size ≤ kb := by
    rcases h4 with h4 | h4
    · exact .inl (.inr h4)
    · exact .inr h4
  have ho0 := ownsRow_setCell_ne ho (a := ⟨lb, 0, none⟩) (by simp [Value.ownBlock]; exact h2) (.slice (some ⟨kb, 0, none⟩) (l.length + 1) kcap)
  have ho3 := (((ho0.stored (l.length * 3) (.int .i64 r.k)).1.stored (l.length * 3 + 1) (.int .u8 r.b)).1.stored (l.length * 3 + 2) (.slice r.a r.len r.cap)).1
  rw [some_set h.rows.1] at ho3
  refine some_fin h ((((h1.setCell (a := ⟨lb, 0, none⟩) hlg (.inl (.inl rfl)) _).setCell (a := ⟨kb, _, none⟩) h3 hkn _).setCell (a := ⟨kb, _, none⟩) h3 hkn _).setCell (a := ⟨kb, _, none⟩) h3 hkn _) h2 h3 h4 ?_ ho3 hv
  have e : ∀ (w : World) (o : Nat) (u : Value), (w.setCell ⟨kb, o, none⟩ u).heap[lb]? = w.heap[lb]? := fun w o u => heap_setCell_other w _ lb u (Ne.symm h2)
  rw [e, e, e]
  exact heap_setCell_same h5 _
end

set_option maxRecDepth 100000 in
set_option maxHeartbeats 4000000 in
theorem some2_impl {T : Tab} {g0 g : G} {mb lb b2 : Nat} {most : Int} (hS : Sys T g0 mb (LI T lb)) (hm : most ≤ 2000) (hb2 : g.blk b2 = some (.cells #[.int .i64 most] 3)) (D : Nat → Prop) :
    ImplTake (LI T lb) (fun l => (l.length : Int) ≤ most) D g (.func (.func 59) #[] #[.pointer (some ⟨lb, 0, none⟩), .pointer (some ⟨b2, 0, none⟩)]) (fun v _ l => (decide ((l.length : Int) + 1 ≤ most), l ++ [v])) := by
  refine ⟨59, _, rfl, Try.call59, fun g' M l w r v t hle hI hlive hv ht => ?_⟩
  have hw := hS.fut hI
  obtain ⟨g1, hg1, eb, c0, c1, c2⟩ := box_val hw r
  have k2 := fut_cell (hg1.le.blk _ _ (hle.blk _ _ hb2)) 0 _ rfl
  have hI1 := hS.grow hI hg1
  obtain ⟨M1, lv, rs, hL⟩ := hI1
  have hlb := hL.out lb ((hL.mem lb).2 (.inr (.inl rfl)))
  obtain ⟨la, lc, rfl⟩ : ∃ la lc, lv = .slice la l.length lc := by
    rcases hL.own.2 with ⟨h1, h2⟩ | ⟨k, cap, cur, h1, -⟩
    · exact ⟨none, 0, by rw [h1, h2]⟩
    · exact ⟨_, _, h1⟩
  have t0 := heap_cell hL.box 0 _ rfl
  have HL := hid hL
  have HG1 := hid hg1
  have HV := hid (hv.le hg1.le)
  have HLB := hid hlb
  clear hI hb2 hL hv hg1 hlb
  unfold VRow.val at *
  simp only [List.append_toArray, List.cons_append, List.nil_append]
  obtain ⟨i0, hi, hz0, hz1, hz2⟩ := info_parts Try.info48
  have hlbs : lb < w.heap.size + 1 := by simpa using HLB.out.2
  have tA : ∀ o, ((w.alloc (.cells #[.int .i64 r.k, .int .u8 r.b, .slice r.a r.len r.cap] 48)).alloc o).cell? ⟨lb, 0, none⟩ = some (.slice la l.length lc) := fun o => (World.cell?_alloc_lt _ _ _ HLB.out.2).trans t0
  have hf1 := HG1.out.fut
  have hsz : l.length ≤ 2000 := by omega
  have HSZ := hid hsz
  have hix : (l.length : Int) < (l.length : Int) + 1 := by omega
  have hix0 : (0 : Int) ≤ (l.length : Int) := by omega
  have HLS := hid hlbs
  clear hlbs
  go_enter Try.func59, Try.ntmps59
  go_wp2_with fail
  refine wp_region_held_drew (S := fun w' => Fut g1 w') (by kernel_rfl) hf1.drew ?_
  intro hS0
  refine wpAnyH_take (i := 1) (oi := { dst := some 8, op := Op.load 48 (Operand.tmp 4), type := 48, pos := "every.go:110", after := #[], guard := none }) (v := ?_) rfl (by kernel_rfl) (by kernel_rfl) (by kernel_rfl) (fun _ _ _ h => h) (Or.inl ⟨by rfl, ?_⟩) (by assumption) ?_
  rotate_left
  · intro w hSw; go_simp; all_goals with_reducible rfl
  try simp only [Act.put, List.setIfInBounds_toArray, List.set_cons_zero, List.set_cons_succ]
  refine wpAnyH_ready (rs := [0,3]) (by kernel_rfl) (by simp) ?_
  refine (AllReadyH.cons (o := { dst := some 7, op := Op.load 41 (Operand.tmp 2), type := 41, pos := "every.go:110", after := #[], guard := none }) rfl (fun K hK => ?_) (AllReadyH.cons (o := { dst := some 10, op := Op.buildSlice 41 1 #[(0, Operand.const (Value.agg #[Value.int IntKind.i64 0, Value.int IntKind.u8 0, Value.slice none 0 0]))], type := 41, pos := "every.go:110", after := #[], guard := none }) rfl (fun K hK => ?_) AllReadyH.nil))
  · go_simp
    refine hK.out _ _ ?_ (fun hHeld => ?_)
    · first | exact Fut.drew (by assumption) | exact Fut.alloc (by assumption) _ | exact Fut.setCell (Fut.setCell (Fut.setCell (by assumption) hkg _) hkg _) hkg _ | exact Fut.setCell (by assumption) HLB.out.1 _ | assumption
    clear hK K
    try simp only [Act.put, List.setIfInBounds_toArray, List.set_cons_zero, List.set_cons_succ]
    refine wpAnyH_take (i := 2) (oi := { dst := some 9, op := Op.call { callee := Callee.builtin Builtin.len, args := #[Operand.tmp 7], argTypes := #[41] }, type := 3, pos := "every.go:110", after := #[{ on := 0, ground := Ground.data }], guard := none }) (v := ?_) rfl (by kernel_rfl) (by kernel_rfl) (by kernel_rfl) (fun _ _ _ h => h) (Or.inl ⟨by rfl, ?_⟩) (by assumption) ?_
    rotate_left
    · intro w hSw; go_simp; all_goals with_reducible rfl
    try simp only [Act.put, List.setIfInBounds_toArray, List.set_cons_zero, List.set_cons_succ]
    refine wpAnyH_ready (rs := [3]) (by kernel_rfl) (by simp) ?_
    refine (AllReadyH.cons (o := { dst := some 10, op := Op.buildSlice 41 1 #[(0, Operand.const (Value.agg #[Value.int IntKind.i64 0, Value.int IntKind.u8 0, Value.slice none 0 0]))], type := 41, pos := "every.go:110", after := #[], guard := none }) rfl (fun K hK => ?_) AllReadyH.nil)
    · go_simp
      refine hK.out _ _ ?_ (fun hHeld => ?_)
      · first | exact Fut.drew (by assumption) | exact Fut.alloc (by assumption) _ | exact Fut.setCell (Fut.setCell (Fut.setCell (by assumption) hkg _) hkg _) hkg _ | exact Fut.setCell (by assumption) HLB.out.1 _ | assumption
      clear hK K
      try simp only [Act.put, List.setIfInBounds_toArray, List.set_cons_zero, List.set_cons_succ]
      refine wpAnyH_ready (rs := [4]) (by kernel_rfl) (by simp) ?_
      refine (AllReadyH.cons (o := { dst := some 11, op := Op.call { callee := Callee.builtin Builtin.append, args := #[Operand.tmp 7, Operand.tmp 10], argTypes := #[41, 41] }, type := 41, pos := "every.go:110", after := #[{ on := 0, ground := Ground.data }, { on := 3, ground := Ground.data }, { on := 0, ground := Ground.phase }, { on := 1, ground := Ground.phase }, { on := 2, ground := Ground.phase }, { on := 3, ground := Ground.phase }], guard := none }) rfl (fun K hK => ?_) AllReadyH.nil)
      · refine step_append_lies _ rfl (.tmp 7) (.tmp 10) 41 rfl 0 48 i0 (.agg #[.int .i64 0, .int .u8 0, .slice none 0 0]) 3 40 Try.underlying41 hi hz0 hz1 hz2 rfl (by decide) _ l.length (rowsCells rs) rfl (HL.out.own.alloc _).drew ⟨w.heap.size + 1, 0, none⟩ 1 1 [.int .i64 0, .int .u8 0, .slice none 0 0] rfl rfl (World.news_of_block (heap_alloc2 w _ _)) (by simp [Value.oneCell']) (by decide) (by unfold maxLen; omega) (by omega) (Nat.zero_le _) _ rfl ?_
        intro kb kcap w3 hown3 hgrow3 hat3 hlt3
        have HOA := hid hown3
        have HGA := hid hgrow3
        have HAT := hid hat3
        have HAP := hid (some_app HL.out HGA.out HOA.out HAT.out)
        have hf3 := HAP.out.1.fut
        have hb3 := heap_cell HAP.out.2.2.2.2 0 _ rfl
        have hz3 := heap_free HAP.out.2.2.2.2 0
        have hkg := HAP.out.2.2.1
        have hkl := HAP.out.2.1
        have hlk := Ne.symm hkl
        obtain ⟨d0, d1, d2, z0, z1, z2⟩ := some_cells HL.out.rows.1 HOA.out
        clear hown3 hgrow3 hat3 hlt3
        refine hK.out _ _ ?_ (fun hHeld => ?_)
        · assumption
        clear hK K
        try simp only [Act.put, List.setIfInBounds_toArray, List.set_cons_zero, List.set_cons_succ]
        refine wpAnyH_take (i := 5) (oi := { dst := some 12, op := Op.indexAddr 41 (Operand.tmp 11) (Operand.tmp 9), type := 0, pos := "every.go:110", after := #[{ on := 4, ground := Ground.data }, { on := 2, ground := Ground.data }, { on := 0, ground := Ground.phase }, { on := 1, ground := Ground.phase }, { on := 2, ground := Ground.phase }, { on := 3, ground := Ground.phase }, { on := 4, ground := Ground.phase }, { on := 7, ground := Ground.gcOnly Departure.appendInPlace }], guard := none }) (v := ?_) rfl (by kernel_rfl) (by kernel_rfl) (by kernel_rfl) (fun _ _ _ h => h) (Or.inl ⟨by rfl, ?_⟩) (by assumption) ?_
        rotate_left
        · intro w hSw; go_simp; all_goals with_reducible rfl
        try simp only [Act.put, List.setIfInBounds_toArray, List.set_cons_zero, List.set_cons_succ]
        refine wpAnyH_ready (rs := [6,7]) (by kernel_rfl) (by simp) ?_
        refine (AllReadyH.cons (o := { dst := none, op := Op.store 48 (Operand.tmp 12) (Operand.tmp 8), type := 0, pos := "every.go:110", after := #[{ on := 5, ground := Ground.data }, { on := 1, ground := Ground.data }, { on := 4, ground := Ground.chain }, { on := 0, ground := Ground.phase }, { on := 1, ground := Ground.phase }, { on := 2, ground := Ground.phase }, { on := 3, ground := Ground.phase }, { on := 4, ground := Ground.phase }, { on := 7, ground := Ground.gcOnly Departure.appendInPlace }], guard := none }) rfl (fun K hK => ?_) (AllReadyH.cons (o := { dst := none, op := Op.store 41 (Operand.tmp 2) (Operand.tmp 11), type := 0, pos := "every.go:110", after := #[{ on := 4, ground := Ground.data }, { on := 4, ground := Ground.chain }, { on := 6, ground := Ground.textOnly Departure.appendInPlace }, { on := 0, ground := Ground.phase }, { on := 1, ground := Ground.phase }, { on := 2, ground := Ground.phase }, { on := 3, ground := Ground.phase }, { on := 4, ground := Ground.phase }, { on := 5, ground := Ground.textOnly Departure.appendInPlace }, { on := 6, ground := Ground.textOnly Departure.appendInPlace }], guard := none }) rfl (fun K hK => ?_) AllReadyH.nil))
        · go_simp
          refine hK.out _ _ ?_ (fun hHeld => ?_)
          · first | exact Fut.drew (by assumption) | exact Fut.alloc (by assumption) _ | exact Fut.setCell (Fut.setCell (Fut.setCell (by assumption) hkg _) hkg _) hkg _ | exact Fut.setCell (by assumption) HLB.out.1 _ | assumption
          clear hK K
          try simp only [Act.put, List.setIfInBounds_toArray, List.set_cons_zero, List.set_cons_succ]
          refine wpAnyH_ready (rs := [7]) (by kernel_rfl) (by simp) ?_
          refine (AllReadyH.cons (o := { dst := none, op := Op.store 41 (Operand.tmp 2) (Operand.tmp 11), type := 0, pos := "every.go:110", after := #[{ on := 4, ground := Ground.data }, { on := 4, ground := Ground.chain }, { on := 6, ground := Ground.textOnly Departure.appendInPlace }, { on := 0, ground := Ground.phase }, { on := 1, ground := Ground.phase }, { on := 2, ground := Ground.phase }, { on := 3, ground := Ground.phase }, { on := 4, ground := Ground.phase }, { on := 5, ground := Ground.textOnly Departure.appendInPlace }, { on := 6, ground := Ground.textOnly Departure.appendInPlace }], guard := none }) rfl (fun K hK => ?_) AllReadyH.nil)
          · go_simp
            refine hK.out _ _ ?_ (fun hHeld => ?_)
            · first | exact Fut.drew (by assumption) | exact Fut.alloc (by assumption) _ | exact Fut.setCell (Fut.setCell (Fut.setCell (by assumption) hkg _) hkg _) hkg _ | exact Fut.setCell (by assumption) HLB.out.1 _ | assumption
            clear hK K
            try simp only [Act.put, List.setIfInBounds_toArray, List.set_cons_zero, List.set_cons_succ]
            refine wpAnyH_done (by kernel_rfl) ?_ _
            go_wp2_with fail
            go_ret
            have hA := some_endA HL.out HAP.out HOA.out HV.out
            have hB := some_endB HL.out HAP.out HOA.out HV.out
            obtain ⟨MA, hA1, hA2⟩ := hA
            obtain ⟨MB, hB1, hB2⟩ := hB
            have hlive2 : decide ((l.length : Int) + 1 ≤ most) = true → ((l ++ [v]).length : Int) ≤ most := fun h => by have := of_decide_eq_true h; simp; omega
            first | exact ⟨rfl, g1, MA, (HG1.out.istep M).trans hA1, hA2, hlive2⟩ | exact ⟨rfl, g1, MB, (HG1.out.istep M).trans hB1, hB2, hlive2⟩ | fail
        · go_simp
          refine hK.out _ _ ?_ (fun hHeld => ?_)
          · first | exact Fut.drew (by assumption) | exact Fut.alloc (by assumption) _ | exact Fut.setCell (Fut.setCell (Fut.setCell (by assumption) hkg _) hkg _) hkg _ | exact Fut.setCell (by assumption) HLB.out.1 _ | assumption
          clear hK K
          try simp only [Act.put, List.setIfInBounds_toArray, List.set_cons_zero, List.set_cons_succ]
          refine wpAnyH_ready (rs := [6]) (by kernel_rfl) (by simp) ?_
          refine (AllReadyH.cons (o := { dst := none, op := Op.store 48 (Operand.tmp 12) (Operand.tmp 8), type := 0, pos := "every.go:110", after := #[{ on := 5, ground := Ground.data }, { on := 1, ground := Ground.data }, { on := 4, ground := Ground.chain }, { on := 0, ground := Ground.phase }, { on := 1, ground := Ground.phase }, { on := 2, ground := Ground.phase }, { on := 3, ground := Ground.phase }, { on := 4, ground := Ground.phase }, { on := 7, ground := Ground.gcOnly Departure.appendInPlace }], guard := none }) rfl (fun K hK => ?_) AllReadyH.nil)
          · go_simp
            refine hK.out _ _ ?_ (fun hHeld => ?_)
            · first | exact Fut.drew (by assumption) | exact Fut.alloc (by assumption) _ | exact Fut.setCell (Fut.setCell (Fut.setCell (by assumption) hkg _) hkg _) hkg _ | exact Fut.setCell (by assumption) HLB.out.1 _ | assumption
            clear hK K
            try simp only [Act.put, List.setIfInBounds_toArray, List.set_cons_zero, List.set_cons_succ]
            refine wpAnyH_done (by kernel_rfl) ?_ _
            go_wp2_with fail
            go_ret
            have hA := some_endA HL.out HAP.out HOA.out HV.out
            have hB := some_endB HL.out HAP.out HOA.out HV.out
            obtain ⟨MA, hA1, hA2⟩ := hA
            obtain ⟨MB, hB1, hB2⟩ := hB
            have hlive2 : decide ((l.length : Int) + 1 ≤ most) = true → ((l ++ [v]).length : Int) ≤ most := fun h => by have := of_decide_eq_true h; simp; omega
            first | exact ⟨rfl, g1, MA, (HG1.out.istep M).trans hA1, hA2, hlive2⟩ | exact ⟨rfl, g1, MB, (HG1.out.istep M).trans hB1, hB2, hlive2⟩ | fail
  · go_simp
    refine hK.out _ _ ?_ (fun hHeld => ?_)
    · first | exact Fut.drew (by assumption) | exact Fut.alloc (by assumption) _ | exact Fut.setCell (Fut.setCell (Fut.setCell (by assumption) hkg _) hkg _) hkg _ | exact Fut.setCell (by assumption) HLB.out.1 _ | assumption
    clear hK K
    try simp only [Act.put, List.setIfInBounds_toArray, List.set_cons_zero, List.set_cons_succ]
    refine wpAnyH_ready (rs := [0]) (by kernel_rfl) (by simp) ?_
    refine (AllReadyH.cons (o := { dst := some 7, op := Op.load 41 (Operand.tmp 2), type := 41, pos := "every.go:110", after := #[], guard := none }) rfl (fun K hK => ?_) AllReadyH.nil)
    · go_simp
      refine hK.out _ _ ?_ (fun hHeld => ?_)
      · first | exact Fut.drew (by assumption) | exact Fut.alloc (by assumption) _ | exact Fut.setCell (Fut.setCell (Fut.setCell (by assumption) hkg _) hkg _) hkg _ | exact Fut.setCell (by assumption) HLB.out.1 _ | assumption
      clear hK K
      try simp only [Act.put, List.setIfInBounds_toArray, List.set_cons_zero, List.set_cons_succ]
      refine wpAnyH_take (i := 2) (oi := { dst := some 9, op := Op.call { callee := Callee.builtin Builtin.len, args := #[Operand.tmp 7], argTypes := #[41] }, type := 3, pos := "every.go:110", after := #[{ on := 0, ground := Ground.data }], guard := none }) (v := ?_) rfl (by kernel_rfl) (by kernel_rfl) (by kernel_rfl) (fun _ _ _ h => h) (Or.inl ⟨by rfl, ?_⟩) (by assumption) ?_
      rotate_left
      · intro w hSw; go_simp; all_goals with_reducible rfl
      try simp only [Act.put, List.setIfInBounds_toArray, List.set_cons_zero, List.set_cons_succ]
      refine wpAnyH_ready (rs := [4]) (by kernel_rfl) (by simp) ?_
      refine (AllReadyH.cons (o := { dst := some 11, op := Op.call { callee := Callee.builtin Builtin.append, args := #[Operand.tmp 7, Operand.tmp 10], argTypes := #[41, 41] }, type := 41, pos := "every.go:110", after := #[{ on := 0, ground := Ground.data }, { on := 3, ground := Ground.data }, { on := 0, ground := Ground.phase }, { on := 1, ground := Ground.phase }, { on := 2, ground := Ground.phase }, { on := 3, ground := Ground.phase }], guard := none }) rfl (fun K hK => ?_) AllReadyH.nil)
      · refine step_append_lies _ rfl (.tmp 7) (.tmp 10) 41 rfl 0 48 i0 (.agg #[.int .i64 0, .int .u8 0, .slice none 0 0]) 3 40 Try.underlying41 hi hz0 hz1 hz2 rfl (by decide) _ l.length (rowsCells rs) rfl (HL.out.own.alloc _).drew ⟨w.heap.size + 1, 0, none⟩ 1 1 [.int .i64 0, .int .u8 0, .slice none 0 0] rfl rfl (World.news_of_block (heap_alloc2 w _ _)) (by simp [Value.oneCell']) (by decide) (by unfold maxLen; omega) (by omega) (Nat.zero_le _) _ rfl ?_
        intro kb kcap w3 hown3 hgrow3 hat3 hlt3
        have HOA := hid hown3
        have HGA := hid hgrow3
        have HAT := hid hat3
        have HAP := hid (some_app HL.out HGA.out HOA.out HAT.out)
        have hf3 := HAP.out.1.fut
        have hb3 := heap_cell HAP.out.2.2.2.2 0 _ rfl
        have hz3 := heap_free HAP.out.2.2.2.2 0
        have hkg := HAP.out.2.2.1
        have hkl := HAP.out.2.1
        have hlk := Ne.symm hkl
        obtain ⟨d0, d1, d2, z0, z1, z2⟩ := some_cells HL.out.rows.1 HOA.out
        clear hown3 hgrow3 hat3 hlt3
        refine hK.out _ _ ?_ (fun hHeld => ?_)
        · assumption
        clear hK K
        try simp only [Act.put, List.setIfInBounds_toArray, List.set_cons_zero, List.set_cons_succ]
        refine wpAnyH_take (i := 5) (oi := { dst := some 12, op := Op.indexAddr 41 (Operand.tmp 11) (Operand.tmp 9), type := 0, pos := "every.go:110", after := #[{ on := 4, ground := Ground.data }, { on := 2, ground := Ground.data }, { on := 0, ground := Ground.phase }, { on := 1, ground := Ground.phase }, { on := 2, ground := Ground.phase }, { on := 3, ground := Ground.phase }, { on := 4, ground := Ground.phase }, { on := 7, ground := Ground.gcOnly Departure.appendInPlace }], guard := none }) (v := ?_) rfl (by kernel_rfl) (by kernel_rfl) (by kernel_rfl) (fun _ _ _ h => h) (Or.inl ⟨by rfl, ?_⟩) (by assumption) ?_
        rotate_left
        · intro w hSw; go_simp; all_goals with_reducible rfl
        try simp only [Act.put, List.setIfInBounds_toArray, List.set_cons_zero, List.set_cons_succ]
        refine wpAnyH_ready (rs := [6,7]) (by kernel_rfl) (by simp) ?_
        refine (AllReadyH.cons (o := { dst := none, op := Op.store 48 (Operand.tmp 12) (Operand.tmp 8), type := 0, pos := "every.go:110", after := #[{ on := 5, ground := Ground.data }, { on := 1, ground := Ground.data }, { on := 4, ground := Ground.chain }, { on := 0, ground := Ground.phase }, { on := 1, ground := Ground.phase }, { on := 2, ground := Ground.phase }, { on := 3, ground := Ground.phase }, { on := 4, ground := Ground.phase }, { on := 7, ground := Ground.gcOnly Departure.appendInPlace }], guard := none }) rfl (fun K hK => ?_) (AllReadyH.cons (o := { dst := none, op := Op.store 41 (Operand.tmp 2) (Operand.tmp 11), type := 0, pos := "every.go:110", after := #[{ on := 4, ground := Ground.data }, { on := 4, ground := Ground.chain }, { on := 6, ground := Ground.textOnly Departure.appendInPlace }, { on := 0, ground := Ground.phase }, { on := 1, ground := Ground.phase }, { on := 2, ground := Ground.phase }, { on := 3, ground := Ground.phase }, { on := 4, ground := Ground.phase }, { on := 5, ground := Ground.textOnly Departure.appendInPlace }, { on := 6, ground := Ground.textOnly Departure.appendInPlace }], guard := none }) rfl (fun K hK => ?_) AllReadyH.nil))
        · go_simp
          refine hK.out _ _ ?_ (fun hHeld => ?_)
          · first | exact Fut.drew (by assumption) | exact Fut.alloc (by assumption) _ | exact Fut.setCell (Fut.setCell (Fut.setCell (by assumption) hkg _) hkg _) hkg _ | exact Fut.setCell (by assumption) HLB.out.1 _ | assumption
          clear hK K
          try simp only [Act.put, List.setIfInBounds_toArray, List.set_cons_zero, List.set_cons_succ]
          refine wpAnyH_ready (rs := [7]) (by kernel_rfl) (by simp) ?_
          refine (AllReadyH.cons (o := { dst := none, op := Op.store 41 (Operand.tmp 2) (Operand.tmp 11), type := 0, pos := "every.go:110", after := #[{ on := 4, ground := Ground.data }, { on := 4, ground := Ground.chain }, { on := 6, ground := Ground.textOnly Departure.appendInPlace }, { on := 0, ground := Ground.phase }, { on := 1, ground := Ground.phase }, { on := 2, ground := Ground.phase }, { on := 3, ground := Ground.phase }, { on := 4, ground := Ground.phase }, { on := 5, ground := Ground.textOnly Departure.appendInPlace }, { on := 6, ground := Ground.textOnly Departure.appendInPlace }], guard := none }) rfl (fun K hK => ?_) AllReadyH.nil)
          · go_simp
            refine hK.out _ _ ?_ (fun hHeld => ?_)
            · first | exact Fut.drew (by assumption) | exact Fut.alloc (by assumption) _ | exact Fut.setCell (Fut.setCell (Fut.setCell (by assumption) hkg _) hkg _) hkg _ | exact Fut.setCell (by assumption) HLB.out.1 _ | assumption
            clear hK K
            try simp only [Act.put, List.setIfInBounds_toArray, List.set_cons_zero, List.set_cons_succ]
            refine wpAnyH_done (by kernel_rfl) ?_ _
            go_wp2_with fail
            go_ret
            have hA := some_endA HL.out HAP.out HOA.out HV.out
            have hB := some_endB HL.out HAP.out HOA.out HV.out
            obtain ⟨MA, hA1, hA2⟩ := hA
            obtain ⟨MB, hB1, hB2⟩ := hB
            have hlive2 : decide ((l.length : Int) + 1 ≤ most) = true → ((l ++ [v]).length : Int) ≤ most := fun h => by have := of_decide_eq_true h; simp; omega
            first | exact ⟨rfl, g1, MA, (HG1.out.istep M).trans hA1, hA2, hlive2⟩ | exact ⟨rfl, g1, MB, (HG1.out.istep M).trans hB1, hB2, hlive2⟩ | fail
        · go_simp
          refine hK.out _ _ ?_ (fun hHeld => ?_)
          · first | exact Fut.drew (by assumption) | exact Fut.alloc (by assumption) _ | exact Fut.setCell (Fut.setCell (Fut.setCell (by assumption) hkg _) hkg _) hkg _ | exact Fut.setCell (by assumption) HLB.out.1 _ | assumption
          clear hK K
          try simp only [Act.put, List.setIfInBounds_toArray, List.set_cons_zero, List.set_cons_succ]
          refine wpAnyH_ready (rs := [6]) (by kernel_rfl) (by simp) ?_
          refine (AllReadyH.cons (o := { dst := none, op := Op.store 48 (Operand.tmp 12) (Operand.tmp 8), type := 0, pos := "every.go:110", after := #[{ on := 5, ground := Ground.data }, { on := 1, ground := Ground.data }, { on := 4, ground := Ground.chain }, { on := 0, ground := Ground.phase }, { on := 1, ground := Ground.phase }, { on := 2, ground := Ground.phase }, { on := 3, ground := Ground.phase }, { on := 4, ground := Ground.phase }, { on := 7, ground := Ground.gcOnly Departure.appendInPlace }], guard := none }) rfl (fun K hK => ?_) AllReadyH.nil)
          · go_simp
            refine hK.out _ _ ?_ (fun hHeld => ?_)
            · first | exact Fut.drew (by assumption) | exact Fut.alloc (by assumption) _ | exact Fut.setCell (Fut.setCell (Fut.setCell (by assumption) hkg _) hkg _) hkg _ | exact Fut.setCell (by assumption) HLB.out.1 _ | assumption
            clear hK K
            try simp only [Act.put, List.setIfInBounds_toArray, List.set_cons_zero, List.set_cons_succ]
            refine wpAnyH_done (by kernel_rfl) ?_ _
            go_wp2_with fail
            go_ret
            have hA := some_endA HL.out HAP.out HOA.out HV.out
            have hB := some_endB HL.out HAP.out HOA.out HV.out
            obtain ⟨MA, hA1, hA2⟩ := hA
            obtain ⟨MB, hB1, hB2⟩ := hB
            have hlive2 : decide ((l.length : Int) + 1 ≤ most) = true → ((l ++ [v]).length : Int) ≤ most := fun h => by have := of_decide_eq_true h; simp; omega
            first | exact ⟨rfl, g1, MA, (HG1.out.istep M).trans hA1, hA2, hlive2⟩ | exact ⟨rfl, g1, MB, (HG1.out.istep M).trans hB1, hB2, hlive2⟩ | fail
end Go.Proofs.Ytjodmimnbpgfcaa
