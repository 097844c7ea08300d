/- strings.Builder, walked. A library text: no claim is stated here. -/
import Derived.Test.YtjodmimnbpgfcaaM11
import Derived.Lib.Builder
import Derived.Lib.AppendStr
import Derived.Lib.UnsafeStr
import Derived.Deep.CutBlock

/- Build -/
namespace Go.Proofs.Ytjodmimnbpgfcaa
open Go.RowKit Go.IntWalk

theorem Try.info84 : (Try.prog.info? 84).map (fun i => (i.zero, i.size, i.bytes)) = some (some (.agg #[.pointer none, .slice none 0 0]), 2, 32) := by kernel_rfl

set_option maxRecDepth 100000 in
theorem copyCheck_used (b : Nat) (w : World) (h0 : w.cell? ⟨b, 0, none⟩ = some (.pointer (some ⟨b, 0, none⟩))) :
    Calls Try.prog 82 #[.pointer (some ⟨b, 0, none⟩)] w fun e w' => e = .returned (.tuple #[]) ∧ w = w' := by
  obtain ⟨i0, hi, hz0, hz1, hz2⟩ := info_parts Try.info84
  go_enter Try.func82, Try.ntmps82
  go_wp2
  rw [Lib.run_neq_ptr_same w _ Try.underlying82 hi]
  go_wp2
  go_end0
  exact ⟨rfl, rfl⟩

set_option maxRecDepth 100000 in
theorem copyCheck_fresh (b : Nat) (v : Value) (w : World) (h0 : w.heap[b]? = some (.cells #[.pointer none, v] 84)) :
    Calls Try.prog 82 #[.pointer (some ⟨b, 0, none⟩)] w fun e w' => e = .returned (.tuple #[]) ∧ w' = w.setCell ⟨b, 0, none⟩ (.pointer (some ⟨b, 0, none⟩)) := by
  obtain ⟨i0, hi, hz0, hz1, hz2⟩ := info_parts Try.info84
  have c0 := heap_cell h0 0 _ rfl
  have z0 := heap_free h0 0
  have hsh : w.shape? b = some (84, 2) := by simp [World.shape?, h0]
  clear h0
  go_enter Try.func82, Try.ntmps82
  go_wp2
  rw [Lib.run_to_unsafe w ⟨b, 0, none⟩ Try.underlying82 Try.underlying150 hi (by rw [hz1]; decide) hsh (Nat.zero_lt_succ 1)]
  simp only [Result.andThen]
  rw [Oper.upon_value]
  go_wp2
  rw [run_callFunc_extern Try.func91 (by kernel_rfl) (by kernel_rfl) (by kernel_rfl) (e := Extern.AbiNoEscape.same) (by kernel_rfl)]
  rw [Lib.run_noEscape]
  simp only [Result.andThen]
  rw [Oper.upon_value]
  go_wp2
  rw [Lib.run_from_unsafe w ⟨b, 0, none⟩ Try.underlying150 Try.underlying82 hi hsh (by kernel_rfl)]
  simp only [Result.andThen]
  rw [Oper.upon_value]
  go_wp2
  go_end0
  exact ⟨rfl, rfl⟩

/-- A builder that the call owns: what it holds. -/
structure Bld (g : G) (w0 : World) (g1 : G) (b : Nat) (bs : List UInt8) (w : World) (pa : Option Addr) (v : Value) : Prop where
  grow : Grow g w0 g1 w
  new : w0.heap.size ≤ b
  box : w.heap[b]? = some (.cells #[.pointer pa, v] 84)
  pa : pa = none ∨ pa = some ⟨b, 0, none⟩
  own : w.ownsRow w0.heap.size 5 1 v bs.length (bs.map byteV)
  ne : v.ownBlock ≠ some b
  out : g1.blk b = none ∧ ∀ k, v.ownBlock = some k → g1.blk k = none

def BldS (g : G) (w0 : World) (g1 : G) (b : Nat) (bs : List UInt8) (w : World) : Prop := ∃ pa v, Bld g w0 g1 b bs w pa v

theorem Bld.used {g : G} {w0 : World} {g1 : G} {b : Nat} {bs : List UInt8} {w : World} {pa : Option Addr} {v : Value} (h : Bld g w0 g1 b bs w pa v) : Calls Try.prog 82 #[.pointer (some ⟨b, 0, none⟩)] w fun e w' => e = .returned (.tuple #[]) ∧ Bld g w0 g1 b bs w' (some ⟨b, 0, none⟩) v := by
  rcases h.pa with hp | hp
  · have h2 := h.box
    rw [hp] at h2
    refine (copyCheck_fresh b v w h2).mono ?_
    rintro e w' ⟨rfl, rfl⟩
    exact ⟨rfl, h.grow.setCell (a := ⟨b, 0, none⟩) h.out.1 h.new _, h.new, heap_setCell_same h2 _, .inr rfl, ownsRow_setCell_ne h.own h.ne _, h.ne, h.out⟩
  · have h2 := h.box
    rw [hp] at h2
    refine (copyCheck_used b w (heap_cell h2 0 _ rfl)).mono ?_
    rintro e w' ⟨rfl, rfl⟩
    exact ⟨rfl, h.grow, h.new, h2, .inr rfl, h.own, h.ne, h.out⟩

/-- Where the row lies behind the append of a text. -/
theorem run_append_str_lies {P : Program} (w : World) (base : Nat) (t u ty e : TypeId) (i : TypeInfo) (ht : P.underlying t = some (.slice e)) (hu : P.underlying u = some .string) (hi : P.info? e = some i) (hz : i.zero = some (.int .u8 0))
    (hsize : i.size = 1) (hby : i.bytes = 1) (v : Value) (n : Nat) (xs : List Value) (hown : w.ownsRow base e 1 v n xs) (s : ByteArray) (hbytes : n + s.size ≤ 140737488355328) (hbase : base ≤ w.heap.size) :
    ∃ v' w', (Builtin.append_ #[t, u] ty #[v, .string s]).run P w = .ok v' w' ∧ w'.ownsRow base e 1 v' (n + s.size) (xs ++ Lib.strCells s) ∧ w.grownBy w' v.ownBlock ∧ ∀ k, v'.ownBlock = some k → v.ownBlock = some k ∨ w.heap.size ≤ k := by
  obtain ⟨v', w', h1, h2, h3, h4⟩ := Lib.run_append_own_string (P := P) w base t u ty e i ht hu hi hz hsize hby v n xs hown s (by unfold maxLen; omega) hbytes hbase
  refine ⟨v', w', h1, h2, h3, ?_⟩
  rcases hown.2 with ⟨rfl, rfl⟩ | ⟨g, cap, cur, rfl, hbg, hg, hnc, hcm, hcs, htake⟩
  · obtain ⟨v2, w2, k1, k2, -, -⟩ := Lib.run_append_own_string (P := P) w w.heap.size t u ty e i ht hu hi hz hsize hby (.slice none 0 0) 0 [] (World.ownsRow_nil _ _ _ _) s (by unfold maxLen; omega) hbytes (Nat.le_refl _)
    rw [h1] at k1
    cases k1
    exact fun k hk => .inr (k2.lt k hk).1
  · have hxl : xs.length = n := by simpa using hown.1
    have hcs' : cur.size = cap := by simpa using hcs
    by_cases hroom : n + s.size ≤ cap
    · have hr := Lib.run_append_room_string (P := P) w t u ty e i ht hu hi hsize g n cap cur hg s hroom (by omega)
      rw [h1] at hr
      cases hr
      exact fun k hk => .inl hk
    · have holds : ∀ j u, xs[j]? = some u → w.cell? ((⟨g, 0, none⟩ : Addr).add j) = some u := hown.cells (g := g) rfl
      have hr := Lib.run_append_grow_string (P := P) w t u ty e i (.int .u8 0) ht hu hi hz ⟨g, 0, none⟩ n cap xs (by rw [hsize]; simpa using hxl) holds s (by omega) (by omega) (by rw [hby]; exact growslice_fits (by omega) (by omega))
      rw [h1] at hr
      cases hr
      intro k hk
      simp only [Value.ownBlock, Option.some.injEq] at hk
      exact .inr (by omega)

theorem wpList_append_str_lies {P : Program} (w : World) {ops : Array Oper} {rest : List Oper} {o : Oper} {a : Act} {Q : Exit → Act → World → Prop} (hgd : o.guard = none) (sl x : Operand) (t u : TypeId)
    (ho : o.op = .call { callee := .builtin .append, args := #[sl, x], argTypes := #[t, u] })
    (base : Nat) (e : TypeId) (i : TypeInfo) (ht : P.underlying t = some (.slice e)) (hu : P.underlying u = some .string) (hi : P.info? e = some i) (hz : i.zero = some (.int .u8 0)) (hsize : i.size = 1) (hby : i.bytes = 1)
    (v : Value) (n : Nat) (xs : List Value) (hs : a.eval sl = v) (hown : w.ownsRow base e 1 v n xs) (s : ByteArray) (hx : a.eval x = .string s) (hbytes : n + s.size ≤ 140737488355328) (hbase : base ≤ w.heap.size)
    (h : ∀ v' w', w'.ownsRow base e 1 v' (n + s.size) (xs ++ Lib.strCells s) → w.grownBy w' v.ownBlock → (∀ k, v'.ownBlock = some k → v.ownBlock = some k ∨ w.heap.size ≤ k) → wpList P ops Q rest (a.put o.dst v') w') : wpList P ops Q (o :: rest) a w := by
  refine wpList_plain hgd fun K hK => ?_
  obtain ⟨v', w', hr, h2, h3, h4⟩ := run_append_str_lies (P := P) w base t u o.type e i ht hu hi hz hsize hby v n xs hown s hbytes hbase
  unfold Oper.wp execOp
  simp only [ho, resolve, invoke, builtin, Sem.run_bind, Sem.run_pure, Result.andThen_ok, List.map_toArray, List.map_cons, List.map_nil, hs, hx, hr]
  exact hK _ _ (h v' w' h2 h3 h4)

theorem Try.info5 : (Try.prog.info? 5).map (fun i => (i.zero, i.size, i.bytes)) = some (some (.int .u8 0), 1, 1) := by kernel_rfl

set_option maxRecDepth 100000 in
set_option maxHeartbeats 2000000 in
theorem writeString_any {g : G} {w0 : World} {g1 : G} {b : Nat} {bs : List UInt8} {w : World} (h : BldS g w0 g1 b bs w) (s : ByteArray) (hs : bs.length + s.size ≤ 140737488355328) :
    Calls Try.prog 60 #[.pointer (some ⟨b, 0, none⟩), .string s] w fun e w' => e = .returned (.tuple #[.int .i64 s.size, .nilIface]) ∧ BldS g w0 g1 b (bs ++ s.data.toList) w' := by
  obtain ⟨pa, v, h⟩ := h
  obtain ⟨i0, hi, hz0, hz1, hz2⟩ := info_parts Try.info5
  have hcc := h.used
  clear h
  go_enter Try.func60, Try.ntmps60
  go_wp2_with (first | (go_at_call 82; refine hcc.mono ?_) | fail)
  rintro e w1 ⟨rfl, h1⟩
  have c1 := heap_cell h1.box 1 _ rfl
  have HB := hid h1
  have hbw := h1.grow.size
  clear h1 hcc
  go_wp2_with (first | (at_builtin; refine wpList_append_str_lies _ rfl _ _ 28 9 rfl w0.heap.size 5 i0 Try.underlying28 Try.underlying9 hi hz0 hz1 hz2 v bs.length (bs.map byteV) rfl HB.out.own s rfl hs hbw ?_) | fail)
  intro v' w2 hown' hgrow hlies
  have HL := hid hlies
  clear hlies
  have hlt := lt_of_block HB.out.box
  have hb2 : w2.heap[b]? = some (.cells #[.pointer (some ⟨b, 0, none⟩), v] 84) := (hgrow.block b hlt (fun e => HB.out.ne e.symm)).trans HB.out.box
  have d1 := heap_cell hb2 1 _ rfl
  have f1 := heap_free hb2 1
  obtain ⟨ao, n', cap, rfl⟩ : ∃ ao n' cap, v' = .slice ao n' cap := by
    rcases hown'.2 with ⟨hv, _⟩ | ⟨g, cap, cur, hv, _⟩
    · exact ⟨_, _, _, hv⟩
    · exact ⟨_, _, _, hv⟩
  have HO := hid hown'
  have HG := hid hgrow
  have HB2 := hid hb2
  clear hown' hgrow hb2
  go_wp2
  go_ret2
  have e1 : bs.map byteV ++ Lib.strCells s = (bs ++ s.data.toList).map byteV := by
    rw [List.map_append]; rfl
  have e2 : bs.length + s.size = (bs ++ s.data.toList).length := by
    rw [List.length_append, Array.length_toList]; rfl
  have ho := HO.out
  rw [e1, e2] at ho
  have hk : ∀ k, Value.ownBlock (.slice ao n' cap) = some k → g1.blk k = none ∧ k ≠ b := fun k hk => by
    rcases HL.out k hk with h1 | h1
    · exact ⟨HB.out.out.2 k h1, fun e => HB.out.ne (e ▸ h1)⟩
    · exact ⟨HB.out.grow.fut.none_of_size h1, fun e => by subst e; omega⟩
  refine ⟨rfl, _, _, ?_, HB.out.new, heap_setCell_same HB2.out _, .inr rfl, ownsRow_setCell_ne ho (fun e => (hk b e).2 rfl) _, fun e => (hk b e).2 rfl, HB.out.out.1, fun k h => (hk k h).1⟩
  exact (HB.out.grow.grown HG.out (fun k hk => ⟨(HB.out.own.lt k hk).1, HB.out.out.2 k hk⟩)).setCell (a := ⟨b, 1, none⟩) HB.out.out.1 HB.out.new _

theorem Grow.freeze {g g' : G} {w w' : World} (h : Grow g w g' w') {k : Nat} (ha : g'.blk k = none) (hn : w.heap.size ≤ k) (n : Nat) : Grow g w g' (w'.freeze ⟨k, 0, none⟩ n) := by
  unfold World.freeze
  split
  · exact h
  · refine ⟨h.le, ⟨h.fut.os, h.fut.out, fun b o hb => ?_⟩, by simpa using h.size, fun b hb => ?_, h.new⟩
    · have : k ≠ b := fun e => by rw [← e, ha] at hb; cases hb
      simp only [Array.getElem?_modify, if_neg this]
      exact h.fut.blk b o hb
    · simp only [Array.getElem?_modify]
      rw [if_neg (by omega)]
      exact h.old b hb

set_option maxRecDepth 100000 in
set_option maxHeartbeats 2000000 in
theorem string_any {g : G} {w0 : World} {g1 : G} {b : Nat} {l : List UInt8} {w : World} (h : BldS g w0 g1 b l w) (h0 : l ≠ []) :
    Calls Try.prog 37 #[.pointer (some ⟨b, 0, none⟩)] w fun e w' => e = .returned (.string ⟨l.toArray⟩) ∧ Grow g w0 g1 w' := by
  obtain ⟨pa, v, h⟩ := h
  have hl0 : l.length ≠ 0 := by simpa using h0
  obtain ⟨k, cap, cur, rfl, hbg, hg, hnc, hcm, hcs, htake⟩ : ∃ k cap cur, v = .slice (some ⟨k, 0, none⟩) l.length cap ∧ w0.heap.size ≤ k ∧ w.heap[k]? = some (.cells cur 5 (0, 0)) ∧ l.length ≤ cap ∧ cap ≤ maxLen ∧ cur.size = cap * 1 ∧ cur.toList.take (l.length * 1) = l.map byteV := by
    rcases h.own.2 with ⟨_, hz⟩ | ⟨k, cap, cur, hv, r⟩
    · exact absurd hz hl0
    · exact ⟨k, cap, cur, hv, r⟩
  have c1 : w.drew.cell? ⟨b, 1, none⟩ = some (.slice (some ⟨k, 0, none⟩) l.length cap) := heap_cell (w := w.drew) h.box 1 _ rfl
  have hSD : (Builtin.unsafeSliceData_ #[28] 122 #[.slice (some ⟨k, 0, none⟩) l.length cap]).run Try.prog w.drew = .ok (.pointer (some ⟨k, 0, none⟩)) w.drew :=
    Lib.run_unsafeSliceData_row _ _ _ _ _ _ (by omega)
  have hUS : (Builtin.unsafeString_ #[122, 3] 9 #[.pointer (some ⟨k, 0, none⟩), .int .i64 l.length]).run Try.prog w.drew = .ok (.string ⟨l.toArray⟩) (w.drew.freeze ⟨k, 0, none⟩ l.length) := by
    refine Lib.run_unsafeString_row w.drew 122 3 9 5 Try.underlying122 (by kernel_rfl) k cur.size (by have hg' : w.drew.heap[k]? = some (.cells cur 5 (0, 0)) := hg; simp [World.shape?, hg']) l h0 (by omega) (by unfold maxLen at hcm; omega) ?_
    intro j x hx
    have := h.own.cells (g := k) rfl j (.int .u8 x.toNat) (by simp [byteV, hx])
    exact this
  have HH := hid h
  have HK := hid hbg
  clear h hg hcs htake
  go_enter Try.func37, Try.ntmps37
  go_wp2
  go_region
  all_goals go_wp2
  all_goals go_ret
  all_goals exact ⟨rfl, HH.out.grow.drew.freeze (HH.out.out.2 k rfl) HK.out _⟩
end Go.Proofs.Ytjodmimnbpgfcaa
