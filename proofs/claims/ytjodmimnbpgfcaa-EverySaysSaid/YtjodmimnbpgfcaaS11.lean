/- strings.Builder, walked. A library text: no claim is stated here. value.Kids, value.Text, walked. A library text: no claim is stated here. -/
import Derived.Test.YtjodmimnbpgfcaaS10
import Derived.Lib.Builder
import Derived.Lib.AppendStr
import Derived.Lib.UnsafeStr
import Derived.Deep.CutBlock

/- Build -/
namespace Go.Proofs.Ytjodmimnbpgfcaa
open Go.RowKit Go.IntWalk

theorem Try.info84 : (Try.prog.info? 84).map (fun i => (i.zero, i.size, i.bytes)) = some (some (.agg #[.pointer none, .slice none 0 0]), 2, 32) := by kernel_rfl

set_option maxRecDepth 100000 in
theorem copyCheck_used (b : Nat) (w : World) (h0 : w.cell? ⟨b, 0, none⟩ = some (.pointer (some ⟨b, 0, none⟩))) :
    Calls Try.prog 82 #[.pointer (some ⟨b, 0, none⟩)] w fun e w' => e = .returned (.tuple #[]) ∧ w = w' := by
  obtain ⟨i0, hi, hz0, hz1, hz2⟩ := info_parts Try.info84
  go_enter Try.func82, Try.ntmps82
  go_wp2
  rw [Lib.run_neq_ptr_same w _ Try.underlying82 hi]
  go_wp2
  go_end0
  exact ⟨rfl, rfl⟩

set_option maxRecDepth 100000 in
theorem copyCheck_fresh (b : Nat) (v : Value) (w : World) (h0 : w.heap[b]? = some (.cells #[.pointer none, v] 84)) :
    Calls Try.prog 82 #[.pointer (some ⟨b, 0, none⟩)] w fun e w' => e = .returned (.tuple #[]) ∧ w' = w.setCell ⟨b, 0, none⟩ (.pointer (some ⟨b, 0, none⟩)) := by
  obtain ⟨i0, hi, hz0, hz1, hz2⟩ := info_parts Try.info84
  have c0 := heap_cell h0 0 _ rfl
  have z0 := heap_free h0 0
  have hsh : w.shape? b = some (84, 2) := by simp [World.shape?, h0]
  clear h0
  go_enter Try.func82, Try.ntmps82
  go_wp2
  rw [Lib.run_to_unsafe w ⟨b, 0, none⟩ Try.underlying82 Try.underlying150 hi (by rw [hz1]; decide) hsh (Nat.zero_lt_succ 1)]
  simp only [Result.andThen]
  rw [Oper.upon_value]
  go_wp2
  rw [run_callFunc_extern Try.func91 (by kernel_rfl) (by kernel_rfl) (by kernel_rfl) (e := Extern.AbiNoEscape.same) (by kernel_rfl)]
  rw [Lib.run_noEscape]
  simp only [Result.andThen]
  rw [Oper.upon_value]
  go_wp2
  rw [Lib.run_from_unsafe w ⟨b, 0, none⟩ Try.underlying150 Try.underlying82 hi hsh (by kernel_rfl)]
  simp only [Result.andThen]
  rw [Oper.upon_value]
  go_wp2
  go_end0
  exact ⟨rfl, rfl⟩

/-- A builder that the call owns: what it holds. -/
structure Bld (g : G) (w0 : World) (g1 : G) (b : Nat) (bs : List UInt8) (w : World) (pa : Option Addr) (v : Value) : Prop where
  grow : Grow g w0 g1 w
  new : w0.heap.size ≤ b
  box : w.heap[b]? = some (.cells #[.pointer pa, v] 84)
  pa : pa = none ∨ pa = some ⟨b, 0, none⟩
  own : w.ownsRow w0.heap.size 5 1 v bs.length (bs.map byteV)
  ne : v.ownBlock ≠ some b
  out : g1.blk b = none ∧ ∀ k, v.ownBlock = some k → g1.blk k = none

def BldS (g : G) (w0 : World) (g1 : G) (b : Nat) (bs : List UInt8) (w : World) : Prop := ∃ pa v, Bld g w0 g1 b bs w pa v

theorem Bld.used {g : G} {w0 : World} {g1 : G} {b : Nat} {bs : List UInt8} {w : World} {pa : Option Addr} {v : Value} (h : Bld g w0 g1 b bs w pa v) : Calls Try.prog 82 #[.pointer (some ⟨b, 0, none⟩)] w fun e w' => e = .returned (.tuple #[]) ∧ Bld g w0 g1 b bs w' (some ⟨b, 0, none⟩) v := by
  rcases h.pa with hp | hp
  · have h2 := h.box
    rw [hp] at h2
    refine (copyCheck_fresh b v w h2).mono ?_
    rintro e w' ⟨rfl, rfl⟩
    exact ⟨rfl, h.grow.setCell (a := ⟨b, 0, none⟩) h.out.1 h.new _, h.new, heap_setCell_same h2 _, .inr rfl, ownsRow_setCell_ne h.own h.ne _, h.ne, h.out⟩
  · have h2 := h.box
    rw [hp] at h2
    refine (copyCheck_used b w (heap_cell h2 0 _ rfl)).mono ?_
    rintro e w' ⟨rfl, rfl⟩
    exact ⟨rfl, h.grow, h.new, h2, .inr rfl, h.own, h.ne, h.out⟩

/-- Where the row lies behind the append of a text. -/
theorem run_append_str_lies {P : Program} (w : World) (base : Nat) (t u ty e : TypeId) (i : TypeInfo) (ht : P.underlying t = some (.slice e)) (hu : P.underlying u = some .string) (hi : P.info? e = some i) (hz : i.zero = some (.int .u8 0))
    (hsize : i.size = 1) (hby : i.bytes = 1) (v : Value) (n : Nat) (xs : List Value) (hown : w.ownsRow base e 1 v n xs) (s : ByteArray) (hbytes : n + s.size ≤ 140737488355328) (hbase : base ≤ w.heap.size) :
    ∃ v' w', (Builtin.append_ #[t, u] ty #[v, .string s]).run P w = .ok v' w' ∧ w'.ownsRow base e 1 v' (n + s.size) (xs ++ Lib.strCells s) ∧ w.grownBy w' v.ownBlock ∧ ∀ k, v'.ownBlock = some k → v.ownBlock = some k ∨ w.heap.size ≤ k := by
  obtain ⟨v', w', h1, h2, h3, h4⟩ := Lib.run_append_own_string (P := P) w base t u ty e i ht hu hi hz hsize hby v n xs hown s (by unfold maxLen; omega) hbytes hbase
  refine ⟨v', w', h1, h2, h3, ?_⟩
  rcases hown.2 with ⟨rfl, rfl⟩ | ⟨g, cap, cur, rfl, hbg, hg, hnc, hcm, hcs, htake⟩
  · obtain ⟨v2, w2, k1, k2, -, -⟩ := Lib.run_append_own_string (P := P) w w.heap.size t u ty e i ht hu hi hz hsize hby (.slice none 0 0) 0 [] (World.ownsRow_nil _ _ _ _) s (by unfold maxLen; omega) hbytes (Nat.le_refl _)
    rw [h1] at k1
    cases k1
    exact fun k hk => .inr (k2.lt k hk).1
  · have hxl : xs.length = n := by simpa using hown.1
    have hcs' : cur.size = cap := by simpa using hcs
    by_cases hroom : n + s.size ≤ cap
    · have hr := Lib.run_append_room_string (P := P) w t u ty e i ht hu hi hsize g n cap cur hg s hroom (by omega)
      rw [h1] at hr
      cases hr
      exact fun k hk => .inl hk
    · have holds : ∀ j u, xs[j]? = some u → w.cell? ((⟨g, 0, none⟩ : Addr).add j) = some u := hown.cells (g := g) rfl
      have hr := Lib.run_append_grow_string (P := P) w t u ty e i (.int .u8 0) ht hu hi hz ⟨g, 0, none⟩ n cap xs (by rw [hsize]; simpa using hxl) holds s (by omega) (by omega) (by rw [hby]; exact growslice_fits (by omega) (by omega))
      rw [h1] at hr
      cases hr
      intro k hk
      simp only [Value.ownBlock, Option.some.injEq] at hk
      exact .inr (by omega)

theorem wpList_append_str_lies {P : Program} (w : World) {ops : Array Oper} {rest : List Oper} {o : Oper} {a : Act} {Q : Exit → Act → World → Prop} (hgd : o.guard = none) (sl x : Operand) (t u : TypeId)
    (ho : o.op = .call { callee := .builtin .append, args := #[sl, x], argTypes := #[t, u] })
    (base : Nat) (e : TypeId) (i : TypeInfo) (ht : P.underlying t = some (.slice e)) (hu : P.underlying u = some .string) (hi : P.info? e = some i) (hz : i.zero = some (.int .u8 0)) (hsize : i.size = 1) (hby : i.bytes = 1)
    (v : Value) (n : Nat) (xs : List Value) (hs : a.eval sl = v) (hown : w.ownsRow base e 1 v n xs) (s : ByteArray) (hx : a.eval x = .string s) (hbytes : n + s.size ≤ 140737488355328) (hbase : base ≤ w.heap.size)
    (h : ∀ v' w', w'.ownsRow base e 1 v' (n + s.size) (xs ++ Lib.strCells s) → w.grownBy w' v.ownBlock → (∀ k, v'.ownBlock = some k → v.ownBlock = some k ∨ w.heap.size ≤ k) → wpList P ops Q rest (a.put o.dst v') w') : wpList P ops Q (o :: rest) a w := by
  refine wpList_plain hgd fun K hK => ?_
  obtain ⟨v', w', hr, h2, h3, h4⟩ := run_append_str_lies (P := P) w base t u o.type e i ht hu hi hz hsize hby v n xs hown s hbytes hbase
  unfold Oper.wp execOp
  simp only [ho, resolve, invoke, builtin, Sem.run_bind, Sem.run_pure, Result.andThen_ok, List.map_toArray, List.map_cons, List.map_nil, hs, hx, hr]
  exact hK _ _ (h v' w' h2 h3 h4)

theorem Try.info5 : (Try.prog.info? 5).map (fun i => (i.zero, i.size, i.bytes)) = some (some (.int .u8 0), 1, 1) := by kernel_rfl

set_option maxRecDepth 100000 in
set_option maxHeartbeats 2000000 in
theorem writeString_any {g : G} {w0 : World} {g1 : G} {b : Nat} {bs : List UInt8} {w : World} (h : BldS g w0 g1 b bs w) (s : ByteArray) (hs : bs.length + s.size ≤ 140737488355328) :
    Calls Try.prog 60 #[.pointer (some ⟨b, 0, none⟩), .string s] w fun e w' => e = .returned (.tuple #[.int .i64 s.size, .nilIface]) ∧ BldS g w0 g1 b (bs ++ s.data.toList) w' := by
  obtain ⟨pa, v, h⟩ := h
  obtain ⟨i0, hi, hz0, hz1, hz2⟩ := info_parts Try.info5
  have hcc := h.used
  clear h
  go_enter Try.func60, Try.ntmps60
  go_wp2_with (first | (go_at_call 82; refine hcc.mono ?_) | fail)
  rintro e w1 ⟨rfl, h1⟩
  have c1 := heap_cell h1.box 1 _ rfl
  have HB := hid h1
  have hbw := h1.grow.size
  clear h1 hcc
  go_wp2_with (first | (at_builtin; refine wpList_append_str_lies _ rfl _ _ 28 9 rfl w0.heap.size 5 i0 Try.underlying28 Try.underlying9 hi hz0 hz1 hz2 v bs.length (bs.map byteV) rfl HB.out.own s rfl hs hbw ?_) | fail)
  intro v' w2 hown' hgrow hlies
  have HL := hid hlies
  clear hlies
  have hlt := lt_of_block HB.out.box
  have hb2 : w2.heap[b]? = some (.cells #[.pointer (some ⟨b, 0, none⟩), v] 84) := (hgrow.block b hlt (fun e => HB.out.ne e.symm)).trans HB.out.box
  have d1 := heap_cell hb2 1 _ rfl
  have f1 := heap_free hb2 1
  obtain ⟨ao, n', cap, rfl⟩ : ∃ ao n' cap, v' = .slice ao n' cap := by
    rcases hown'.2 with ⟨hv, _⟩ | ⟨g, cap, cur, hv, _⟩
    · exact ⟨_, _, _, hv⟩
    · exact ⟨_, _, _, hv⟩
  have HO := hid hown'
  have HG := hid hgrow
  have HB2 := hid hb2
  clear hown' hgrow hb2
  go_wp2
  go_ret2
  have e1 : bs.map byteV ++ Lib.strCells s = (bs ++ s.data.toList).map byteV := by
    rw [List.map_append]; rfl
  have e2 : bs.length + s.size = (bs ++ s.data.toList).length := by
    rw [List.length_append, Array.length_toList]; rfl
  have ho := HO.out
  rw [e1, e2] at ho
  have hk : ∀ k, Value.ownBlock (.slice ao n' cap) = some k → g1.blk k = none ∧ k ≠ b := fun k hk => by
    rcases HL.out k hk with h1 | h1
    · exact ⟨HB.out.out.2 k h1, fun e => HB.out.ne (e ▸ h1)⟩
    · exact ⟨HB.out.grow.fut.none_of_size h1, fun e => by subst e; omega⟩
  refine ⟨rfl, _, _, ?_, HB.out.new, heap_setCell_same HB2.out _, .inr rfl, ownsRow_setCell_ne ho (fun e => (hk b e).2 rfl) _, fun e => (hk b e).2 rfl, HB.out.out.1, fun k h => (hk k h).1⟩
  exact (HB.out.grow.grown HG.out (fun k hk => ⟨(HB.out.own.lt k hk).1, HB.out.out.2 k hk⟩)).setCell (a := ⟨b, 1, none⟩) HB.out.out.1 HB.out.new _

theorem Grow.freeze {g g' : G} {w w' : World} (h : Grow g w g' w') {k : Nat} (ha : g'.blk k = none) (hn : w.heap.size ≤ k) (n : Nat) : Grow g w g' (w'.freeze ⟨k, 0, none⟩ n) := by
  unfold World.freeze
  split
  · exact h
  · refine ⟨h.le, ⟨h.fut.os, h.fut.out, fun b o hb => ?_⟩, by simpa using h.size, fun b hb => ?_, h.new⟩
    · have : k ≠ b := fun e => by rw [← e, ha] at hb; cases hb
      simp only [Array.getElem?_modify, if_neg this]
      exact h.fut.blk b o hb
    · simp only [Array.getElem?_modify]
      rw [if_neg (by omega)]
      exact h.old b hb

set_option maxRecDepth 100000 in
set_option maxHeartbeats 2000000 in
theorem string_any {g : G} {w0 : World} {g1 : G} {b : Nat} {l : List UInt8} {w : World} (h : BldS g w0 g1 b l w) (h0 : l ≠ []) :
    Calls Try.prog 37 #[.pointer (some ⟨b, 0, none⟩)] w fun e w' => e = .returned (.string ⟨l.toArray⟩) ∧ Grow g w0 g1 w' := by
  obtain ⟨pa, v, h⟩ := h
  have hl0 : l.length ≠ 0 := by simpa using h0
  obtain ⟨k, cap, cur, rfl, hbg, hg, hnc, hcm, hcs, htake⟩ : ∃ k cap cur, v = .slice (some ⟨k, 0, none⟩) l.length cap ∧ w0.heap.size ≤ k ∧ w.heap[k]? = some (.cells cur 5 (0, 0)) ∧ l.length ≤ cap ∧ cap ≤ maxLen ∧ cur.size = cap * 1 ∧ cur.toList.take (l.length * 1) = l.map byteV := by
    rcases h.own.2 with ⟨_, hz⟩ | ⟨k, cap, cur, hv, r⟩
    · exact absurd hz hl0
    · exact ⟨k, cap, cur, hv, r⟩
  have c1 : w.drew.cell? ⟨b, 1, none⟩ = some (.slice (some ⟨k, 0, none⟩) l.length cap) := heap_cell (w := w.drew) h.box 1 _ rfl
  have hSD : (Builtin.unsafeSliceData_ #[28] 122 #[.slice (some ⟨k, 0, none⟩) l.length cap]).run Try.prog w.drew = .ok (.pointer (some ⟨k, 0, none⟩)) w.drew :=
    Lib.run_unsafeSliceData_row _ _ _ _ _ _ (by omega)
  have hUS : (Builtin.unsafeString_ #[122, 3] 9 #[.pointer (some ⟨k, 0, none⟩), .int .i64 l.length]).run Try.prog w.drew = .ok (.string ⟨l.toArray⟩) (w.drew.freeze ⟨k, 0, none⟩ l.length) := by
    refine Lib.run_unsafeString_row w.drew 122 3 9 5 Try.underlying122 (by kernel_rfl) k cur.size (by have hg' : w.drew.heap[k]? = some (.cells cur 5 (0, 0)) := hg; simp [World.shape?, hg']) l h0 (by omega) (by unfold maxLen at hcm; omega) ?_
    intro j x hx
    have := h.own.cells (g := k) rfl j (.int .u8 x.toNat) (by simp [byteV, hx])
    exact this
  have HH := hid h
  have HK := hid hbg
  clear h hg hcs htake
  go_enter Try.func37, Try.ntmps37
  go_wp2
  go_region
  all_goals go_wp2
  all_goals go_ret
  all_goals exact ⟨rfl, HH.out.grow.drew.freeze (HH.out.out.2 k rfl) HK.out _⟩
end Go.Proofs.Ytjodmimnbpgfcaa

/- Text -/
namespace Go.Proofs.Ytjodmimnbpgfcaa
open Go.RowKit Go.IntWalk

/-- How many of a value's L count. -/
def manyF (k : Int) (n : Nat) : Nat := if k = 3 then 2 else if k = 4 ∨ k = 5 ∨ k = 7 then 1 else if k = 6 then n else 0

mutual
def wfV : Val → Bool
  | .mk k b l => decide (1 ≤ k ∧ k ≤ 7) && decide (k = 2 → b = 97) && decide (manyF k l.length = l.length) && wfVs l
def wfVs : List Val → Bool
  | [] => true
  | v :: r => wfV v && wfVs r
end

set_option maxRecDepth 100000 in
set_option maxHeartbeats 2000000 in
theorem kidsV_any {g : G} {k b : Int} {a : Option Addr} {n c : Nat} {l : List Val} (h : ValV g ⟨k, b, a, n, c⟩ (.mk k b l)) (hk : 1 ≤ k ∧ k ≤ 7) (hn : manyF k l.length = l.length) (w : World) (hw : Fut g w) :
    Calls Try.prog 61 #[VRow.val ⟨k, b, a, n, c⟩] w fun e w' => e = .returned (.slice a n c) ∧ Grow g w g w' := by
  obtain ⟨g1, hg1, -, c0, c1, c2⟩ := box_val hw ⟨k, b, a, n, c⟩
  have hf1 := hg1.fut
  have HG := hid hg1
  clear hg1
  unfold VRow.val
  simp only at c0 c1 c2
  cases h with
  | nil =>
    have hk7 : k = 1 ∨ k = 2 ∨ k = 6 := by
      simp only [manyF, List.length_nil] at hn
      split at hn
      · omega
      · split at hn
        · omega
        · split at hn <;> omega
    rcases hk7 with rfl | rfl | rfl
    all_goals
      go_enter Try.func61, Try.ntmps61
      go_wp2_with fail
      go_ret
      exact ⟨rfl, HG.out.forget⟩
  | row _ _ blk off _ _ f hpos hcap hm hc hr =>
    have hk7 : (k = 3 ∧ l.length = 2) ∨ (k = 4 ∧ l.length = 1) ∨ (k = 5 ∧ l.length = 1) ∨ (k = 7 ∧ l.length = 1) ∨ k = 6 := by
      simp only [manyF] at hn
      split at hn
      · omega
      · split at hn
        · omega
        · split at hn <;> omega
    clear hc hr hn
    simp only at HG c2
    generalize l.length = m at hpos hcap HG c2 hk7 ⊢
    rcases hk7 with ⟨rfl, rfl⟩ | ⟨rfl, rfl⟩ | ⟨rfl, rfl⟩ | ⟨rfl, rfl⟩ | rfl
    all_goals
      go_enter Try.func61, Try.ntmps61
      go_wp2_with fail
      go_ret
      exact ⟨rfl, HG.out.forget⟩

/-- A value's text (each byte is an 'a'). -/
def openF (k : Int) : List UInt8 := if k = 1 then [69] else if k = 2 then [54, 49] else if k = 3 then [40] else if k = 4 then [76] else if k = 5 then [82] else if k = 6 then [91] else if k = 7 then [60] else [63]
def closeF (k : Int) : List UInt8 := if k = 3 then [41] else if k = 6 then [93] else if k = 7 then [62] else []
mutual
def textF : Val → List UInt8
  | .mk k _ l => openF k ++ textFs true l ++ closeF k
def textFs : Bool → List Val → List UInt8
  | _, [] => []
  | first, v :: r => (if first then [] else [44]) ++ textF v ++ textFs false r
end

theorem BldS.box {g : G} {w0 : World} {g1 : G} {b : Nat} {bs : List UInt8} {w : World} (h : BldS g w0 g1 b bs w) (o : Obj) : BldS g w0 (g1.add w.heap.size o) b bs (w.alloc o) := by
  obtain ⟨pa, v, h⟩ := h
  have hlt := lt_of_block h.box
  refine ⟨pa, v, h.grow.box o, h.new, (Below.heap_alloc _ _ _ hlt).trans h.box, h.pa, h.own.alloc _, h.ne, ?_, fun k hk => ?_⟩
  · have : b ≠ w.heap.size := by omega
    simp [G.add, this, h.out.1]
  · have hk2 := (h.own.lt k hk).2
    have : k ≠ w.heap.size := by omega
    simp [G.add, this, h.out.2 k hk]

theorem BldS.fut {g : G} {w0 : World} {g1 : G} {b : Nat} {bs : List UInt8} {w : World} (h : BldS g w0 g1 b bs w) : Fut g1 w := by
  obtain ⟨pa, v, h⟩ := h
  exact h.grow.fut

theorem BldS.kids {g : G} {w0 : World} {g1 : G} {b : Nat} {bs : List UInt8} {w w' : World} (h : BldS g w0 g1 b bs w) (hg : Grow g1 w g1 w') : BldS g w0 g1 b bs w' := by
  obtain ⟨pa, v, h⟩ := h
  have hlt := lt_of_block h.box
  exact ⟨pa, v, h.grow.trans hg, h.new, (hg.old b hlt).trans h.box, h.pa, ownsRow_same h.own (fun k hk => hg.old k (h.own.lt k hk).2), h.ne, h.out⟩

/-- What text is to do. -/
def TextSpec (g : G) (r : VRow) (v : Val) : Prop := ∀ (g0 : G) (w0 : World) (g1 : G) (b : Nat) (bs : List UInt8) (w : World), g.Le g1 → BldS g0 w0 g1 b bs w → bs.length + (textF v).length ≤ 1000000 →
  Calls Try.prog 36 #[.pointer (some ⟨b, 0, none⟩), r.val] w fun e w' => e = .returned (.tuple #[]) ∧ ∃ g2, g1.Le g2 ∧ BldS g0 w0 g2 b (bs ++ textF v) w'

theorem BldS.alloc {g : G} {w0 : World} {g1 : G} {b : Nat} {bs : List UInt8} {w : World} (h : BldS g w0 g1 b bs w) (o : Obj) : BldS g w0 g1 b bs (w.alloc o) := by
  obtain ⟨pa, v, h⟩ := h
  have hlt := lt_of_block h.box
  exact ⟨pa, v, h.grow.alloc o, h.new, (Below.heap_alloc _ _ _ hlt).trans h.box, h.pa, h.own.alloc _, h.ne, h.out⟩

theorem textFs_snoc : ∀ (l : List Val) (f : Bool) (v : Val), textFs f (l ++ [v]) = textFs f l ++ (if f && l.isEmpty then [] else [44]) ++ textF v
  | [], f, v => by cases f <;> simp [textFs]
  | x :: r, f, v => by
    have := textFs_snoc r false v
    simp only [Bool.false_and, Bool.false_eq_true, if_false] at this
    simp [textFs, this]
theorem textFs_take {l : List Val} {q : Nat} (h : q < l.length) : textFs true (l.take (q + 1)) = textFs true (l.take q) ++ (if q = 0 then [] else [44]) ++ textF l[q] := by
  rw [List.take_succ_eq_append_getElem h, textFs_snoc]
  congr 2
  by_cases hq : q = 0
  · subst hq; simp
  · have : (l.take q).isEmpty = false := by
      cases l with
      | nil => simp at h
      | cons x r => cases q with
        | zero => exact absurd rfl hq
        | succ q => rfl
    simp [this, hq]
theorem textFs_le : ∀ (l : List Val) (q : Nat) (f : Bool), (textFs f (l.take q)).length ≤ (textFs f l).length
  | [], q, f => by simp [textFs]
  | x :: r, 0, f => by simp [textFs]
  | x :: r, q + 1, f => by
    have := textFs_le r q false
    simp only [List.take_succ_cons, textFs, List.length_append]
    omega

def openS (k : Int) : ByteArray := ⟨(openF k).toArray⟩
def closeS (k : Int) : ByteArray := ⟨(closeF k).toArray⟩

theorem wfVs_get : ∀ {l : List Val}, wfVs l = true → ∀ (i : Nat) (h : i < l.length), wfV l[i] = true
  | [], _, i, h => by simp at h
  | x :: r, hw, 0, _ => by simp only [wfVs, Bool.and_eq_true] at hw; exact hw.1
  | x :: r, hw, i + 1, h => by simp only [wfVs, Bool.and_eq_true] at hw; exact wfVs_get hw.2 i (by simpa using h)

theorem BldS.drew {g : G} {w0 : World} {g1 : G} {b : Nat} {bs : List UInt8} {w : World} (h : BldS g w0 g1 b bs w) : BldS g w0 g1 b bs w.drew := by
  obtain ⟨pa, v, h⟩ := h
  exact ⟨pa, v, h.grow.drew, h.new, h.box, h.pa, h.own, h.ne, h.out⟩

set_option maxRecDepth 100000 in
set_option maxHeartbeats 4000000 in
theorem text_row {g : G} (k b : Int) (a : Option Addr) (n c : Nat) (l : List Val) (hv : ValV g ⟨k, b, a, n, c⟩ (.mk k b l))
    (H : (a = none ∧ n = 0 ∧ c = 0 ∧ l = []) ∨ ∃ (blk off : Nat) (f : Nat → VRow), a = some ⟨blk, off, none⟩ ∧ n = l.length ∧ l.length ≤ c ∧ c ≤ 9223372036854775807 ∧ (∀ i, i < l.length → VCells g blk (off + i * 3) (f i)) ∧ ∀ i (h : i < l.length), TextSpec g (f i) l[i])
    (hk : 1 ≤ k ∧ k ≤ 7) (hb : k = 2 → b = 97) (hn : manyF k l.length = l.length) : TextSpec g ⟨k, b, a, n, c⟩ (.mk k b l) := by
  intro g0 w0 g1 bb bs w hle hB hlen
  have hf := hB.fut
  have hB1 := hB.box (.cells #[.int .i64 k, .int .u8 b, .slice a n c] 48)
  have hgg : g1.blk w.heap.size = none := hf.none_of_size (Nat.le_refl _)
  have hle1 : g.Le (g1.add w.heap.size (.cells #[.int .i64 k, .int .u8 b, .slice a n c] 48)) := hle.trans (G.le_add hgg)
  have hL1 : g1.Le (g1.add w.heap.size (.cells #[.int .i64 k, .int .u8 b, .slice a n c] 48)) := G.le_add hgg
  have hadd := G.add_same g1 w.heap.size (.cells #[.int .i64 k, .int .u8 b, .slice a n c] 48)
  have c0 := fut_cell hadd 0 _ rfl
  have c1 := fut_cell hadd 1 _ rfl
  have c2 := fut_cell hadd 2 _ rfl
  have hf1 := hB1.fut
  have hkids := fun w' h' => kidsV_any (hv.le hle1) hk hn w' h'
  generalize hW : w.alloc (.cells #[.int .i64 k, .int .u8 b, .slice a n c] 48) = W at hB1 hf1
  generalize hG1 : g1.add w.heap.size (.cells #[.int .i64 k, .int .u8 b, .slice a n c] 48) = G1 at *
  have HB := hid hB1
  have HL := hid hL1
  have HLE := hid hle1
  have HH := hid H
  have HKI := hid hkids
  have hlen2 : bs.length + ((openF k).length + (textFs true l).length + (closeF k).length) ≤ 1000000 := by simpa [textF, Nat.add_assoc] using hlen
  have HN := hid hlen2
  clear hadd hle1 hL1 hle hB hB1 hgg hf hv H hlen hG1 hkids hlen2
  unfold VRow.val
  go_enter Try.func36, Try.ntmps36
  go_upto_block 0 with fail
  go_cut [4, 5] from 8 (fun s4 s5 wc => s4 = .string (openS k) ∧ s5 = .string (closeS k) ∧ Hid (BldS g0 w0 G1 bb bs wc))
  case first =>
    clear HN HLE HL HKI
    have hk7 : k = 1 ∨ k = 2 ∨ k = 3 ∨ k = 4 ∨ k = 5 ∨ k = 6 ∨ k = 7 := by omega
    by_cases h2 : k = 2
    · obtain rfl := hb h2
      subst h2
      clear hb hk7
      go_wp2_with fail
      go_region
      all_goals go_wp2_with fail
      all_goals go_meet
      all_goals exact ⟨rfl, rfl, hid HB.out.drew⟩
    · by_cases h3 : k = 3
      · subst h3
        have hn2 : l.length = 2 := hn.symm
        have hn3 : n = 2 := by
          rcases HH.out with ⟨-, -, -, rfl⟩ | ⟨_, _, _, -, rfl, -⟩
          · simp at hn2
          · exact hn2
        subst hn3
        clear hb hk7
        go_wp2_with fail
        all_goals go_meet
        all_goals exact ⟨rfl, rfl, HB⟩
      · have hk5 : k = 1 ∨ k = 4 ∨ k = 5 ∨ k = 6 ∨ k = 7 := by omega
        clear hk7 hn hb h2 h3 hk
        rcases hk5 with rfl | rfl | rfl | rfl | rfl
        all_goals
          go_wp2_with fail
          go_meet
          exact ⟨rfl, rfl, HB⟩
  case rest =>
    obtain ⟨rfl, rfl, HBc⟩ := hcut
    have hfc := HBc.out.fut
    have n1 : bs.length + (openS k).size ≤ 140737488355328 := by have := HN.out; show bs.length + (openF k).length ≤ _; omega
    have hks := HKI.out
    unfold VRow.val at hks
    go_wp2_with (first | (go_at_call 60; refine (writeString_any HBc.out (openS k) n1).mono ?_; rintro e w1 ⟨rfl, hB2⟩; have HB2 := hid hB2; have hf2 := hB2.fut; clear hB2) | (go_at_call 61; refine (hks _ hf2).mono ?_; rintro e w2 ⟨rfl, hg2⟩; have HB3 := hid (HB2.out.kids hg2.forget); clear hg2) | fail)
    clear c0 c1 c2 hf1 hf2 hfc hks HKI HB2 HBc HB n1 hn hb hk
    have HN2 : Hid ((openS k).size = (openF k).length ∧ (closeS k).size = (closeF k).length) := ⟨rfl, rfl⟩
    have HE : Hid ((openS k).data.toList = openF k ∧ (closeS k).data.toList = closeF k) := ⟨rfl, rfl⟩
    rcases HH.out with ⟨rfl, rfl, rfl, rfl⟩ | ⟨blk, off, f, rfl, rfl, hcap, hm, hcells, ih⟩
    · refine wp_loop_rounds 1 ?_; rw [rounds_succ]
      have n2 : (bs ++ openF k).length + (closeS k).size ≤ 140737488355328 := by have := HN.out; have := HN2.out.2; simp [textFs] at *; omega
      go_wp2_with (first | (go_at_call 60; refine (writeString_any HB3.out (closeS k) n2).mono ?_; rintro e w4 ⟨rfl, hB4⟩; have HB4 := hid hB4; clear hB4) | fail)
      go_end0
      refine ⟨rfl, G1, HL.out, ?_⟩
      have := HB4.out
      rw [HE.out.1, HE.out.2] at this
      simpa [textF, textFs, List.append_assoc] using this
    · have HC := hid hcells
      have IH := hid ih
      clear hcells ih HH
      go_loopg [51] l.length (fun rem i wr => ∃ q g2, q + rem = l.length ∧ i = .int .i64 (q : Nat) ∧ Hid (G1.Le g2) ∧ Hid (BldS g0 w0 g2 bb (bs ++ openF k ++ textFs true (l.take q)) wr))
      case atStart =>
        refine ⟨0, G1, by omega, rfl, G.Le.refl _, hid ?_⟩
        have := HB3.out
        rw [HE.out.1] at this
        simpa [textFs] using this
      case round =>
        obtain ⟨q, g2, hq, rfl, HLq, HBq⟩ := hrel
        have hf4 := HBq.out.fut
        clear HB3
        by_cases hlt : q < l.length
        · obtain ⟨e0, e1, e2⟩ := (HC.out q hlt).le (HLE.out.trans HLq.out)
          have hB5 := HBq.out.box (.cells #[.int .i64 (f q).k, .int .u8 (f q).b, .slice (f q).a (f q).len (f q).cap] 48)
          have hadd5 := G.add_same g2 wr.heap.size (.cells #[.int .i64 (f q).k, .int .u8 (f q).b, .slice (f q).a (f q).len (f q).cap] 48)
          have hle5 : g2.Le (g2.add wr.heap.size (.cells #[.int .i64 (f q).k, .int .u8 (f q).b, .slice (f q).a (f q).len (f q).cap] 48)) := G.le_add (hf4.none_of_size (Nat.le_refl _))
          generalize g2.add wr.heap.size (.cells #[.int .i64 (f q).k, .int .u8 (f q).b, .slice (f q).a (f q).len (f q).cap] 48) = G5 at hB5 hadd5 hle5
          have d0 := fut_cell hadd5 0 _ rfl
          have d1 := fut_cell hadd5 1 _ rfl
          have d2 := fut_cell hadd5 2 _ rfl
          have hf5 := hB5.fut
          have HB5 := hid hB5
          have HL5 := hid hle5
          clear hB5 hadd5 hle5
          have hlq : (bs ++ openF k ++ textFs true (l.take (q + 1))).length ≤ 1000000 := by
            have h1 := HN.out
            have h2 := textFs_le l (q + 1) true
            simp only [List.length_append]; omega
          rw [textFs_take hlt] at hlq
          have IH1 := IH.out q hlt
          have htk := textFs_take hlt
          have HTK := hid htk
          clear htk
          have HLQ := hid hlt
          have HQ := hid hq
          by_cases hq0 : q = 0
          · have HQ0 := hid hq0
            have hlt1 : decide (q > 0) = false := by simp; omega
            have hcall := IH1 g0 w0 G5 bb _ _ (HLE.out.trans (HLq.out.trans HL5.out)) HB5.out (by simp [hq0] at hlq ⊢; omega)
            unfold VRow.val at hcall
            clear IH1 hq0 hlq
            go_wp2_with (first | (go_at_call 36; refine hcall.mono ?_; rintro e w5 ⟨rfl, g6, hL6, hB6⟩; have HB6 := hid hB6; have HL6 := hid hL6; clear hB6 hL6 hcall) | fail)
            go_roundg (l.length - (q + 1))
            case measure => have h1 := HLQ.out; have h2 := HQ.out; omega
            case rel =>
              refine ⟨q + 1, g6, by have := HLQ.out; omega, by go_num, HLq.out.trans (HL5.out.trans HL6.out), hid ?_⟩
              have := HB6.out
              rw [HTK.out, if_pos HQ0.out]
              simpa [List.append_assoc] using this
          · have HQ0 := hid hq0
            have hlt1 : decide (q > 0) = true := by simp; omega
            have n3 : (bs ++ openF k ++ textFs true (l.take q)).length + (ByteArray.mk #[44]).size ≤ 140737488355328 := by
              simp [hq0] at hlq ⊢; show _ + 1 ≤ _; omega
            have hcall := fun w' (hB : BldS g0 w0 G5 bb ((bs ++ openF k ++ textFs true (l.take q)) ++ (ByteArray.mk #[44]).data.toList) w') => IH1 g0 w0 G5 bb _ w' (HLE.out.trans (HLq.out.trans HL5.out)) hB (by simp [hq0] at hlq ⊢; omega)
            unfold VRow.val at hcall
            clear IH1 hq0 hlq
            go_wp2_with (first | (go_at_call 60; refine (writeString_any HB5.out (ByteArray.mk #[44]) n3).mono ?_; rintro e w4 ⟨rfl, hB4⟩; have HB4 := hid hB4; have hf6 := hB4.fut; clear hB4) | (go_at_call 36; refine (hcall _ HB4.out).mono ?_; rintro e w5 ⟨rfl, g6, hL6, hB6⟩; have HB6 := hid hB6; have HL6 := hid hL6; clear hB6 hL6 hcall) | fail)
            go_roundg (l.length - (q + 1))
            case measure => have h1 := HLQ.out; have h2 := HQ.out; omega
            case rel =>
              refine ⟨q + 1, g6, by have := HLQ.out; omega, by go_num, HLq.out.trans (HL5.out.trans HL6.out), hid ?_⟩
              have := HB6.out
              rw [HTK.out, if_neg HQ0.out]
              simpa [List.append_assoc] using this
        · have hql : q = l.length := by omega
          subst hql
          have n2 : (bs ++ openF k ++ textFs true (l.take l.length)).length + (closeS k).size ≤ 140737488355328 := by have := HN.out; have := HN2.out.2; simp at *; omega
          go_wp2_with (first | (go_at_call 60; refine (writeString_any HBq.out (closeS k) n2).mono ?_; rintro e w4 ⟨rfl, hB4⟩; have HB4 := hid hB4; clear hB4) | fail)
          go_end0
          refine ⟨rfl, g2, HL.out.trans HLq.out, ?_⟩
          have := HB4.out
          rw [HE.out.2] at this
          simpa [textF, List.append_assoc] using this

theorem text_any {g : G} {r : VRow} {v : Val} (h : ValV g r v) : wfV v = true → TextSpec g r v := by
  induction h with
  | nil k b =>
    intro hw
    simp only [wfV, Bool.and_eq_true, decide_eq_true_eq] at hw
    exact text_row k b none 0 0 [] (.nil k b) (.inl ⟨rfl, rfl, rfl, rfl⟩) hw.1.1.1 hw.1.1.2 hw.1.2
  | row k b blk off cap l f hpos hcap hm hc hr ih =>
    intro hw
    simp only [wfV, Bool.and_eq_true, decide_eq_true_eq] at hw
    exact text_row k b _ l.length cap l (.row k b blk off cap l f hpos hcap hm hc hr) (.inr ⟨blk, off, f, rfl, rfl, hcap, hm, hc, fun i hi => ih i hi (wfVs_get hw.2 i hi)⟩) hw.1.1.1 hw.1.1.2 hw.1.2
end Go.Proofs.Ytjodmimnbpgfcaa
