/- The persistent heap 'G', what holds it ('Fut'), how a call extends it ('Grow'), and how cores read ('CoreV'). A library text: no claim is stated here.   -/
import Derived.Test.YtjodmimnbpgfcaaRows
import Derived.WalkKit
import Derived.Deep.QuietTactic
import Derived.BigQuiet

/- Base -/
namespace Go.Proofs.Ytjodmimnbpgfcaa
open Go.RowKit
theorem hid {p : Prop} (h : p) : Hid p := h

theorem ret_int {k : IntKind} {a b : Int} (h : a = b) : Ending.returned (.int k a) = .returned (.int k b) := by rw [h]
theorem ret_bool {a b : Bool} (h : a = b) : Ending.returned (.bool a) = .returned (.bool b) := by rw [h]

/-- A persistent part of the heap: blocks that stay as they are. -/
structure G where
  os : Os
  out : Array (Nat × ByteArray)
  blk : Nat → Option Obj

/-- The world holds the persistent part. -/
structure Fut (g : G) (w : World) : Prop where
  os : w.os = g.os
  out : w.output = g.out
  blk : ∀ b o, g.blk b = some o → w.heap[b]? = some o

/-- g' holds what g holds. -/
structure G.Le (g g' : G) : Prop where
  os : g'.os = g.os
  out : g'.out = g.out
  blk : ∀ b o, g.blk b = some o → g'.blk b = some o

theorem G.Le.refl (g : G) : g.Le g := ⟨rfl, rfl, fun _ _ h => h⟩
theorem G.Le.trans {a b c : G} (h : a.Le b) (k : b.Le c) : a.Le c := ⟨k.os.trans h.os, k.out.trans h.out, fun x o hx => k.blk x o (h.blk x o hx)⟩
theorem Fut.le {g g' : G} {w : World} (h : Fut g' w) (k : g.Le g') : Fut g w := ⟨h.os.trans k.os, h.out.trans k.out, fun b o hb => h.blk b o (k.blk b o hb)⟩

theorem Fut.lt {g : G} {w : World} (h : Fut g w) {b : Nat} {o : Obj} (hb : g.blk b = some o) : b < w.heap.size := lt_of_block (h.blk b o hb)

theorem Fut.drew {g : G} {w : World} (h : Fut g w) : Fut g w.drew := ⟨h.os, h.out, h.blk⟩
theorem Fut.alloc {g : G} {w : World} (h : Fut g w) (o : Obj) : Fut g (w.alloc o) :=
  ⟨h.os, h.out, fun b x hb => by rw [Below.heap_alloc _ _ _ (h.lt hb)]; exact h.blk b x hb⟩
theorem Fut.setCell {g : G} {w : World} (h : Fut g w) {a : Addr} (ha : g.blk a.block = none) (v : Value) : Fut g (w.setCell a v) :=
  ⟨h.os, h.out, fun b x hb => by
    rw [Below.heap_setCell _ _ _ _ (fun e => by rw [e, ha] at hb; cases hb)]; exact h.blk b x hb⟩

/-- One block more. -/
def G.add (g : G) (b : Nat) (o : Obj) : G := { g with blk := fun x => if x = b then some o else g.blk x }
theorem G.add_same (g : G) (b : Nat) (o : Obj) : (g.add b o).blk b = some o := by simp [G.add]
theorem G.le_add {g : G} {b : Nat} {o : Obj} (h : g.blk b = none) : g.Le (g.add b o) :=
  ⟨rfl, rfl, fun x y hx => by
    have : x ≠ b := fun e => by rw [e, h] at hx; cases hx
    simp [G.add, this, hx]⟩
theorem Fut.none_of_size {g : G} {w : World} (h : Fut g w) {b : Nat} (hb : w.heap.size ≤ b) : g.blk b = none := by
  cases e : g.blk b with
  | none => rfl
  | some o => have := h.lt e; omega
theorem Fut.add {g : G} {w : World} (h : Fut g w) {b : Nat} {o : Obj} (hb : w.heap[b]? = some o) : Fut (g.add b o) w :=
  ⟨h.os, h.out, fun x y hx => by
    by_cases e : x = b
    · subst e; simp [G.add] at hx; subst hx; exact hb
    · simp [G.add, e] at hx; exact h.blk x y hx⟩

/-- What a call leaves that turns none of the old blocks: some new blocks, of which some are persistent. -/
structure Grow (g : G) (w : World) (g' : G) (w' : World) : Prop where
  le : g.Le g'
  fut : Fut g' w'
  size : w.heap.size ≤ w'.heap.size
  old : ∀ b, b < w.heap.size → w'.heap[b]? = w.heap[b]?
  new : ∀ b, g.blk b = none → b < w.heap.size → g'.blk b = none

theorem Grow.refl {g : G} {w : World} (h : Fut g w) : Grow g w g w := ⟨G.Le.refl g, h, Nat.le_refl _, fun _ _ => rfl, fun _ h _ => h⟩
theorem Grow.trans {g1 g2 g3 : G} {w1 w2 w3 : World} (h : Grow g1 w1 g2 w2) (k : Grow g2 w2 g3 w3) : Grow g1 w1 g3 w3 :=
  ⟨h.le.trans k.le, k.fut, Nat.le_trans h.size k.size, fun b hb => (k.old b (Nat.lt_of_lt_of_le hb h.size)).trans (h.old b hb),
    fun b hb hlt => k.new b (h.new b hb hlt) (Nat.lt_of_lt_of_le hlt h.size)⟩
/-- A new block that stays private. -/
theorem Grow.alloc {g g' : G} {w w' : World} (h : Grow g w g' w') (o : Obj) : Grow g w g' (w'.alloc o) :=
  ⟨h.le, h.fut.alloc o, Nat.le_trans h.size (by simp), fun b hb => by rw [Below.heap_alloc _ _ _ (Nat.lt_of_lt_of_le hb h.size)]; exact h.old b hb, h.new⟩
theorem Grow.drew {g g' : G} {w w' : World} (h : Grow g w g' w') : Grow g w g' w'.drew := ⟨h.le, h.fut.drew, h.size, h.old, h.new⟩
/-- A store into a block of the call's own. -/
theorem Grow.setCell {g g' : G} {w w' : World} (h : Grow g w g' w') {a : Addr} (ha : g'.blk a.block = none) (hn : w.heap.size ≤ a.block) (v : Value) : Grow g w g' (w'.setCell a v) :=
  ⟨h.le, h.fut.setCell ha v, by simpa using h.size, fun b hb => by rw [Below.heap_setCell _ _ _ _ (by omega)]; exact h.old b hb, h.new⟩
/-- A block of the call's own becomes persistent. -/
theorem Grow.keep {g g' : G} {w w' : World} (h : Grow g w g' w') {b : Nat} {o : Obj} (hb : w'.heap[b]? = some o) (hn : w.heap.size ≤ b) (hg : g'.blk b = none) : Grow g w (g'.add b o) w' :=
  ⟨h.le.trans (G.le_add hg), h.fut.add hb, h.size, h.old, fun x hx hlt => by
    have : x ≠ b := by omega
    simp [G.add, this]; exact h.new x hx hlt⟩
theorem Grow.grown {g g' : G} {w w' w'' : World} {row : Option Nat} (h : Grow g w g' w') (hg : w'.grownBy w'' row) (hr : ∀ k, row = some k → w.heap.size ≤ k ∧ g'.blk k = none) : Grow g w g' w'' :=
  ⟨h.le, ⟨hg.os.trans h.fut.os, hg.output.trans h.fut.out, fun b o hb => by
      rw [hg.block b (h.fut.lt hb) (fun e => by have := (hr b e.symm).2; rw [this] at hb; cases hb)]; exact h.fut.blk b o hb⟩,
    Nat.le_trans h.size hg.size, fun b hb => by
      rw [hg.block b (Nat.lt_of_lt_of_le hb h.size) (fun e => by have := (hr b e.symm).1; omega)]; exact h.old b hb, h.new⟩

/-- What became persistent inside a call need not be so for the caller. -/
theorem Grow.forget {g g' : G} {w w' : World} (h : Grow g w g' w') : Grow g w g w' := ⟨G.Le.refl g, h.fut.le h.le, h.size, h.old, fun _ hb _ => hb⟩

theorem Grow.drewN {g g' : G} {w w' : World} (h : Grow g w g' w') (n : Nat) : Grow g w g' (w'.drewN n) := ⟨h.le, ⟨h.fut.os, h.fut.out, h.fut.blk⟩, h.size, h.old, h.new⟩

theorem fut_cell {g : G} {b : Nat} {arr : Array Value} {t : TypeId} {fz : Nat × Nat} (h : g.blk b = some (.cells arr t fz)) (i : Nat) (v : Value) (hv : arr[i]? = some v) : ∀ w, Fut g w → w.cell? ⟨b, i, none⟩ = some v := by
  intro w hw
  simp [World.cell?, hw.blk _ _ h, hv]

/-- The next block, made persistent. -/
theorem Grow.box {g g' : G} {w w' : World} (h : Grow g w g' w') (o : Obj) : Grow g w (g'.add w'.heap.size o) (w'.alloc o) :=
  (h.alloc o).keep (heap_alloc_new w' o) h.size (h.fut.none_of_size (Nat.le_refl _))

theorem box1 {g : G} {w : World} (hw : Fut g w) (o1 : Obj) : ∃ g1, Grow g w g1 (w.alloc o1) ∧ g1.blk w.heap.size = some o1 :=
  ⟨_, (Grow.refl hw).box o1, G.add_same _ _ _⟩
theorem box2 {g : G} {w : World} (hw : Fut g w) (o1 o2 : Obj) : ∃ g1, Grow g w g1 ((w.alloc o1).alloc o2) ∧ g1.blk w.heap.size = some o1 ∧ g1.blk (w.heap.size + 1) = some o2 := by
  obtain ⟨g1, h1, e1⟩ := box1 hw o1
  have h2 := h1.box o2
  refine ⟨_, h2, ?_, ?_⟩
  · simp [G.add, e1]
  · simp [G.add]
theorem box3 {g : G} {w : World} (hw : Fut g w) (o1 o2 o3 : Obj) : ∃ g1, Grow g w g1 (((w.alloc o1).alloc o2).alloc o3) ∧ g1.blk w.heap.size = some o1 ∧ g1.blk (w.heap.size + 1) = some o2 ∧ g1.blk (w.heap.size + 1 + 1) = some o3 := by
  obtain ⟨g1, h1, e1, e2⟩ := box2 hw o1 o2
  have h2 := h1.box o3
  refine ⟨_, h2, ?_, ?_, ?_⟩
  · simp [G.add, e1]; omega
  · simp [G.add, e2]
  · simp [G.add]

/-- A world that has grown out of w0. -/
structure Wg (g : G) (w0 : World) where
  w : World
  h : Grow g w0 g w

theorem quiet_grow {P : Program} {g : G} {w0 : World} {x : Wg g w0} {f : FuncId} {args : Array Value} {v : Value} (h : Calls P f args x.w fun e w' => e = .returned v ∧ Grow g x.w g w') :
    Calls P f args x.w fun e w'' => e = .returned v ∧ ∃ y : Wg g w0, w'' = y.w :=
  h.mono fun _ w' ⟨he, hg⟩ => ⟨he, ⟨w', x.h.trans hg⟩, rfl⟩
theorem quiet_same {P : Program} {g : G} {w0 : World} {x : Wg g w0} {f : FuncId} {args : Array Value} {v : Value} (h : Calls P f args x.w fun e w' => e = .returned v ∧ x.w = w') :
    Calls P f args x.w fun e w'' => e = .returned v ∧ ∃ y : Wg g w0, w'' = y.w :=
  h.mono fun _ _ ⟨he, hg⟩ => ⟨he, x, hg.symm⟩

/-- A region that draws its order, each of whose operations yields one value in every world that has grown out of w0. -/
theorem wp_region_cls {P : Program} {g : G} {w0 : World} {id : Nat} {Q : Exit → Act → World → Prop} {a : Act} {w : World} {l : List Oper} (hm : P.follows .mixedOrders = true) (hB : Region.lexB .any l.toArray = true)
    (hC : Grow g w0 g w)
    (h : wpQuiet P l.toArray (fun w' => ∃ x : Wg g w0, w' = x.w) (fun a' => ∀ w', (∃ x : Wg g w0, w' = x.w) → Q .normal a' w') l a) : (Code.region id l.toArray true).wp P Q a w :=
  wp_region_quiet (C := fun w' => ∃ x : Wg g w0, w' = x.w) hm hB ⟨⟨_, hC.drew⟩, rfl⟩ (by simpa using h)

/-- A set of bytes: four words. -/
structure Set4 where
  a : Nat
  b : Nat
  c : Nat
  d : Nat
  deriving DecidableEq

def Set4.wf (s : Set4) : Prop := s.a < 18446744073709551616 ∧ s.b < 18446744073709551616 ∧ s.c < 18446744073709551616 ∧ s.d < 18446744073709551616
def Set4.word (s : Set4) (i : Nat) : Nat := match i with | 0 => s.a | 1 => s.b | 2 => s.c | _ => s.d
/-- Is byte x in it? -/
def Set4.has (s : Set4) (x : Nat) : Bool := (s.word (x / 64)).testBit (x % 64)

/-- A core, of any kind and with any number of parts. -/
inductive Core where
  | mk (kind : Int) (set : Set4) (n : Int) (l : List Core)

def Core.kind : Core → Int | .mk k _ _ _ => k
def Core.set : Core → Set4 | .mk _ s _ _ => s
def Core.n : Core → Int | .mk _ _ n _ => n
def Core.l : Core → List Core | .mk _ _ _ l => l

def i64 (n : Int) : Prop := -9223372036854775808 ≤ n ∧ n ≤ 9223372036854775807

/-- A core's own cells: its slice as the value has it. -/
structure CRow where
  k : Int
  s : Set4
  n : Int
  a : Option Addr
  len : Nat
  cap : Nat

def CRow.val (r : CRow) : Value := .agg #[.int .i64 r.k, .int .u64 r.s.a, .int .u64 r.s.b, .int .u64 r.s.c, .int .u64 r.s.d, .int .i64 r.n, .slice r.a r.len r.cap]

/-- The cells of a core lie there, in every world that holds g. -/
structure CellsAt (g : G) (b off : Nat) (r : CRow) : Prop where
  c0 : ∀ w, Fut g w → w.cell? ⟨b, off, none⟩ = some (.int .i64 r.k)
  c1 : ∀ w, Fut g w → w.cell? ⟨b, off + 1, none⟩ = some (.int .u64 r.s.a)
  c2 : ∀ w, Fut g w → w.cell? ⟨b, off + 2, none⟩ = some (.int .u64 r.s.b)
  c3 : ∀ w, Fut g w → w.cell? ⟨b, off + 3, none⟩ = some (.int .u64 r.s.c)
  c4 : ∀ w, Fut g w → w.cell? ⟨b, off + 4, none⟩ = some (.int .u64 r.s.d)
  c5 : ∀ w, Fut g w → w.cell? ⟨b, off + 5, none⟩ = some (.int .i64 r.n)
  c6 : ∀ w, Fut g w → w.cell? ⟨b, off + 6, none⟩ = some (.slice r.a r.len r.cap)

theorem CellsAt.le {g g' : G} {b off : Nat} {r : CRow} (h : CellsAt g b off r) (k : g.Le g') : CellsAt g' b off r :=
  ⟨fun w hw => h.c0 w (hw.le k), fun w hw => h.c1 w (hw.le k), fun w hw => h.c2 w (hw.le k), fun w hw => h.c3 w (hw.le k), fun w hw => h.c4 w (hw.le k), fun w hw => h.c5 w (hw.le k), fun w hw => h.c6 w (hw.le k)⟩

/-- A core as it lies in memory. -/
inductive CoreV (g : G) : CRow → Core → Prop
  | nil (k : Int) (s : Set4) (n : Int) (hk : i64 k) (hs : s.wf) (hn : i64 n) (ao : Option Addr) (cp : Nat) : CoreV g ⟨k, s, n, ao, 0, cp⟩ (.mk k s n [])
  | row (k : Int) (s : Set4) (n : Int) (hk : i64 k) (hs : s.wf) (hn : i64 n) (b off cap : Nat) (l : List Core) (f : Nat → CRow)
      (hcap : l.length ≤ cap) (hm : cap ≤ 9223372036854775807)
      (hc : ∀ i, i < l.length → CellsAt g b (off + i * 7) (f i))
      (hr : ∀ i (h : i < l.length), CoreV g (f i) l[i]) :
      CoreV g ⟨k, s, n, some ⟨b, off, none⟩, l.length, cap⟩ (.mk k s n l)

theorem CoreV.le {g g' : G} {v : CRow} {c : Core} (h : CoreV g v c) (k : g.Le g') : CoreV g' v c := by
  induction h with
  | nil k s n hk hs hn ao cp => exact .nil k s n hk hs hn ao cp
  | row k s n hk hs hn b off cap l f hcap hm hc _ ih => exact .row k s n hk hs hn b off cap l f hcap hm (fun i hi => (hc i hi).le ‹_›) ih

end Go.Proofs.Ytjodmimnbpgfcaa

/- Size -/
namespace Go.Proofs.Ytjodmimnbpgfcaa
open Go.RowKit Go.IntWalk

mutual
def sizeF : Core → Int
  | .mk _ _ _ l => min (sizeL l 1) 100000
def sizeL : List Core → Int → Int
  | [], n => n
  | x :: r, n => if n ≥ 100000 then n else sizeL r (n + sizeF x)
end

mutual
theorem sizeF_bd : ∀ (c : Core), 1 ≤ sizeF c ∧ sizeF c ≤ 100000
  | .mk _ _ _ l => by simp only [sizeF]; have := sizeL_mono l 1 (by omega); omega
theorem sizeL_mono : ∀ (l : List Core) (n : Int), 1 ≤ n → 1 ≤ sizeL l n
  | [], n, h => h
  | x :: r, n, h => by
    rw [sizeL]
    split
    · exact h
    · have := sizeF_bd x; exact sizeL_mono r _ (by omega)
end

theorem sizeL_big {l : List Core} {t : Int} : ∀ {q : Nat}, t ≥ 100000 → sizeL (l.drop q) t = t := by
  intro q h
  cases l.drop q with
  | nil => rfl
  | cons x r => rw [sizeL, if_pos h]
theorem sizeL_step {l : List Core} {t : Int} {q : Nat} (h : Hid (sizeL (l.drop q) t = sizeL l 1)) (hq : q < l.length) (hb : ¬ t ≥ 100000) : Hid (sizeL (l.drop (q + 1)) (t + sizeF l[q]) = sizeL l 1) := by
  have h' := h.out
  rw [List.drop_eq_getElem_cons hq, sizeL, if_neg hb] at h'
  exact h'

set_option maxHeartbeats 400000 in
theorem size_row {g : G} (k : Int) (s : Set4) (n : Int) (b off cap : Nat) (l : List Core) (f : Nat → CRow) (hcap : l.length ≤ cap) (hm : cap ≤ 9223372036854775807)
    (hc : ∀ i, i < l.length → CellsAt g b (off + i * 7) (f i))
    (ih : ∀ i (h : i < l.length) (w : World), Fut g w → Calls Try.prog 8 #[(f i).val] w fun e w' => e = .returned (.int .i64 (sizeF l[i])) ∧ Grow g w g w')
    (w : World) (hw : Fut g w) :
    Calls Try.prog 8 #[CRow.val ⟨k, s, n, some ⟨b, off, none⟩, l.length, cap⟩] w fun e w' => e = .returned (.int .i64 (sizeF (.mk k s n l))) ∧ Grow g w g w' := by
  have HC := hid hc
  clear hc
  unfold CRow.val at ih ⊢
  go_enter Try.func8, Try.ntmps8
  go_wp2
  go_loopw [3, 9] (fun v i wr => ∃ (q : Nat) (t : Int), q ≤ l.length ∧ i = .int .i64 q ∧ v = .int .i64 t ∧ Grow g w g wr ∧ 1 ≤ t ∧ t ≤ 200000 ∧ Hid (sizeL (l.drop q) t = sizeL l 1)) (fun _ i _ => l.length - (intOf i).toNat)
  case atStart => exact ⟨0, 1, Nat.zero_le _, rfl, rfl, (Grow.refl hw).alloc _, by decide, by decide, rfl⟩
  case round =>
    obtain ⟨q, t, hq, rfl, rfl, hg, h1, h2, H3⟩ := hrel
    have HG := hid hg
    have hfut := hg.fut
    clear hg
    by_cases hlt : q < l.length
    · obtain ⟨c0, c1, c2, c3, c4, c5, c6⟩ := HC.out q hlt
      have IH := ih q hlt
      by_cases hbig : t ≥ 100000
      · go_wp2_with fail
        all_goals
          go_ret
          refine ⟨ret_int ?_, HG.out.alloc _⟩
          have := H3.out
          rw [sizeL_big hbig] at this
          rw [sizeF, ← this]; omega
      · have hs := sizeF_bd l[q]
        go_wp2_with (go_at_call 8; refine (IH _ (hfut.alloc _)).mono ?_; rintro e w1 ⟨rfl, hg1⟩)
        go_roundw
        case rel => exact ⟨q + 1, t + sizeF l[q], by omega, by go_num, by go_num, (HG.out.alloc _).trans hg1, by omega, by omega, sizeL_step H3 hlt (by omega)⟩
        case measure => simp [intOf]; omega
    · go_wp2_with fail
      all_goals
        go_ret
        refine ⟨ret_int ?_, HG.out⟩
        have := H3.out
        rw [List.drop_of_length_le (by omega), sizeL] at this
        rw [sizeF, ← this]; omega

set_option maxHeartbeats 400000 in
theorem size_nil {g : G} (k : Int) (s : Set4) (n : Int) (ao : Option Addr) (cp : Nat) (w : World) (hw : Fut g w) :
    Calls Try.prog 8 #[CRow.val ⟨k, s, n, ao, 0, cp⟩] w fun e w' => e = .returned (.int .i64 (sizeF (.mk k s n []))) ∧ Grow g w g w' := by
  unfold CRow.val
  go_enter Try.func8, Try.ntmps8
  go_wp2
  refine wp_loop_rounds 1 ?_; rw [rounds_succ]
  go_wp2
  go_ret
  exact ⟨rfl, (Grow.refl hw).alloc _⟩

theorem size_any {g : G} {r : CRow} {c : Core} (h : CoreV g r c) (w : World) (hw : Fut g w) :
    Calls Try.prog 8 #[r.val] w fun e w' => e = .returned (.int .i64 (sizeF c)) ∧ Grow g w g w' := by
  induction h generalizing w with
  | nil k s n hk hs hn ao cp => exact size_nil k s n ao cp w hw
  | row k s n hk hs hn b off cap l f hcap hm hc _ ih => exact size_row k s n b off cap l f hcap hm hc ih w hw
end Go.Proofs.Ytjodmimnbpgfcaa

/- Find -/
namespace Go.Proofs.Ytjodmimnbpgfcaa
open Go.RowKit Go.IntWalk

def kidsF (k : Int) : Int := if k = 0 ∨ k = 1 ∨ k = 2 then 0 else if k = 3 ∨ k = 4 then 2 else if k = 5 ∨ k = 6 ∨ k = 7 then 1 else -1

theorem kids_any (k : Int) (w : World) : Calls Try.prog 43 #[.int .i64 k] w fun e w' => e = .returned (.int .i64 (kidsF k)) ∧ w = w' := by
  by_cases h : 0 ≤ k ∧ k ≤ 7
  · obtain ⟨h0, h7⟩ := h
    have hk : k = 0 ∨ k = 1 ∨ k = 2 ∨ k = 3 ∨ k = 4 ∨ k = 5 ∨ k = 6 ∨ k = 7 := by omega
    clear h0 h7
    rcases hk with rfl | rfl | rfl | rfl | rfl | rfl | rfl | rfl <;>
    · go_enter Try.func43, Try.ntmps43
      go_wp2
      go_ret
      exact ⟨rfl, rfl⟩
  · have e0 : (k == 0) = false := by simp; omega
    have e1 : (k == 1) = false := by simp; omega
    have e2 : (k == 2) = false := by simp; omega
    have e3 : (k == 3) = false := by simp; omega
    have e4 : (k == 4) = false := by simp; omega
    have e5 : (k == 5) = false := by simp; omega
    have e6 : (k == 6) = false := by simp; omega
    have e7 : (k == 7) = false := by simp; omega
    go_enter Try.func43, Try.ntmps43
    go_wp2
    go_ret
    refine ⟨ret_int ?_, rfl⟩
    unfold kidsF
    rw [if_neg (by omega), if_neg (by omega), if_neg (by omega)]

/-- What a closed function number needs to be called. -/
def Callable (F : Nat) : Prop := ∀ (args : Array Value) (w : World), (callFunc F args).run Try.prog w = .ok (.enter F args) w

/-- The first i below n with p i, or -1. -/
def firstI (p : Nat → Bool) (n : Nat) : Nat → Int
  | 0 => -1
  | k + 1 => if p (n - (k + 1)) then ((n - (k + 1) : Nat) : Int) else firstI p n k

theorem firstI_hit {p : Nat → Bool} {n q : Nat} (hq : q < n) (h : p q = true) : firstI p n (n - q) = q := by
  obtain ⟨k, hk⟩ : ∃ k, n - q = k + 1 := ⟨n - q - 1, by omega⟩
  have : n - (k + 1) = q := by omega
  rw [hk, firstI, this, if_pos h]
theorem firstI_miss {p : Nat → Bool} {n q : Nat} (hq : q < n) (h : p q = false) : firstI p n (n - q) = firstI p n (n - (q + 1)) := by
  obtain ⟨k, hk⟩ : ∃ k, n - q = k + 1 := ⟨n - q - 1, by omega⟩
  have e : n - (k + 1) = q := by omega
  have e2 : n - (q + 1) = k := by omega
  rw [hk, e2, firstI, e, h]
  rfl
theorem firstI_any (p : Nat → Bool) (n : Nat) : decide (firstI p n n ≥ 0) = (List.range n).any p := by
  suffices ∀ k, k ≤ n → decide (firstI p n k ≥ 0) = ((List.range k).any fun i => p (n - k + i)) by
    have h := this n (Nat.le_refl _)
    simpa using h
  intro k
  induction k with
  | zero => intro _; simp [firstI]
  | succ k ih =>
    intro hk
    have ih' := ih (by omega)
    rw [firstI]
    cases h : p (n - (k + 1)) with
    | true =>
      simp only [if_true]
      have : ((List.range (k + 1)).any fun i => p (n - (k + 1) + i)) = true := by
        rw [List.any_eq_true]; exact ⟨0, by simp, by simpa using h⟩
      rw [this]; simp
    | false =>
      simp only [Bool.false_eq_true, if_false]
      rw [ih', List.range_succ_eq_map, List.any_cons, List.any_map]
      simp only [Nat.add_zero, h, Bool.false_or]
      congr 1
      funext i
      simp only [Function.comp]
      congr 1
      omega

set_option maxHeartbeats 400000 in
theorem indexCore_any {g : G} {b off cap n : Nat} {f : Nat → CRow} (hc : ∀ i, i < n → CellsAt g b (off + i * 7) (f i)) (hcap : n ≤ cap) (hm : cap ≤ 9223372036854775807)
    (F : Nat) (caps : Array Value) (hF : Callable F) (p : Nat → Bool)
    (hcall : ∀ i, i < n → ∀ w, Fut g w → Calls Try.prog F (#[(f i).val] ++ caps) w fun e w' => e = .returned (.bool (p i)) ∧ Grow g w g w')
    (w : World) (hw : Fut g w) :
    Calls Try.prog 68 #[.slice (some ⟨b, off, none⟩) n cap, .func (.func F) #[] caps] w fun e w' => e = .returned (.int .i64 (firstI p n n)) ∧ Grow g w g w' := by
  have HC := hid hc
  clear hc
  unfold Callable at hF
  unfold CRow.val at hcall
  go_enter Try.func68, Try.ntmps68
  go_wp2
  go_loopw [8] (fun i wr => ∃ (q : Nat), q ≤ n ∧ i = .int .i64 q ∧ Grow g w g wr ∧ Hid (firstI p n (n - q) = firstI p n n)) (fun i _ => n - (intOf i).toNat)
  case atStart => exact ⟨0, Nat.zero_le _, rfl, Grow.refl hw, rfl⟩
  case round =>
    obtain ⟨q, hq, rfl, hg, H3⟩ := hrel
    have HG := hid hg
    have hfut := hg.fut
    clear hg
    by_cases hlt : q < n
    · obtain ⟨c0, c1, c2, c3, c4, c5, c6⟩ := HC.out q hlt
      have IH := hcall q hlt wr HG.out.fut
      cases hp : p q with
      | true =>
        rw [hp] at IH
        have HP := hid hp
        clear hp
        go_wp2_with (with_reducible refine (IH.mono ?_); rintro e w1 ⟨rfl, hg2⟩)
        go_ret
        exact ⟨ret_int ((firstI_hit hlt HP.out).symm.trans H3.out), HG.out.trans hg2⟩
      | false =>
        rw [hp] at IH
        have HP := hid hp
        clear hp
        go_wp2_with (with_reducible refine (IH.mono ?_); rintro e w1 ⟨rfl, hg2⟩)
        go_roundw
        case rel => exact ⟨q + 1, by omega, by go_num, HG.out.trans hg2, (firstI_miss hlt HP.out).symm.trans H3.out⟩
        case measure => simp [intOf]; omega
    · go_wp2_with fail
      go_ret
      refine ⟨ret_int ?_, HG.out⟩
      obtain rfl : q = n := by omega
      have := H3.out
      rw [Nat.sub_self] at this
      exact this

theorem indexCore_nil (g : G) (ao : Option Addr) (cp : Nat) (F : Nat) (caps : Array Value) (w : World) (hw : Fut g w) :
    Calls Try.prog 68 #[.slice ao 0 cp, .func (.func F) #[] caps] w fun e w' => e = .returned (.int .i64 (-1)) ∧ Grow g w g w' := by
  go_enter Try.func68, Try.ntmps68
  go_wp2
  refine wp_loop_rounds 1 ?_; rw [rounds_succ]
  go_wp2
  go_ret
  exact ⟨rfl, Grow.refl hw⟩

theorem containsCore_of {g : G} {sl fv : Value} {w : World} {r : Int} (h : Calls Try.prog 68 #[sl, fv] w fun e w' => e = .returned (.int .i64 r) ∧ Grow g w g w') :
    Calls Try.prog 44 #[sl, fv] w fun e w' => e = .returned (.bool (decide (r ≥ 0))) ∧ Grow g w g w' := by
  go_enter Try.func44, Try.ntmps44
  go_wp2_with (with_reducible refine (h.mono ?_); rintro e w1 ⟨rfl, hg2⟩)
  go_ret
  exact ⟨by simp, hg2⟩
end Go.Proofs.Ytjodmimnbpgfcaa
