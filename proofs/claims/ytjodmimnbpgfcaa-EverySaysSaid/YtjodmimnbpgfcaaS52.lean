/- The arguments of the rows, opened: a readable core lies in memory as 'CoreV' over all that the world holds; a readable slice of bytes as 'SliceV'. A library text: no claim is stated here. The rows' frame: a call that turns no old block answers 'true': its post. A library text: no claim is stated here. -/
import Derived.Test.YtjodmimnbpgfcaaS22
import Derived.Deep.Slices
import Derived.Lib.SmallJoins
import Derived.Laws.IdiomArrays
import Derived.KernelRfl
import Derived.ProofKit

/- Open -/
namespace Go.Proofs.Ytjodmimnbpgfcaa
open Go.RowKit Go.ChangeShapes Go.Deep

theorem gAll_cell {W : World} {b o : Nat} {v : Value} (h : W.cell? ⟨b, o, none⟩ = some v) : ∀ w, Fut (gAll W) w → w.cell? ⟨b, o, none⟩ = some v := by
  intro w hw
  cases hb : W.heap[b]? with
  | none => simp [World.cell?, hb] at h
  | some x =>
    have h2 := hw.blk b x hb
    simp only [World.cell?] at h ⊢
    simp only [hb] at h
    simp only [h2]
    exact h

theorem lit_u64 {n : Int} (h : (Lit.int .u64 n).wf = true) : ∃ m : Nat, n = m ∧ m < 18446744073709551616 := by
  simp [Lit.wf, IntKind.min, IntKind.max, IntKind.signed, IntKind.bits] at h
  exact ⟨n.toNat, by omega, by omega⟩
theorem lit_u8 {n : Int} (h : (Lit.int .u8 n).wf = true) : ∃ x : UInt8, Value.int .u8 n = byteV x := by
  simp [Lit.wf, IntKind.min, IntKind.max, IntKind.signed, IntKind.bits] at h
  refine ⟨UInt8.ofNat n.toNat, ?_⟩
  unfold byteV
  have : (UInt8.ofNat n.toNat).toNat = n.toNat := by simp; omega
  rw [this]
  congr 1
  omega
theorem lit_i64 {n : Int} (h : (Lit.int .i64 n).wf = true) : i64 n := by
  simp [Lit.wf, IntKind.min, IntKind.max, IntKind.signed, IntKind.bits] at h
  exact h

theorem addr_none (b o n : Nat) : (⟨b, o, none⟩ : Addr).add n = ⟨b, o + n, none⟩ := by
  unfold Addr.add
  by_cases h : n = 0
  · simp [h]
  · simp [h]

theorem list7 {α : Type} {cs : List α} (h : cs.length = 7) : ∃ a b c d e f g, cs = [a, b, c, d, e, f, g] := by
  match cs, h with
  | [a, b, c, d, e, f, g], _ => exact ⟨a, b, c, d, e, f, g, rfl⟩

variable {H : Type} {enc : TypeId × Value → H}

theorem core_open {W : World} {sp : Nat → Bool} {held : Bool} : ∀ (fuel : Nat) (cs : List Value) (x : DataW H × List MemPlace), DataW.trod enc Try.prog W 0 sp held fuel 27 cs = some x →
    ∃ (r : CRow) (c : Core), cs = r.cells.toList ∧ CoreV (gAll W) r c := by
  intro fuel
  induction fuel using Nat.strongRecOn with
  | _ fuel ih =>
  intro cs x h
  obtain ⟨n', hfuel⟩ : ∃ m, fuel = m + 1 := by cases fuel with | zero => simp [DataW.trod] at h | succ m => exact ⟨m, rfl⟩
  subst hfuel
  obtain ⟨xs, n, hn, -, hl, hxl, hf⟩ := DataW.trod_struct Try.underlying27 h
  obtain rfl : n' = n := by omega
  have hl7 : cs.length = 7 := by rw [hl]; kernel_rfl
  obtain ⟨c0, c1, c2, c3, c4, c5, c6, rfl⟩ := list7 hl7
  clear hl hl7 h
  have hx4 : ∀ i, i < 4 → ∃ y, xs[i]? = some y := fun i hi => ⟨xs[i]'(by rw [hxl]; exact hi), List.getElem?_eq_getElem _⟩
  obtain ⟨y0, e0⟩ := hx4 0 (by omega)
  obtain ⟨y1, e1⟩ := hx4 1 (by omega)
  obtain ⟨y2, e2⟩ := hx4 2 (by omega)
  obtain ⟨y3, e3⟩ := hx4 3 (by omega)
  have f0 : DataW.trod enc Try.prog W 0 sp held n' 3 (([c0, c1, c2, c3, c4, c5, c6].drop 0).take (Try.prog.cellsOf 3)) = xs[0]? := hf 0 _ rfl
  have f1 : DataW.trod enc Try.prog W 0 sp held n' 24 (([c0, c1, c2, c3, c4, c5, c6].drop 1).take (Try.prog.cellsOf 24)) = xs[1]? := hf 1 _ rfl
  have f2 : DataW.trod enc Try.prog W 0 sp held n' 3 (([c0, c1, c2, c3, c4, c5, c6].drop 5).take (Try.prog.cellsOf 3)) = xs[2]? := hf 2 _ rfl
  have f3 : DataW.trod enc Try.prog W 0 sp held n' 25 (([c0, c1, c2, c3, c4, c5, c6].drop 6).take (Try.prog.cellsOf 25)) = xs[3]? := hf 3 _ rfl
  rw [e0] at f0
  rw [e1] at f1
  rw [e2] at f2
  rw [e3] at f3
  have k1 : Try.prog.cellsOf 3 = 1 := by kernel_rfl
  have k24 : Try.prog.cellsOf 24 = 4 := by kernel_rfl
  have k25 : Try.prog.cellsOf 25 = 1 := by kernel_rfl
  have k22 : Try.prog.cellsOf 22 = 1 := by kernel_rfl
  rw [k1] at f0
  rw [k24] at f1
  rw [k1] at f2
  rw [k25] at f3
  clear hf hx4 e0 e1 e2 e3
  simp only [List.drop_zero, List.drop_succ_cons, List.take_succ_cons, List.take_zero] at f0 f1 f2 f3
  obtain ⟨k, h0, -, w0⟩ := DataW.trod_int Try.underlying3 f0
  obtain ⟨z0, z1, z2, z3, m, -, g0, g1, g2, g3⟩ := trod_array4 Try.underlying24 k22 f1
  obtain ⟨a0, p0, -, v0⟩ := DataW.trod_int Try.underlying22 g0
  obtain ⟨a1, p1, -, v1⟩ := DataW.trod_int Try.underlying22 g1
  obtain ⟨a2, p2, -, v2⟩ := DataW.trod_int Try.underlying22 g2
  obtain ⟨a3, p3, -, v3⟩ := DataW.trod_int Try.underlying22 g3
  obtain ⟨nn, h2, -, w2⟩ := DataW.trod_int Try.underlying3 f2
  obtain ⟨u0, rfl, hu0⟩ := lit_u64 v0
  obtain ⟨u1, rfl, hu1⟩ := lit_u64 v1
  obtain ⟨u2, rfl, hu2⟩ := lit_u64 v2
  obtain ⟨u3, rfl, hu3⟩ := lit_u64 v3
  simp at h0 p0 p1 p2 p3 h2
  subst h0 p0 p1 p2 p3 h2
  have hk := lit_i64 w0
  have hnn := lit_i64 w2
  have hsw : (⟨u0, u1, u2, u3⟩ : Set4).wf := ⟨hu0, hu1, hu2, hu3⟩
  rcases DataW.trod_slice Try.underlying25 f3 with ⟨hc6, -⟩ | ⟨a, len, cap, elems, rest, q, hnq, hc6, -, -, hle, hmax, hlen, hel, -, -⟩
  · simp at hc6
    subst hc6
    exact ⟨⟨k, ⟨u0, u1, u2, u3⟩, nn, none, 0, 0⟩, .mk k ⟨u0, u1, u2, u3⟩ nn [], rfl, .nil k _ nn hk hsw hnn none 0⟩
  · simp at hc6
    subst hc6
    by_cases hz : len = 0
    · subst hz
      exact ⟨⟨k, ⟨u0, u1, u2, u3⟩, nn, some a, 0, cap⟩, .mk k ⟨u0, u1, u2, u3⟩ nn [], rfl, .nil k _ nn hk hsw hnn _ _⟩
    have k27 : Try.prog.cellsOf 27 = 7 := by kernel_rfl
    rw [k27] at hel
    have hq : q < n' + 1 := by omega
    have hel : ∀ i, i < len → ∃ cs', W.cells? 0 (a.add (i * 7)) 7 = some cs' ∧ ∃ y, DataW.trod enc Try.prog W 0 sp held q 27 cs' = some y := by
      intro i hi
      have h1 := hel i hi
      rw [List.getElem?_eq_getElem (by omega)] at h1
      obtain ⟨cs', h2, h3⟩ := Option.bind_eq_some_iff.1 h1
      exact ⟨cs', h2, _, h3⟩
    have hspot : a.spot = none := by
      obtain ⟨cs', hc', -⟩ := hel 0 (by omega)
      obtain ⟨-, hlc, hcc⟩ := World.cells?_some hc'
      have h3 := hcc 0 (by omega)
      rw [List.getElem?_eq_getElem (by omega)] at h3
      have h4 := World.cell?_spot h3
      simpa [Addr.add] using h4
    obtain ⟨b, off, sp0⟩ := a
    simp only at hspot
    subst hspot
    have hone : ∀ i, i < len → ∃ y : CRow × Core, CellsAt (gAll W) b (off + i * 7) y.1 ∧ CoreV (gAll W) y.1 y.2 := by
      intro i hi
      obtain ⟨cs', hc', yy, ht'⟩ := hel i hi
      obtain ⟨r, c, rfl, hr⟩ := ih q hq cs' _ ht'
      obtain ⟨-, -, hcc⟩ := World.cells?_some hc'
      simp only [addr_none] at hcc
      refine ⟨⟨r, c⟩, ⟨?_, ?_, ?_, ?_, ?_, ?_, ?_⟩, hr⟩
      all_goals refine gAll_cell ?_
      · simpa [CRow.cells] using hcc 0 (by omega)
      · simpa [CRow.cells] using hcc 1 (by omega)
      · simpa [CRow.cells] using hcc 2 (by omega)
      · simpa [CRow.cells] using hcc 3 (by omega)
      · simpa [CRow.cells] using hcc 4 (by omega)
      · simpa [CRow.cells] using hcc 5 (by omega)
      · simpa [CRow.cells] using hcc 6 (by omega)
    haveI : Inhabited (CRow × Core) := ⟨⟨k, ⟨0, 0, 0, 0⟩, 0, none, 0, 0⟩, .mk 0 ⟨0, 0, 0, 0⟩ 0 []⟩
    obtain ⟨F, hF⟩ := choose_lt hone
    have hll : ((List.range len).map fun i => (F i).2).length = len := by simp
    refine ⟨⟨k, ⟨u0, u1, u2, u3⟩, nn, some ⟨b, off, none⟩, len, cap⟩, .mk k ⟨u0, u1, u2, u3⟩ nn ((List.range len).map fun i => (F i).2), rfl, ?_⟩
    have := CoreV.row (g := gAll W) k ⟨u0, u1, u2, u3⟩ nn hk hsw hnn b off cap ((List.range len).map fun i => (F i).2) (fun i => (F i).1) (by rw [hll]; exact hle) (by unfold maxLen at hmax; omega)
      (fun i hi => (hF i (by rw [hll] at hi; exact hi)).1) (fun i hi => by
        have hi' : i < len := by rw [hll] at hi; exact hi
        simpa using (hF i hi').2)
    rw [hll] at this
    exact this
end Go.Proofs.Ytjodmimnbpgfcaa

/- Frm -/
namespace Go.Proofs.Ytjodmimnbpgfcaa
open Go.RowKit Go.ChangeShapes Go.WideShapes Go.ChangeAt Go.Deep

theorem Try.own : ownKnob Try.prog.godebug = none := by kernel_rfl
theorem Try.laidOut : laidOutB Try.prog = true := by kernel_rfl

variable {H : Type} {enc : TypeId × Value → H}

set_option maxRecDepth 100000 in
/-- A readable slice of bytes. -/
theorem bytes_open {W : World} {r : Reach} {base : Nat} {sp : Nat → Bool} {held : Bool} {v : Value} {d : DataW H} {p : List MemPlace}
    (hv : Value.okWide Try.prog W r base 28 v) (h : DataW.Trod enc Try.prog W 0 sp held 28 v d p) : ∃ (sa : Option Addr) (s : List UInt8) (sc : Nat), v = .slice sa s.length sc ∧ SliceV (gAll W) sa s.length sc (s.map byteV) := by
  obtain ⟨a0, len, cap, rfl⟩ := okWide_slice Try.underlying28 hv
  obtain ⟨fuel, hf⟩ := h
  have k5 : Try.prog.cellsOf 5 = 1 := by kernel_rfl
  rcases open_ints Try.underlying28 Try.underlying5 k5 hf with ⟨hcs, -⟩ | ⟨a, len', cap', zs, hcs, -, hle, hmax, hzl, -, hcell, hwf⟩
  · simp [Value.cells] at hcs
    obtain ⟨rfl, rfl, rfl⟩ := hcs
    exact ⟨none, [], 0, rfl, .nil⟩
  · simp [Value.cells] at hcs
    obtain ⟨rfl, rfl, rfl⟩ := hcs
    have hspot : a.spot = none := by
      simp only [Value.okWide, Try.underlying28, Cell.okWide, Cell.ok, World.has] at hv
      exact hv.2.2.2.1
    obtain ⟨b, off, sp0⟩ := a
    simp only at hspot
    subst hspot
    have hzn : len ≤ zs.length := by rw [hzl]; split <;> omega
    have hB : ∀ z, z ∈ zs → ∃ x : UInt8, Value.int .u8 z = byteV x := fun z hz => lit_u8 (hwf z hz)
    have hex : ∃ s : List UInt8, s.length = len ∧ ∀ i, (h : i < s.length) → Value.int .u8 (zs.getD i 0) = byteV s[i] := by
      have : ∀ i, i < len → ∃ x : UInt8, Value.int .u8 (zs.getD i 0) = byteV x := by
        intro i hi
        refine hB _ ?_
        rw [List.getD_eq_getElem?_getD, List.getElem?_eq_getElem (by omega)]
        exact List.getElem_mem _
      obtain ⟨F, hF⟩ := choose_lt this
      exact ⟨(List.range len).map F, by simp, fun i hi => by simpa using hF i (by simpa using hi)⟩
    obtain ⟨s, rfl, hs⟩ := hex
    refine ⟨_, s, cap, rfl, ?_⟩
    have := SliceV.row (g := gAll W) b off cap (s.map byteV) (by simpa using hle) (by unfold maxLen at hmax; omega) (fun w hw i v hi => by
      refine gAll_cell ?_ w hw
      rw [List.getElem?_map] at hi
      have hlt : i < s.length := by
        rcases Nat.lt_or_ge i s.length with h | h
        · exact h
        · rw [List.getElem?_eq_none h] at hi; cases hi
      rw [List.getElem?_eq_getElem hlt] at hi
      simp at hi
      rw [← hi, ← hs i hlt]
      have := hcell i (by omega)
      simpa only [addr_none] using this)
    simpa using this

set_option maxRecDepth 100000 in
/-- A readable core. -/
theorem core_arg {W : World} {r : Reach} {base : Nat} {sp : Nat → Bool} {held : Bool} {v : Value} {d : DataW H} {p : List MemPlace}
    (hv : Value.okWide Try.prog W r base 27 v) (h : DataW.Trod enc Try.prog W 0 sp held 27 v d p) : ∃ (q : CRow) (c : Core), v = q.val ∧ CoreV (gAll W) q c := by
  simp only [Value.okWide, Try.underlying27] at hv
  obtain ⟨cs, rfl, -, -⟩ := hv
  obtain ⟨fuel, hf⟩ := h
  obtain ⟨q, c, hq, hc⟩ := core_open fuel _ _ hf
  refine ⟨q, c, ?_, hc⟩
  have : cs = q.cells := by
    have : cs.toList = q.cells.toList := by simpa [Value.cells] using hq
    simpa using this
  rw [this]
  rfl

/-- An argument reads behind the call as it read before. -/
theorem arg_stays {W W' : World} {t : TypeId} {v : Value} {d : DataW H} {ps : List MemPlace} {g g' : G} (hr : Try.prog.readableRec t = true) (hrow : t < Try.prog.types.size)
    (h : DataW.Trod enc Try.prog W 0 (fun _ => true) true t v d ps) (hG : Grow g W g' W') (hlt : ∀ x ∈ ps, x.block < W.heap.size) :
    DataW.Trod enc Try.prog W' 0 (fun b => decide (b < W.heap.size)) true t v d ps :=
  WideElems.Trod_stays Try.laidOut hr hrow h (fun x hx => by
    have hb := hlt x hx
    cases x with
    | cell b o => exact World.cell?_of_block (w := W) (hG.old b hb)
    | map b => exact hG.old b hb) (fun x hx => by simpa using hlt x hx)

theorem post_true {f : Func} {s : ChangeSpec} {W W' : World} {args : Array Value} {v : Value} {ds : List (DataW H)} {before : List MemPlace} {g g' : G}
    (hW : DataW.Whole enc Try.prog f.params.toList s.vars false W args.toList ds [] before) (hvs : s.vars = [])
    (hres : DataW.TrodAll enc Try.prog W' W.heap.size (fun _ => false) false f.resultTypes.toList (v.resultList f.resultTypes.size) (s.fn H (ds ++ [])).results [])
    (hargs : DataW.TrodAll enc Try.prog W' 0 (fun b => decide (b < W.heap.size)) true f.params.toList args.toList (s.fn H (ds ++ [])).args before)
    (hvr : (s.fn H (ds ++ [])).vars = []) (hG : Grow g W g' W') (hg : g.os = W.os ∧ g.out = W.output) :
    s.post enc Try.prog f false true false false W args v W' := by
  refine ⟨ds, [], before, [], before, [], hW, hres, hargs, ?_, ?_, fun h => by cases h⟩
  · rw [hvs, hvr]
    rfl
  · refine ⟨hG.fut.os.trans (hG.le.os.trans hg.1), hG.fut.out.trans (hG.le.out.trans hg.2), fun i hi => ?_⟩
    rw [hG.old i hi]
    split <;> simp_all
end Go.Proofs.Ytjodmimnbpgfcaa
