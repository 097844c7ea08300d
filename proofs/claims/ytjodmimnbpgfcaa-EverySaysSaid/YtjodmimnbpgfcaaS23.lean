/- The reference's cores in memory: 259 cells each. A library text: no claim is stated here. The reference's Size, deep, formed, Good, walked. A library text: no claim is stated here. The reference's sets compared; quiet steps over whole arrays. A library text: no claim is stated here. The reference's parts, formed, Good, walked. A library text: no claim is stated here. -/
import Derived.Test.YtjodmimnbpgfcaaS22
import Derived.Deep.MidRow
import Derived.Test.YtjodmimnbpgfcaaS03
import Derived.Test.YtjodmimnbpgfcaaS02
import Derived.Stop.BytesEq

/- RefB -/
namespace Go.Proofs.Ytjodmimnbpgfcaa
open Go.RowKit Go.IntWalk

def boolsS (s : Set4) : List Value := (List.range 256).map fun x => .bool (s.has x)
/-- The cells of a core of the reference. -/
def cellsR (r : CRow) : Array Value := (.int .i64 r.k :: (boolsS r.s ++ [.int .i64 r.n, .slice r.a r.len r.cap])).toArray
theorem boolsS_length (s : Set4) : (boolsS s).length = 256 := by simp [boolsS]
theorem boolsS_get (s : Set4) {x : Nat} (h : x < 256) : (boolsS s)[x]? = some (.bool (s.has x)) := by simp [boolsS, h]
theorem cellsR_size (r : CRow) : (cellsR r).size = 259 := by simp [cellsR, boolsS_length]
theorem cellsR_k (r : CRow) : (cellsR r)[0]? = some (.int .i64 r.k) := by simp [cellsR]
theorem cellsR_s (r : CRow) {x : Nat} (h : x < 256) : (cellsR r)[1 + x]? = some (.bool (r.s.has x)) := by
  rw [Nat.add_comm]
  simp only [cellsR, List.getElem?_toArray, List.getElem?_cons_succ]
  rw [List.getElem?_append_left (by rw [boolsS_length]; exact h), boolsS_get _ h]
theorem cellsR_n (r : CRow) : (cellsR r)[257]? = some (.int .i64 r.n) := by
  have : (256 : Nat) = (boolsS r.s).length := (boolsS_length _).symm
  simp only [cellsR, List.getElem?_toArray, List.getElem?_cons_succ]
  rw [List.getElem?_append_right (by rw [boolsS_length]; omega), boolsS_length]
  rfl
theorem cellsR_l (r : CRow) : (cellsR r)[258]? = some (.slice r.a r.len r.cap) := by
  simp only [cellsR, List.getElem?_toArray, List.getElem?_cons_succ]
  rw [List.getElem?_append_right (by rw [boolsS_length]; omega), boolsS_length]
  rfl
theorem cellsR_one (r : CRow) : (cellsR r).all (·.oneCell') = true := by
  rw [Array.all_eq_true_iff_forall_mem]
  intro v hv
  simp only [cellsR, List.mem_toArray, List.mem_cons, List.mem_append, List.not_mem_nil, or_false, boolsS, List.mem_map] at hv
  rcases hv with rfl | ⟨x, -, rfl⟩ | rfl | rfl <;> rfl
def CRow.rval (r : CRow) : Value := .agg (cellsR r)

/-- A core of the reference, as it lies in memory. -/
inductive RefV (g : G) : CRow → Core → Prop
  | nil (k : Int) (s : Set4) (n : Int) (hk : i64 k) (hs : s.wf) (hn : i64 n) : RefV g ⟨k, s, n, none, 0, 0⟩ (.mk k s n [])
  | row (k : Int) (s : Set4) (n : Int) (hk : i64 k) (hs : s.wf) (hn : i64 n) (b off cap : Nat) (l : List Core) (f : Nat → CRow)
      (hcap : l.length ≤ cap) (hm : cap ≤ 9223372036854775807)
      (hc : ∀ i, i < l.length → ∀ w, Fut g w → w.rangeAt b (off + i * 259) (cellsR (f i)).toList)
      (hr : ∀ i (h : i < l.length), RefV g (f i) l[i]) :
      RefV g ⟨k, s, n, some ⟨b, off, none⟩, l.length, cap⟩ (.mk k s n l)

theorem RefV.le {g g' : G} {v : CRow} {c : Core} (h : RefV g v c) (k : g.Le g') : RefV g' v c := by
  induction h with
  | nil k s n hk hs hn => exact .nil k s n hk hs hn
  | row k s n hk hs hn b off cap l f hcap hm hc _ ih => exact .row k s n hk hs hn b off cap l f hcap hm (fun i hi w hw => hc i hi w (hw.le ‹_›)) ih

theorem size54 : (Try.prog.info? 54).map (·.size) = some 259 := by kernel_rfl
theorem desc54 : ∃ d, Try.prog.underlying 54 = some d ∧ d.isRow = true := ⟨_, Try.underlying54, rfl⟩

/-- A core of the reference is loaded whole. -/
theorem load54 {w : World} {b o : Nat} {r : CRow} (h : w.rangeAt b o (cellsR r).toList) : (Instr.loadAt 54 (.pointer (some ⟨b, o, none⟩))).run Try.prog w = .ok (.agg (cellsR r)) w := by
  obtain ⟨d, h1, h2⟩ := desc54
  have := run_loadAt_mid (P := Try.prog) w b o 54 (cellsR r).toList d h h1 h2 (by rw [size54]; simp [cellsR_size])
  simpa using this

/-- .. as a step of the walk. -/
theorem wpList_load54 {ops : Array Oper} {rest : List Oper} {op : Oper} {a : Act} {w : World} {Q : Exit → Act → World → Prop} (hgd : op.guard = none) (x : Operand) (ho : op.op = .load 54 x)
    {b o : Nat} (hx : a.eval x = .pointer (some ⟨b, o, none⟩)) {r : CRow} (hc : w.rangeAt b o (cellsR r).toList)
    (h : wpList Try.prog ops Q rest (a.put op.dst (.agg (cellsR r))) w) : wpList Try.prog ops Q (op :: rest) a w := by
  obtain ⟨d, h1, h2⟩ := desc54
  refine wpList_load_mid hgd 54 x ho b o hx (cellsR r).toList d hc h1 h2 (by rw [size54]; simp [cellsR_size]) ?_
  rw [Array.toArray_toList]
  exact h

/-- A core of the reference in a box of its own. -/
theorem box_ref {g : G} {w : World} (hw : Fut g w) (r : CRow) : ∃ g1, Grow g w g1 (w.alloc (.cells (cellsR r) 54)) ∧
    (∀ w', Fut g1 w' → w'.cell? ⟨w.heap.size, 0, none⟩ = some (.int .i64 r.k)) ∧ (∀ x, x < 256 → ∀ w', Fut g1 w' → w'.cell? ⟨w.heap.size, 1 + x, none⟩ = some (.bool (r.s.has x))) ∧
    (∀ w', Fut g1 w' → w'.cell? ⟨w.heap.size, 257, none⟩ = some (.int .i64 r.n)) ∧ (∀ w', Fut g1 w' → w'.cell? ⟨w.heap.size, 258, none⟩ = some (.slice r.a r.len r.cap)) ∧
    (∀ w', Fut g1 w' → w'.rangeAt w.heap.size 0 (cellsR r).toList) := by
  obtain ⟨g1, h, e1⟩ := box1 hw (.cells (cellsR r) 54)
  refine ⟨g1, h, fut_cell e1 0 _ (cellsR_k r), fun x hx => fut_cell e1 (1 + x) _ (cellsR_s r hx), fut_cell e1 257 _ (cellsR_n r), fut_cell e1 258 _ (cellsR_l r), fun w' hw' => ?_⟩
  intro j v hv
  rw [Nat.zero_add]
  exact fut_cell e1 j v (by simpa using hv) w' hw'

/-- By induction on the core, the nil slice and the row as one. -/
theorem RefV.step {g : G} {motive : CRow → Core → Prop}
    (step : ∀ (k : Int) (s : Set4) (n : Int) (a : Option Addr) (cap : Nat) (l : List Core), i64 k → s.wf → i64 n → l.length ≤ cap → cap ≤ 9223372036854775807 →
      (∀ q (hq : q < l.length), ∃ b off r, a = some ⟨b, off, none⟩ ∧ (∀ w, Fut g w → w.rangeAt b (off + q * 259) (cellsR r).toList) ∧ RefV g r l[q] ∧ motive r l[q]) →
      motive ⟨k, s, n, a, l.length, cap⟩ (.mk k s n l)) {r : CRow} {c : Core} (h : RefV g r c) : motive r c := by
  induction h with
  | nil k s n hk hs hn => exact step k s n none 0 [] hk hs hn (Nat.le_refl _) (by omega) (fun q hq => absurd hq (Nat.not_lt_zero _))
  | row k s n hk hs hn b off cap l f hcap hm hc hr ih => exact step k s n _ cap l hk hs hn hcap hm (fun q hq => ⟨b, off, f q, rfl, fun w hw => hc q hq w hw, hr q hq, ih q hq⟩)
end Go.Proofs.Ytjodmimnbpgfcaa

/- RefG -/
namespace Go.Proofs.Ytjodmimnbpgfcaa
open Go.RowKit Go.IntWalk

theorem nodesL_take {l : List Core} {q : Nat} (hq : q < l.length) : nodesL (l.take (q + 1)) = nodesL (l.take q) + nodes l[q] := by
  rw [List.take_succ_eq_append_getElem hq]
  have : ∀ (a b : List Core), nodesL (a ++ b) = nodesL a + nodesL b := fun a => by
    induction a with
    | nil => intro b; simp [nodesL]
    | cons x a ih => intro b; simp only [List.cons_append, nodesL, ih]; omega
  rw [this]
  simp [nodesL]
theorem nodesL_le {l : List Core} (q : Nat) : nodesL (l.take q) ≤ nodesL l := by
  have : ∀ (a b : List Core), nodesL (a ++ b) = nodesL a + nodesL b := fun a => by
    induction a with
    | nil => intro b; simp [nodesL]
    | cons x a ih => intro b; simp only [List.cons_append, nodesL, ih]; omega
  have h := this (l.take q) (l.drop q)
  rw [List.take_append_drop] at h
  omega

def SizeP (g : G) (w : World) (most : Int) (c : Core) (e : Ending) (w' : World) : Prop := ∃ k : Int, e = .returned (.int .i64 k) ∧ 0 ≤ k ∧ k ≤ most ∧ k ≤ nodes c ∧ Grow g w g w'

set_option maxHeartbeats 1000000 in
set_option maxRecDepth 20000 in
theorem rsize_any {g : G} {r : CRow} {c : Core} (h : RefV g r c) : ∀ g', g.Le g' → ∀ most : Int, 0 ≤ most → most ≤ 9000 → ∀ w, Fut g' w → Calls Try.prog 63 #[.agg (cellsR r), .int .i64 most] w (SizeP g' w most c) := by
  refine h.step (motive := fun r c => ∀ g', g.Le g' → ∀ most : Int, 0 ≤ most → most ≤ 9000 → ∀ w, Fut g' w → Calls Try.prog 63 #[.agg (cellsR r), .int .i64 most] w (SizeP g' w most c)) ?_
  intro k s n a cap l hk hs hn hcap hm HR g' hle most h0 h9 w hw
  obtain ⟨g1, hg1, c0, cs, cn, cl, cv⟩ := box_ref hw ⟨k, s, n, a, l.length, cap⟩
  have HRH := hid HR
  have hle1 := hid (hle.trans hg1.le)
  clear HR c0 cs cn cv
  go_enter Try.func63, Try.ntmps63
  go_wp2_with fail
  go_loopw [5, 6] (fun kv i wr => ∃ (q : Nat) (t : Int), q ≤ l.length ∧ i = .int .i64 q ∧ kv = .int .i64 t ∧ Grow g' w g1 wr ∧ 1 ≤ t ∧ t ≤ 9001 ∧ (t ≤ most ∨ t = 1) ∧ t ≤ 1 + nodesL (l.take q)) (fun _ i _ => l.length - (intOf i).toNat)
  case atStart => exact ⟨0, 1, Nat.zero_le _, rfl, rfl, hg1, by omega, by omega, .inr rfl, by simp [nodesL]⟩
  case round =>
    obtain ⟨q, t, hq, rfl, rfl, hg, h1, h2, h3, h4⟩ := hrel
    have HG := hid hg
    have hfr := hg.fut
    clear hg
    by_cases hlt : q < l.length
    · by_cases htm : t ≤ most
      · obtain ⟨b, off, r, rfl, hld, -, ih⟩ := HRH.out q hlt
        have hld' := fun w' (hf : Fut g1 w') => hld w' (hf.le hle1.out)
        have IH := fun w' (hf : Fut g1 w') => ih g1 hle1.out (most - t) (by omega) (by omega) w' hf
        have IHH := hid IH
        clear hld ih IH
        have hldr := hid (hld' wr hfr)
        clear hld'
        go_wp2_with (first | (refine wpList_load54 rfl _ rfl rfl hldr.out ?_) | (go_at_call 63; refine (IHH.out _ hfr).mono ?_) | fail)
        rintro e w2 ⟨k2, rfl, p1, p2, p3, hg2⟩
        have HG2 := hid (HG.out.trans hg2)
        have htk := nodesL_take hlt
        have hw1 : wrap64 (t + k2) = t + k2 := wrap64_in _ (by omega)
        clear hg2 HG IHH
        go_wp2_with fail
        go_roundw
        case rel => exact ⟨q + 1, t + k2, by omega, by go_num, by go_num, HG2.out, by omega, by omega, by omega, by omega⟩
        case measure => simp [intOf]; omega
      · have hnl := nodesL_le (l := l) q
        have hd : decide (t > most) = true := by simp; omega
        go_wp2_with fail
        all_goals
          go_ret
          exact ⟨most, rfl, by omega, by omega, by simp only [nodes]; omega, HG.out.forget⟩
    · obtain rfl : q = l.length := by omega
      rw [List.take_length] at h4
      by_cases htm : t > most
      · go_wp2_with fail
        all_goals
          go_ret
          exact ⟨most, rfl, by omega, by omega, by simp only [nodes]; omega, HG.out.forget⟩
      · go_wp2_with fail
        all_goals
          go_ret
          exact ⟨t, rfl, by omega, by omega, by simp only [nodes]; omega, HG.out.forget⟩

set_option maxRecDepth 20000 in
theorem rdeep_any {g : G} {r : CRow} {c : Core} (h : RefV g r c) : ∀ g', g.Le g' → ∀ most : Int, -1 ≤ most → most ≤ 9000 → ∀ w, Fut g' w → Calls Try.prog 64 #[.agg (cellsR r), .int .i64 most] w fun e w' => ∃ k : Int, e = .returned (.int .i64 k) ∧ 1 ≤ k ∧ k ≤ nodes c ∧ k ≤ 9002 ∧ k ≤ most + 2 ∧ Grow g' w g' w' := by
  refine h.step (motive := fun r c => ∀ g', g.Le g' → ∀ most : Int, -1 ≤ most → most ≤ 9000 → ∀ w, Fut g' w → Calls Try.prog 64 #[.agg (cellsR r), .int .i64 most] w fun e w' => ∃ k : Int, e = .returned (.int .i64 k) ∧ 1 ≤ k ∧ k ≤ nodes c ∧ k ≤ 9002 ∧ k ≤ most + 2 ∧ Grow g' w g' w') ?_
  intro k s n a cap l hk hs hn hcap hm HR g' hle most h0 h9 w hw
  obtain ⟨g1, hg1, c0, cs, cn, cl, cv⟩ := box_ref hw ⟨k, s, n, a, l.length, cap⟩
  have HRH := hid HR
  have hle1 := hid (hle.trans hg1.le)
  clear HR c0 cs cn cv
  by_cases hm0 : most ≤ 0
  · have hd : decide (most ≤ 0) = true := by simp; omega
    go_enter Try.func64, Try.ntmps64
    go_wp2_with fail
    go_ret
    exact ⟨1, rfl, by omega, by simp only [nodes]; omega, by omega, by omega, hg1.forget⟩
  · have hd : decide (most ≤ 0) = false := by simp; omega
    go_enter Try.func64, Try.ntmps64
    go_wp2_with fail
    go_loopg [5, 6, 7] l.length (fun rem dv i tv wr => ∃ (q : Nat) (t : Int), q + rem = l.length ∧ i = .int .i64 q ∧ dv = .int .i64 t ∧ Grow g' w g1 wr ∧ 0 ≤ t ∧ t ≤ nodesL (l.take q) ∧ t ≤ most + 1)
    case atStart => exact ⟨0, 0, by omega, rfl, rfl, hg1, by omega, by simp [nodesL], by omega⟩
    case round =>
      obtain ⟨q, t, hq, rfl, rfl, hg, h1, h2, h3⟩ := hrel
      have HG := hid hg
      have hfr := hg.fut
      clear hg
      by_cases hlt : q < l.length
      · obtain ⟨b, off, r, rfl, hld, -, ih⟩ := HRH.out q hlt
        have hldr := hid (hld wr (hfr.le hle1.out))
        have IHH := hid (ih g1 hle1.out (most - 1) (by omega) (by omega) wr hfr)
        clear hld ih
        go_wp2_with (first | (refine wpList_load54 rfl _ rfl rfl hldr.out ?_) | (go_at_call 64; refine IHH.out.mono ?_) | fail)
        rintro e w2 ⟨k2, rfl, p1, p2, p3, p4, hg2⟩
        have HG2 := hid (HG.out.trans hg2)
        have htk := nodesL_take hlt
        have HT := hid htk
        clear hg2 HG IHH htk
        by_cases hkt : k2 > t
        · go_wp2_with fail
          all_goals
            go_roundg (l.length - (q + 1))
            case measure => omega
            case rel => exact ⟨q + 1, k2, by omega, by go_num, by go_num, HG2.out, by omega, by have := HT.out; omega, by omega⟩
        · go_wp2_with fail
          all_goals
            go_roundg (l.length - (q + 1))
            case measure => omega
            case rel => exact ⟨q + 1, t, by omega, by go_num, by go_num, HG2.out, by omega, by have := HT.out; omega, by omega⟩
      · obtain rfl : q = l.length := by omega
        rw [List.take_length] at h2
        go_wp2_with fail
        go_ret
        exact ⟨t + 1, rfl, by omega, by simp only [nodes]; omega, by omega, by omega, HG.out.forget⟩
end Go.Proofs.Ytjodmimnbpgfcaa

/- RefE -/
namespace Go.Proofs.Ytjodmimnbpgfcaa
open Go.RowKit Go.IntWalk

theorem run_equalIn_bools (d : Nat) (s t : Set4) (w : World) :
    (Op.equalIn (d + 2) 51 (.agg (boolsS s).toArray) (.agg (boolsS t).toArray)).run Try.prog w = .ok ((List.range 256).all fun i => s.has i == t.has i) w := by
  rw [List.range_eq_range', Op.equalIn]
  simp only [Sem.run_bind, Try.runUnderlying51, Result.andThen_ok, Try.sizeOf4, Std.Legacy.Range.forIn_eq_forIn_range', Std.Legacy.Range.size, Nat.sub_zero, Nat.add_sub_cancel, Nat.div_one]
  have hl : ∀ i ∈ List.range' 0 256 1, i < 256 := fun i hi => by simpa using (List.mem_range'_1.1 hi).2
  generalize List.range' 0 256 1 = l at hl ⊢
  induction l with
  | nil => simp
  | cons i l ih =>
    have hi : i < 256 := hl i (by simp)
    have px : ∀ s : Set4, (part 4 (boolsS s).toArray (i * 1)).run Try.prog w = .ok (.bool (s.has i)) w := fun s => by
      have := boolsS_get s hi
      simp [part, this]
    have pe : (Op.equalIn (d + 1) 4 (.bool (s.has i)) (.bool (t.has i))).run Try.prog w = .ok (s.has i == t.has i) w := by
      simp [Op.equalIn]
    simp only [List.forIn_cons, Sem.run_bind, px, pe, Result.andThen_ok, List.all_cons]
    cases hb : (s.has i == t.has i)
    · simp
    · simp only [Bool.not_true, Bool.false_eq_true, if_false, Sem.run_pure, Result.andThen_ok, Bool.true_and]
      exact ih fun j hj => hl j (by simp [hj])

theorem has_zero {s : Set4} (hs : s.wf) : ((List.range 256).all fun i => s.has i == set0.has i) = decide (s = set0) := by
  rw [Bool.eq_iff_iff, List.all_eq_true, decide_eq_true_eq]
  constructor
  · intro h
    have key : ∀ j, j < 4 → s.word j < 18446744073709551616 → s.word j = 0 := by
      intro j hj hw
      apply Nat.eq_of_testBit_eq
      intro i
      rw [Nat.zero_testBit]
      rcases Nat.lt_or_ge i 64 with hi | hi
      · have h1 := h (j * 64 + i) (by simp; omega)
        have e1 : (j * 64 + i) / 64 = j := by omega
        have e2 : (j * 64 + i) % 64 = i := by omega
        have e3 : set0.has (j * 64 + i) = false := by
          unfold Set4.has
          rw [e1, e2]
          unfold Set4.word set0
          split <;> simp
        rw [e3] at h1
        unfold Set4.has at h1
        rw [e1, e2] at h1
        simpa using h1
      · exact Nat.testBit_lt_two_pow (Nat.lt_of_lt_of_le hw (by
          have : 2 ^ 64 ≤ 2 ^ i := Nat.pow_le_pow_right (by omega) hi
          omega))
    obtain ⟨h0, h1, h2, h3⟩ := hs
    have a0 := key 0 (by omega) h0
    have a1 := key 1 (by omega) h1
    have a2 := key 2 (by omega) h2
    have a3 := key 3 (by omega) h3
    obtain ⟨a, b, c, d⟩ := s
    simp only [Set4.word] at a0 a1 a2 a3
    subst a0 a1 a2 a3
    rfl
  · rintro rfl i -
    simp

theorem neq_set0 {s : Set4} (hs : s.wf) (w : World) : (binOp .neq 51 (.agg (boolsS s).toArray) (.agg (boolsS set0).toArray)).run Try.prog w = .ok (.bool (!decide (s = set0))) w := by
  have h := run_equalIn_bools 9998 s set0 w
  rw [has_zero hs] at h
  rw [run_neq_struct, h]
  rfl
theorem built51 : Try.prog.built 51 [] = some (boolsS set0).toArray := by kernel_rfl

theorem wpQuiet_val {P : Program} {ops : Array Oper} {C : World → Prop} {Q : Act → Prop} {a : Act} {o : Oper} {rest : List Oper} {v : Value} (hrun : ∀ w, C w → (execOp a.eval o).run P w = .ok (.value v) w) (hw : Region.wanted o (yielded ops a.tmps) = true)
    (h : wpQuiet P ops C Q rest (a.put o.dst v)) : wpQuiet P ops C Q (o :: rest) a :=
  wpQuiet_step fun K hK => by
    rw [if_pos hw]
    exact ⟨v, fun w hc => by unfold Oper.quietAt; rw [hrun w hc]; exact ⟨rfl, rfl⟩, hK _ h⟩

theorem rangeAt_set {w : World} {b : Nat} {r : CRow} (h : w.rangeAt b 0 (cellsR r).toList) : w.rangeAt b 1 (boolsS r.s) := by
  intro j v hv
  have hj : j < 256 := by have := (List.getElem?_eq_some_iff.1 hv).1; rwa [boolsS_length] at this
  rw [boolsS_get _ hj] at hv
  cases hv
  have h2 := h (1 + j) (.bool (r.s.has j)) (by simpa using cellsR_s r hj)
  rwa [Nat.zero_add] at h2
theorem load51 {w : World} {b : Nat} {r : CRow} (h : w.rangeAt b 0 (cellsR r).toList) : (Instr.loadAt 51 (.pointer (some ⟨b, 1, none⟩))).run Try.prog w = .ok (.agg (boolsS r.s).toArray) w :=
  run_loadAt_mid (P := Try.prog) w b 1 51 (boolsS r.s) _ (rangeAt_set h) Try.underlying51 rfl (by rw [boolsS_length]; kernel_rfl)
theorem exec_load51 {a : Act} {o : Oper} {x : Operand} {w : World} {b : Nat} {r : CRow} (ho : o.op = .load 51 x) (hx : a.eval x = .pointer (some ⟨b, 1, none⟩)) (h : w.rangeAt b 0 (cellsR r).toList) :
    (execOp a.eval o).run Try.prog w = .ok (.value (.agg (boolsS r.s).toArray)) w := by
  unfold execOp
  simp only [ho, hx]
  rw [Sem.run_bind, load51 h]
  rfl
theorem exec_build51 {a : Act} {o : Oper} {w : World} (ho : o.op = .build 51 #[]) : (execOp a.eval o).run Try.prog w = .ok (.value (.agg (boolsS set0).toArray)) w := by
  unfold execOp
  simp only [ho]
  rw [Sem.run_bind, run_build w 51 _ (boolsS set0).toArray (by simpa using built51)]
  rfl
theorem exec_neq51 {a : Act} {o : Oper} {x y : Operand} {w : World} {s : Set4} (hs : s.wf) (ho : o.op = .binOp .neq 51 x y 51) (hx : a.eval x = .agg (boolsS s).toArray) (hy : a.eval y = .agg (boolsS set0).toArray) :
    (execOp a.eval o).run Try.prog w = .ok (.value (.bool (!decide (s = set0)))) w := by
  unfold execOp
  simp only [ho, hx, hy]
  have h1 : (eqGuard .neq 51 x y (.agg (boolsS s).toArray) (.agg (boolsS set0).toArray)).run Try.prog w = .ok () w := by simp [go_sem, eqGuard]
  simp only [Sem.run_bind, h1, Result.andThen_ok, neq_set0 hs]
  rfl
theorem exec_neq51f {a : Act} {o : Oper} {x y : Operand} {w : World} {s : Set4} (hs : s.wf) (h0 : decide (s = set0) = true) (ho : o.op = .binOp .neq 51 x y 51) (hx : a.eval x = .agg (boolsS s).toArray) (hy : a.eval y = .agg (boolsS set0).toArray) :
    (execOp a.eval o).run Try.prog w = .ok (.value (.bool false)) w := by
  have h := exec_neq51 (w := w) hs ho hx hy
  rwa [h0] at h
end Go.Proofs.Ytjodmimnbpgfcaa

/- RefF -/
namespace Go.Proofs.Ytjodmimnbpgfcaa
open Go.RowKit Go.IntWalk

def kidsR (k : Int) : Int := if k = 3 ∨ k = 4 then 2 else if k = 5 ∨ k = 6 ∨ k = 7 then 1 else 0

theorem parts_any {g : G} (k : Int) (w : World) (hw : Fut g w) : Calls Try.prog 83 #[.int .i64 k] w fun e w' => e = .returned (.int .i64 (kidsR k)) ∧ Grow g w g w' := by
  have hk : k = 3 ∨ k = 4 ∨ k = 5 ∨ k = 6 ∨ k = 7 ∨ (k ≠ 3 ∧ k ≠ 4 ∧ k ≠ 5 ∧ k ≠ 6 ∧ k ≠ 7) := by omega
  rcases hk with rfl | rfl | rfl | rfl | rfl | ⟨h3, h4, h5, h6, h7⟩
  · go_enter Try.func83, Try.ntmps83
    go_wp2
    go_ret
    exact ⟨rfl, Grow.refl hw⟩
  · go_enter Try.func83, Try.ntmps83
    go_wp2
    go_ret
    exact ⟨rfl, Grow.refl hw⟩
  · go_enter Try.func83, Try.ntmps83
    go_wp2
    go_ret
    exact ⟨rfl, Grow.refl hw⟩
  · go_enter Try.func83, Try.ntmps83
    go_wp2
    go_ret
    exact ⟨rfl, Grow.refl hw⟩
  · go_enter Try.func83, Try.ntmps83
    go_wp2
    go_ret
    exact ⟨rfl, Grow.refl hw⟩
  · have e3 : (k == 3) = false := by simpa using h3
    have e4 : (k == 4) = false := by simpa using h4
    have e5 : (k == 5) = false := by simpa using h5
    have e6 : (k == 6) = false := by simpa using h6
    have e7 : (k == 7) = false := by simpa using h7
    go_enter Try.func83, Try.ntmps83
    go_wp2
    go_ret
    exact ⟨by unfold kidsR; simp [h3, h4, h5, h6, h7], Grow.refl hw⟩

mutual
def formedF : Core → Bool
  | .mk k s n l => decide (0 ≤ k) && decide (k ≤ 7) && decide ((l.length : Int) = kidsR k) && (decide (k = 2) || decide (s = set0)) && (decide (k = 6) || decide (n = 0)) &&
      (!decide (k = 6) || decide (1 ≤ n) && decide (n ≤ 32)) && formedL l
def formedL : List Core → Bool
  | [] => true
  | x :: r => formedF x && formedL r
end
def rheadF (k : Int) (s : Set4) (n : Int) (m : Nat) : Bool := decide (0 ≤ k) && decide (k ≤ 7) && decide ((m : Int) = kidsR k) && (decide (k = 2) || decide (s = set0)) && (decide (k = 6) || decide (n = 0)) &&
      (!decide (k = 6) || decide (1 ≤ n) && decide (n ≤ 32))

set_option maxRecDepth 20000 in
theorem formed_A {g : G} (k : Int) (s : Set4) (n : Int) (a : Option Addr) (m cap : Nat) (w : World) (hw : Fut g w) (h : k < 0) :
    Calls Try.prog 65 #[.agg (cellsR ⟨k, s, n, a, m, cap⟩)] w fun e w' => e = .returned (.bool false) ∧ Grow g w g w' := by
  obtain ⟨g1, hg1, c0, cs, cn, cl, cv⟩ := box_ref hw ⟨k, s, n, a, m, cap⟩
  have hf1 := hg1.fut
  have hk0 : decide (k < 0) = true := by simpa using h
  clear cs
  have CV := hid cv
  clear cv
  go_enter Try.func65, Try.ntmps65
  go_wp2_with fail
  refine wp_region_cls (g := g1) (w0 := w.alloc (.cells (cellsR ⟨k, s, n, a, m, cap⟩) 54)) (by kernel_rfl) (by kernel_rfl) (Grow.refl hf1) ?_
  have hx : ∀ x : Wg g1 (w.alloc (.cells (cellsR ⟨k, s, n, a, m, cap⟩) 54)), Fut g1 x.w := fun x => x.h.fut
  have hne : Nonempty (Wg g1 (w.alloc (.cells (cellsR ⟨k, s, n, a, m, cap⟩) 54))) := ⟨⟨_, Grow.refl hf1⟩⟩
  repeat (go_big_quiet_step (fail))
  refine wpQuiet_nil ?_
  rintro wa ⟨⟨_, hga⟩, rfl⟩
  have HGA := hid hga
  clear hga hx hne
  go_wp2_with fail
  go_ret
  exact ⟨rfl, (hg1.trans HGA.out).forget⟩

set_option maxRecDepth 20000 in
theorem formed_D {g : G} (k : Int) (s : Set4) (n : Int) (a : Option Addr) (m cap : Nat) (w : World) (hw : Fut g w) (hs : s.wf) (h0 : 0 ≤ k) (h7 : k ≤ 7) (hm : (m : Int) = kidsR k) (hk2 : k ≠ 2) (hs0 : s ≠ set0) :
    Calls Try.prog 65 #[.agg (cellsR ⟨k, s, n, a, m, cap⟩)] w fun e w' => e = .returned (.bool false) ∧ Grow g w g w' := by
  obtain ⟨g1, hg1, c0, cs, cn, cl, cv⟩ := box_ref hw ⟨k, s, n, a, m, cap⟩
  have hf1 := hg1.fut
  have d0 : decide (k < 0) = false := by simp; omega
  have d1 : decide (k > 7) = false := by simp; omega
  have d2 : ((m : Int) != kidsR k) = false := by simpa using hm
  have d3 : (k != 2) = true := by simpa using hk2
  have d4 : decide (s = set0) = false := by simpa using hs0
  clear cs h0 h7 hm hk2 hs0
  have CV := hid cv
  clear cv
  go_enter Try.func65, Try.ntmps65
  go_wp2_with fail
  refine wp_region_cls (g := g1) (w0 := w.alloc (.cells (cellsR ⟨k, s, n, a, m, cap⟩) 54)) (by kernel_rfl) (by kernel_rfl) (Grow.refl hf1) ?_
  have hx : ∀ x : Wg g1 (w.alloc (.cells (cellsR ⟨k, s, n, a, m, cap⟩) 54)), Fut g1 x.w := fun x => x.h.fut
  have hne : Nonempty (Wg g1 (w.alloc (.cells (cellsR ⟨k, s, n, a, m, cap⟩) 54))) := ⟨⟨_, Grow.refl hf1⟩⟩
  iterate 23 (go_big_quiet_step (exact quiet_grow (parts_any k _ (hx _))))
  refine wpQuiet_val (v := .agg (boolsS s).toArray) (fun w' hw' => ?_) (by rfl) ?_
  · obtain ⟨x, rfl⟩ := hw'
    exact exec_load51 rfl rfl (CV.out _ (hx x))
  simp only [Act.put, List.setIfInBounds_toArray, List.set_cons_succ, List.set_cons_zero]
  refine wpQuiet_val (v := .agg (boolsS set0).toArray) (fun w' hw' => ?_) (by rfl) ?_
  · exact exec_build51 rfl
  simp only [Act.put, List.setIfInBounds_toArray, List.set_cons_succ, List.set_cons_zero]
  refine wpQuiet_val (v := .bool (!decide (s = set0))) (fun w' hw' => ?_) (by rfl) ?_
  · exact exec_neq51 hs rfl rfl rfl
  simp only [Act.put, List.setIfInBounds_toArray, List.set_cons_succ, List.set_cons_zero]
  repeat (go_big_quiet_step (fail))
  refine wpQuiet_nil ?_
  rintro wa ⟨⟨_, hga⟩, rfl⟩
  have HGA := hid hga
  clear hga hx hne
  go_wp2_with fail
  go_ret
  exact ⟨rfl, (hg1.trans HGA.out).forget⟩
end Go.Proofs.Ytjodmimnbpgfcaa
