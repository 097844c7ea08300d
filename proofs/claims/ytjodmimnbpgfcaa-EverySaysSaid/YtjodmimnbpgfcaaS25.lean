/- The reference's sets, from the program's: From and own. A library text: no claim is stated here. Rows of the reference's cores that a call builds for itself. A library text: no claim is stated here. The reference's cores, built and laid: laws for the walk. A library text: no claim is stated here. -/
import Derived.Test.YtjodmimnbpgfcaaS24
import Derived.Test.YtjodmimnbpgfcaaS04
import Derived.Deep.WholeRow
import Derived.Great.BuildSlice

/- RefO -/
namespace Go.Proofs.Ytjodmimnbpgfcaa
open Go.RowKit Go.IntWalk

/-- The first q of a set's 256. -/
def fromA (s : Set4) (q : Nat) : Array Value := ((List.range 256).map fun x => .bool (decide (x < q) && s.has x)).toArray
theorem fromA_size (s : Set4) (q : Nat) : (fromA s q).size = 256 := by simp [fromA]
theorem fromA_zero (s : Set4) : fromA s 0 = (boolsS set0).toArray := by
  unfold fromA boolsS
  refine congrArg List.toArray (List.map_congr_left fun x hx => ?_)
  have : set0.has x = false := by
    unfold Set4.has Set4.word set0
    split <;> simp
  simp [this]
theorem fromA_full (s : Set4) : fromA s 256 = (boolsS s).toArray := by
  unfold fromA boolsS
  refine congrArg List.toArray (List.map_congr_left fun x hx => ?_)
  have : x < 256 := by simpa using hx
  simp [this]
theorem fromA_step (s : Set4) {q : Nat} (hq : q < 256) : (fromA s q).setIfInBounds q (.bool (s.has q)) = fromA s (q + 1) := by
  apply Array.ext_getElem?
  intro i
  rw [Array.getElem?_setIfInBounds]
  unfold fromA
  by_cases hi : i < 256
  · by_cases e : q = i
    · subst e
      simp [hi]
    · simp [e, hi]
      have : decide (i < q) = decide (i < q + 1) := by rw [Bool.eq_iff_iff]; simp; omega
      rw [this]
  · by_cases e : q = i
    · omega
    · simp [e, hi]

theorem zero51 (w : World) : (zeroValue 51).run Try.prog w = .ok (.agg (boolsS set0).toArray) w :=
  (zero_of_info (P := Try.prog) (t := 51) (v := .agg (boolsS set0).toArray) (n := 256) (by kernel_rfl)).1 w

theorem Grow.setRow {g g' : G} {w w' : World} (h : Grow g w g' w') {b : Nat} (ha : g'.blk b = none) (hn : w.heap.size ≤ b) (cs : Array Value) : Grow g w g' (w'.setRow b cs) :=
  ⟨h.le, ⟨h.fut.os, h.fut.out, fun x o hx => by rw [setRow_other _ _ _ _ (fun e => by rw [e, ha] at hx; cases hx)]; exact h.fut.blk x o hx⟩, by simpa using h.size,
    fun x hx => by rw [setRow_other _ _ _ _ (by omega)]; exact h.old x hx, h.new⟩

theorem size51 : (Try.prog.info? 51).map (·.size) = some 256 := by kernel_rfl
theorem bools_one (s : Set4) : (boolsS s).toArray.all (·.oneCell') = true := by
  rw [Array.all_eq_true_iff_forall_mem]
  intro v hv
  simp only [boolsS, List.mem_toArray, List.mem_map] at hv
  obtain ⟨x, -, rfl⟩ := hv
  rfl

/-- A set of the reference that lies in its result variable. -/
theorem results_set51 {fn : Func} {p : Tmp} {tmps : Array Value} {w : World} {B : Nat} {s : Set4} (hr : fn.results = #[.cell p 51]) (hp : tmps.getD p undef = .pointer (some ⟨B, 0, none⟩)) (h : w.heap[B]? = some (.cells (boolsS s).toArray 51)) :
    (results fn tmps).run Try.prog w = .ok (.agg (boolsS s).toArray) w := by
  have h1 := run_loadVar_row (P := Try.prog) w B 51 51 (boolsS s).toArray (0, 0) _ h Try.underlying51 rfl (by rw [size51]; simp [boolsS_length])
  have hp' : tmps[p]?.getD undef = .pointer (some ⟨B, 0, none⟩) := by simpa using hp
  simp [results, hr, hp', asAddr, h1]

set_option maxRecDepth 20000 in
theorem from_any {g : G} (s : Set4) (hs : s.wf) (w : World) (hw : Fut g w) :
    Calls Try.prog 62 #[.agg #[.int .u64 s.a, .int .u64 s.b, .int .u64 s.c, .int .u64 s.d]] w fun e w' => e = .returned (.agg (boolsS s).toArray) ∧ Grow g w g w' := by
  have hz := fun w => zero51 w
  obtain ⟨g1, hg1, hb1⟩ := box1 hw (.cells #[.int .u64 s.a, .int .u64 s.b, .int .u64 s.c, .int .u64 s.d] 23)
  have cA := fut_cell hb1 0 _ rfl
  have cB := fut_cell hb1 1 _ rfl
  have cC := fut_cell hb1 2 _ rfl
  have cD := fut_cell hb1 3 _ rfl
  have hG3 := (hg1.alloc (.cells (boolsS set0).toArray 51)).alloc (.cells (boolsS set0).toArray 51)
  have n2 := hg1.fut.none_of_size (b := w.heap.size + 1) (by simp)
  have n3 := hg1.fut.none_of_size (b := w.heap.size + 1 + 1) (by simp)
  have HG3 := hid hG3
  obtain ⟨hs0, hs1, hs2, hs3⟩ := hs
  clear hG3 hg1
  go_enter Try.func62, Try.ntmps62
  go_wp2_with fail
  go_loopg [4] 256 (fun rem i wr => ∃ q : Nat, q + rem = 256 ∧ i = .int .i64 q ∧ Grow g w g1 wr ∧ wr.heap[w.heap.size + 1]? = some (.cells (boolsS set0).toArray 51) ∧ wr.heap[w.heap.size + 1 + 1]? = some (.cells (fromA s q) 51))
  case atStart =>
    refine ⟨0, by omega, rfl, HG3.out, ?_, ?_⟩
    · rw [Below.heap_alloc _ _ _ (by simp)]
      have := heap_alloc_new (w.alloc (.cells #[.int .u64 s.a, .int .u64 s.b, .int .u64 s.c, .int .u64 s.d] 23)) (.cells (boolsS set0).toArray 51)
      simpa using this
    · have := heap_alloc_new ((w.alloc (.cells #[.int .u64 s.a, .int .u64 s.b, .int .u64 s.c, .int .u64 s.d] 23)).alloc (.cells (boolsS set0).toArray 51)) (.cells (boolsS set0).toArray 51)
      rw [fromA_zero]
      simpa using this
  case round =>
    obtain ⟨q, hq, rfl, hg, h2, h3⟩ := hrel
    have HG := hid hg
    have hfr := hg.fut
    clear hg
    by_cases hlt : q < 256
    · have hqq : q / 64 = 0 ∨ q / 64 = 1 ∨ q / 64 = 2 ∨ q / 64 = 3 := by omega
      have c3 : wr.cell? ⟨w.heap.size + 1 + 1, q, none⟩ = some (.bool (decide (q < q) && s.has q)) := heap_cell h3 q _ (by simp [fromA, hlt])
      have f3 := heap_free h3 q
      have hst := fromA_step s hlt
      have HST := hid hst
      have H2 := hid h2
      have H3 := hid h3
      have HQ := hid hq
      clear hst h2 h3
      rcases hqq with hq0 | hq0 | hq0 | hq0
      all_goals
        have hi : (q : Int) / 64 = ((q / 64 : Nat) : Int) := by omega
        rw [hq0] at hi
        have HQ0 := hid hq0
        clear hq0
        go_wp2_with fail
        go_roundg (256 - (q + 1))
        case measure => have := HQ.out; omega
        case rel =>
          refine ⟨q + 1, by omega, by go_num, HG.out.setCell n3 (by simp; omega) _, ?_, ?_⟩
          · rw [Below.heap_setCell _ _ _ _ (by simp)]
            exact H2.out
          · rw [heap_setCell_same H3.out]
            rw [← HST.out]
            congr 3
            unfold Set4.has Set4.word
            rw [HQ0.out]
            exact congrArg Value.bool (bit_test _ _ (by assumption) (by omega))
    · obtain rfl : q = 256 := by omega
      rw [fromA_full] at h3
      go_wp2_with (first | (refine wpList_load_row rfl 51 _ rfl _ rfl 51 _ (0, 0) _ h3 Try.underlying51 rfl (by rw [size51]; simp [boolsS_length]) ?_) | (refine wpList_store_row rfl 51 _ _ rfl _ _ rfl rfl 51 _ h2 (by rw [size51]; simp [boolsS_length]) (by simp [boolsS_length]) (bools_one s) ?_) | fail)
      refine bodyPost_ret (results_set51 (s := s) (B := w.heap.size + 1) rfl rfl (setRow_heap _ _ _ _ _ _ h2)) rfl ⟨rfl, ?_⟩
      exact (HG.out.setRow n2 (by omega) _).forget

set_option maxRecDepth 20000 in
theorem own_any {g : G} (s : Set4) (hs : s.wf) (w : World) (hw : Fut g w) :
    Calls Try.prog 38 #[.agg #[.int .u64 s.a, .int .u64 s.b, .int .u64 s.c, .int .u64 s.d]] w fun e w' => e = .returned (.agg (boolsS s).toArray) ∧ Grow g w g w' := by
  have hz := fun w => zero51 w
  obtain ⟨g1, hg1, hb1⟩ := box1 hw (.cells #[.int .u64 s.a, .int .u64 s.b, .int .u64 s.c, .int .u64 s.d] 24)
  have cA := fut_cell hb1 0 _ rfl
  have cB := fut_cell hb1 1 _ rfl
  have cC := fut_cell hb1 2 _ rfl
  have cD := fut_cell hb1 3 _ rfl
  have hG2 := hg1.alloc (.cells (boolsS set0).toArray 51)
  have hb2 : ((w.alloc (.cells #[.int .u64 s.a, .int .u64 s.b, .int .u64 s.c, .int .u64 s.d] 24)).alloc (.cells (boolsS set0).toArray 51)).heap[w.heap.size + 1]? = some (.cells (boolsS set0).toArray 51) := by
    have := heap_alloc_new (w.alloc (.cells #[.int .u64 s.a, .int .u64 s.b, .int .u64 s.c, .int .u64 s.d] 24)) (.cells (boolsS set0).toArray 51)
    simpa using this
  have n2 := hg1.fut.none_of_size (b := w.heap.size + 1) (by simp)
  have HF := hid (from_any s hs _ hG2.fut)
  have hf2 := hG2.fut
  have HG2 := hid hG2
  have HB2 := hid hb2
  clear hG2 hg1 hb2
  go_enter Try.func38, Try.ntmps38
  go_wp2_with (first | (go_at_call 62; refine HF.out.mono ?_) | fail)
  rintro e w3 ⟨rfl, hg3⟩
  have hb3 := (hg3.old _ (by simp)).trans HB2.out
  have HG3 := hid (HG2.out.trans hg3)
  clear hg3 HF HG2 HB2
  go_wp2_with (first | (refine wpList_store_row rfl 51 _ _ rfl _ _ rfl rfl 51 _ hb3 (by rw [size51]; simp [boolsS_length]) (by simp [boolsS_length]) (bools_one s) ?_) | fail)
  refine bodyPost_ret (results_set51 (s := s) (B := w.heap.size + 1) rfl rfl (setRow_heap _ _ _ _ _ _ hb3)) rfl ⟨rfl, ?_⟩
  exact (HG3.out.setRow n2 (by omega) _).forget
end Go.Proofs.Ytjodmimnbpgfcaa

/- RefP -/
namespace Go.Proofs.Ytjodmimnbpgfcaa
open Go.RowKit Go.IntWalk

theorem flat_length {ρ : Type} (cl : ρ → List Value) (S : Nat) (hS : ∀ r, (cl r).length = S) (rs : List ρ) : (rs.flatMap cl).length = rs.length * S := by
  induction rs with
  | nil => simp
  | cons r rs ih => simp [ih, hS, Nat.add_mul, Nat.add_comm]

theorem flat_get {ρ : Type} (cl : ρ → List Value) (S : Nat) (hS : ∀ r, (cl r).length = S) : ∀ (rs : List ρ) (i j : Nat), j < S → (rs.flatMap cl)[i * S + j]? = (rs[i]?).bind fun x => (cl x)[j]?
  | [], i, j, _ => by simp
  | r :: rs, 0, j, hj => by
    rw [List.flatMap_cons, List.getElem?_append_left (by rw [hS]; omega)]
    simp
  | r :: rs, i + 1, j, hj => by
    rw [List.flatMap_cons, List.getElem?_append_right (by rw [hS, Nat.add_mul]; omega), hS, show (i + 1) * S + j - S = i * S + j by rw [Nat.add_mul]; omega]
    simpa using flat_get cl S hS rs i j hj

def rowR (r : CRow) : List Value := (cellsR r).toList
def rowsR (rs : List CRow) : List Value := rs.flatMap rowR
theorem rowR_length (r : CRow) : (rowR r).length = 259 := by simp [rowR, cellsR_size]
theorem rowsR_length (rs : List CRow) : (rowsR rs).length = rs.length * 259 := flat_length rowR 259 rowR_length rs
theorem rowsR_append (a b : List CRow) : rowsR (a ++ b) = rowsR a ++ rowsR b := by simp [rowsR]
theorem rowR_one (r : CRow) : ∀ u ∈ rowR r, u.oneCell' = true := fun u hu => (Array.all_eq_true_iff_forall_mem.1 (cellsR_one r)) u (by simpa [rowR] using hu)
theorem cellsR_rowR (r : CRow) : cellsR r = (rowR r).toArray := by simp [rowR]

/-- A row of cores of the reference under construction. -/
structure OwnR (base : Nat) (g : G) (w : World) (v : Value) (l : List Core) (rs : List CRow) : Prop where
  own : w.ownsRow base 54 259 v l.length (rowsR rs)
  len : rs.length = l.length
  rel : ∀ (i : Nat) (r : CRow) (c : Core), rs[i]? = some r → l[i]? = some c → RefV g r c
  nown : ∀ k, v.ownBlock = some k → g.blk k = none
  nil : l = [] → v = .slice none 0 0

theorem OwnR.start (base : Nat) (g : G) (w : World) : OwnR base g w (.slice none 0 0) [] [] :=
  ⟨World.ownsRow_nil _ _ _ _, rfl, fun i r c h => by simp at h, fun k h => by simp [Value.ownBlock] at h, fun _ => rfl⟩

theorem OwnR.lt {base : Nat} {g : G} {w : World} {v : Value} {l : List Core} {rs : List CRow} (h : OwnR base g w v l rs) {k : Nat} (hk : v.ownBlock = some k) : base ≤ k ∧ k < w.heap.size := h.own.lt k hk

theorem OwnR.grow {base : Nat} {g g' : G} {w w' : World} {v : Value} {l : List Core} {rs : List CRow} (h : OwnR base g w v l rs) (hg : Grow g w g' w') : OwnR base g' w' v l rs :=
  ⟨ownsRow_same h.own (fun k hk => hg.old k (h.lt hk).2), h.len, fun i r c h1 h2 => (h.rel i r c h1 h2).le hg.le, fun k hk => hg.new k (h.nown k hk) (h.lt hk).2, h.nil⟩

/-- Behind an append of one. -/
theorem OwnR.snoc {base : Nat} {g : G} {w w' : World} {v : Value} {l : List Core} {rs : List CRow} (h : OwnR base g w v l rs) {kb kcap n : Nat} {r : CRow} {c : Core} {H : Nat} (hn : l.length = n) (hr : RefV g r c) (ho : w'.ownsRow base 54 259 (.slice (some ⟨kb, 0, none⟩) (n + 1) kcap) (n + 1) (rowsR rs ++ rowR r))
    (hat : v.ownBlock = some kb ∨ kb = H) (hH : g.blk H = none) : OwnR base g w' (.slice (some ⟨kb, 0, none⟩) (n + 1) kcap) (l ++ [c]) (rs ++ [r]) := by
  subst hn
  refine ⟨?_, by simp [h.len], fun i r' c' h1 h2 => ?_, fun k hk => ?_, fun e => by simp at e⟩
  · have e : rowsR (rs ++ [r]) = rowsR rs ++ rowR r := by simp [rowsR]
    rw [e]; simpa using ho
  · rcases Nat.lt_trichotomy i l.length with hi | hi | hi
    · rw [List.getElem?_append_left (by rw [h.len]; exact hi)] at h1
      rw [List.getElem?_append_left hi] at h2
      exact h.rel i r' c' h1 h2
    · rw [List.getElem?_append_right (by rw [h.len]; omega)] at h1
      rw [List.getElem?_append_right (by omega)] at h2
      rw [h.len, hi] at h1
      rw [hi] at h2
      simp at h1 h2
      subst h1 h2
      exact hr
    · rw [List.getElem?_eq_none (by simp [h.len]; omega)] at h1
      cases h1
  · simp only [Value.ownBlock, Option.some.injEq] at hk
    subst hk
    rcases hat with h1 | h1
    · exact h.nown _ h1
    · rw [h1]; exact hH

/-- A row of the call's own becomes persistent. -/
theorem OwnR.keep {g0 g : G} {w0 w : World} {base : Nat} {v : Value} {l : List Core} {rs : List CRow} (ho : OwnR base g w v l rs) (hg : Grow g0 w0 g w) (hb : w0.heap.size ≤ base) (k : Int) (s : Set4) (n : Int) (hk : i64 k) (hs : s.wf) (hn : i64 n) :
    ∃ g' a cap, v = .slice a l.length cap ∧ Grow g0 w0 g' w ∧ g.Le g' ∧ RefV g' ⟨k, s, n, a, l.length, cap⟩ (.mk k s n l) ∧ ∀ b, g.blk b = none → v.ownBlock ≠ some b → g'.blk b = none := by
  rcases ho.own.2 with ⟨rfl, h0⟩ | ⟨kb, cap, cur, rfl, h1, h2, h3, h4, h5, h6⟩
  · have : l = [] := List.eq_nil_of_length_eq_zero h0
    subst this
    exact ⟨g, none, 0, rfl, hg, G.Le.refl _, .nil k s n hk hs hn, fun b hb _ => hb⟩
  · have k2 := ho.nown kb rfl
    refine ⟨g.add kb (.cells cur 54 (0, 0)), some ⟨kb, 0, none⟩, cap, rfl, (Step.keep (hg.step (fun _ => False)) h2 (by omega) k2).grow, G.le_add k2, ?_, ?_⟩
    · have hbk : (g.add kb (.cells cur 54 (0, 0))).blk kb = some (.cells cur 54 (0, 0)) := G.add_same _ _ _
      have hlr := ho.own.1
      have hget : ∀ j u, (rowsR rs)[j]? = some u → cur[j]? = some u := fun j u hj => by
        have hi : j < (rowsR rs).length := (List.getElem?_eq_some_iff.1 hj).1
        rw [hlr] at hi
        rw [← h6, List.getElem?_take, if_pos hi] at hj
        simpa using hj
      refine .row k s n hk hs hn kb 0 cap l (fun i => rs.getD i ⟨0, set0, 0, none, 0, 0⟩) h3 (by unfold maxLen at h4; omega) (fun i hi w' hw' => ?_) (fun i hi => ?_)
      · have hi2 : i < rs.length := by rw [ho.len]; exact hi
        have hd : rs.getD i ⟨0, set0, 0, none, 0, 0⟩ = rs[i] := by simp [List.getD, List.getElem?_eq_getElem hi2]
        rw [hd, Nat.zero_add]
        intro j u hj
        have hj2 : j < 259 := by
          have := (List.getElem?_eq_some_iff.1 hj).1
          simpa [cellsR_size] using this
        refine fut_cell hbk _ _ (hget _ _ ?_) w' hw'
        rw [rowsR, flat_get rowR 259 rowR_length rs i j hj2, List.getElem?_eq_getElem hi2]
        exact hj
      · have hi2 : i < rs.length := by rw [ho.len]; exact hi
        have hd : rs.getD i ⟨0, set0, 0, none, 0, 0⟩ = rs[i] := by simp [List.getD, List.getElem?_eq_getElem hi2]
        simp only [hd]
        exact (ho.rel i _ _ (List.getElem?_eq_getElem hi2) (List.getElem?_eq_getElem hi)).le (G.le_add k2)
    · intro b hb hne
      have : b ≠ kb := fun e => hne (by rw [e]; rfl)
      simp [G.add, this, hb]

theorem Try.info54 : (Try.prog.info? 54).map (fun i => (i.zero, i.size, i.bytes)) = some (some (.agg (cellsR ⟨0, set0, 0, none, 0, 0⟩)), 259, 296) := by kernel_rfl
theorem zero54 (w : World) : (zeroValue 54).run Try.prog w = .ok (.agg (cellsR ⟨0, set0, 0, none, 0, 0⟩)) w :=
  (zero_of_info (P := Try.prog) (t := 54) (v := .agg (cellsR ⟨0, set0, 0, none, 0, 0⟩)) (n := 259) (by kernel_rfl)).1 w
end Go.Proofs.Ytjodmimnbpgfcaa

/- RefQ -/
namespace Go.Proofs.Ytjodmimnbpgfcaa
open Go.RowKit Go.IntWalk

theorem fill_step (place : Nat → Option (Nat × Nat)) (cells : Array Value) (i : Nat) (v : Value) (rest : List (Nat × Value)) {off size : Nat} (hp : place i = some (off, size)) (hv : v.cells.size = size) (hle : off + size ≤ cells.size) :
    ∃ cells', Instr.fill place cells ((i, v) :: rest) = Instr.fill place cells' rest ∧ cells'.size = cells.size ∧ ∀ k, cells'[k]? = if off ≤ k ∧ k < off + size then v.cells[k - off]? else cells[k]? := by
  refine ⟨v.cells.zipIdx.foldl (fun cs (x : Value × Nat) => cs.setIfInBounds (off + x.2) x.1) cells, ?_, ?_⟩
  · rw [Instr.fill, hp]
    have h : (v.cells.size ≠ size || off + v.cells.size > cells.size) = false := by simp [hv]; omega
    simp only [h]
    rfl
  · have e : v.cells.zipIdx.foldl (fun cs (x : Value × Nat) => cs.setIfInBounds (off + x.2) x.1) cells = (v.cells.toList.zipIdx 0).foldl (fun cs (x : Value × Nat) => cs.setIfInBounds (off + x.2) x.1) cells := by
      rw [← Array.foldl_toList, Array.toList_zipIdx]
    rw [e]
    obtain ⟨h1, h2⟩ := Great.foldl_set off v.cells.toList 0 cells
    refine ⟨h1, fun k => ?_⟩
    rw [h2 k]
    simp only [Nat.add_zero, Array.length_toList, hv, Array.getElem?_toList]
    by_cases hk : off ≤ k ∧ k < off + size
    · rw [if_pos ⟨hk.1, hk.2, by omega⟩, if_pos hk]
    · rw [if_neg (fun h => hk ⟨h.1, h.2.1⟩), if_neg hk]

theorem under54 : ∃ fields, Try.prog.underlying 54 = some (.struct fields) ∧ fields.toList.mapM (fun f => (Try.prog.info? f.type).map fun i => (f.offset, i.size)) = some [(0, 1), (1, 256), (257, 1), (258, 1)] := ⟨_, Try.underlying54, by kernel_rfl⟩

theorem built54 (k : Int) (s : Set4) (n : Int) : Try.prog.built 54 [(0, .int .i64 k), (1, .agg (boolsS s).toArray), (2, .int .i64 n)] = some (cellsR ⟨k, s, n, none, 0, 0⟩) := by
  obtain ⟨fields, hf, hp⟩ := under54
  obtain ⟨i0, hi, hz0, -, -⟩ := info_parts Try.info54
  have hb : Try.prog.built 54 [(0, .int .i64 k), (1, .agg (boolsS s).toArray), (2, .int .i64 n)] = Instr.fill (fun x => ([(0, 1), (1, 256), (257, 1), (258, 1)] : List (Nat × Nat))[x]?) (cellsR ⟨0, set0, 0, none, 0, 0⟩) [(0, .int .i64 k), (1, .agg (boolsS s).toArray), (2, .int .i64 n)] := by
    unfold Program.built
    simp only [hi, hf, hz0, hp]
    rfl
  rw [hb]
  have hs0 : (cellsR ⟨0, set0, 0, none, 0, 0⟩).size = 259 := cellsR_size _
  obtain ⟨c1, e1, s1, g1⟩ := fill_step (fun x => ([(0, 1), (1, 256), (257, 1), (258, 1)] : List (Nat × Nat))[x]?) (cellsR ⟨0, set0, 0, none, 0, 0⟩) 0 (.int .i64 k) [(1, .agg (boolsS s).toArray), (2, .int .i64 n)] (off := 0) (size := 1) rfl rfl (by omega)
  obtain ⟨c2, e2, s2, g2⟩ := fill_step (fun x => ([(0, 1), (1, 256), (257, 1), (258, 1)] : List (Nat × Nat))[x]?) c1 1 (.agg (boolsS s).toArray) [(2, .int .i64 n)] (off := 1) (size := 256) rfl (by show (boolsS s).toArray.size = 256; simp [boolsS_length]) (by omega)
  obtain ⟨c3, e3, s3, g3⟩ := fill_step (fun x => ([(0, 1), (1, 256), (257, 1), (258, 1)] : List (Nat × Nat))[x]?) c2 2 (.int .i64 n) [] (off := 257) (size := 1) rfl rfl (by omega)
  rw [e1, e2, e3]
  refine congrArg some ?_
  apply Array.ext_getElem?
  intro j
  rw [g3 j]
  by_cases h257 : 257 ≤ j ∧ j < 257 + 1
  · obtain rfl : j = 257 := by omega
    rw [if_pos h257, cellsR_n]; rfl
  rw [if_neg h257, g2 j]
  by_cases h1 : 1 ≤ j ∧ j < 1 + 256
  · obtain ⟨x, rfl⟩ : ∃ x, j = 1 + x := ⟨j - 1, by omega⟩
    rw [if_pos h1, cellsR_s _ (by omega)]
    show (boolsS s).toArray[1 + x - 1]? = _
    rw [Nat.add_sub_cancel_left, List.getElem?_toArray, boolsS_get _ (by omega)]
  rw [if_neg h1, g1 j]
  by_cases h0 : 0 ≤ j ∧ j < 0 + 1
  · obtain rfl : j = 0 := by omega
    rw [if_pos h0, cellsR_k]; rfl
  rw [if_neg h0]
  by_cases h2 : j = 258
  · subst h2
    rw [cellsR_l, cellsR_l]
  · rw [Array.getElem?_eq_none (by rw [cellsR_size]; omega), Array.getElem?_eq_none (by rw [cellsR_size]; omega)]

theorem exec_build54 {a : Act} {o : Oper} {x y z : Operand} {w : World} {k : Int} {s : Set4} {n : Int} (ho : o.op = .build 54 #[(0, x), (1, y), (2, z)]) (hx : a.eval x = .int .i64 k) (hy : a.eval y = .agg (boolsS s).toArray) (hz : a.eval z = .int .i64 n) :
    (execOp a.eval o).run Try.prog w = .ok (.value (.agg (cellsR ⟨k, s, n, none, 0, 0⟩))) w := by
  unfold execOp
  simp only [ho]
  rw [Sem.run_bind, run_build w 54 _ (cellsR ⟨k, s, n, none, 0, 0⟩) (by simpa [hx, hy, hz] using built54 k s n)]
  rfl

/-- One core of the reference is laid in a row of its own. -/
theorem wp_buildSlice54 {ops : Array Oper} {o : Oper} {a : Act} {w : World} {K : Act → World → Prop} {Q : Exit → Act → World → Prop} {E : Prop} (hgd : o.guard = none) (x : Operand) (ho : o.op = .buildSlice 52 1 #[(0, x)]) {r : CRow} (hx : a.eval x = .agg (cellsR r))
    (h : K (a.put o.dst (.slice (some ⟨w.heap.size, 0, none⟩) 1 1)) (w.alloc (.cells (cellsR r) 54))) : if Region.wanted o (yielded ops a.tmps) = true then Oper.wp Try.prog o a w K Q else E := by
  have hw : Region.wanted o (yielded ops a.tmps) = true := by simp [Region.wanted, hgd]
  rw [if_pos hw]
  obtain ⟨i0, hi, hz0, hz1, -⟩ := info_parts Try.info54
  refine wp_buildSlice 52 54 1 _ ho (cellsR r) i0 _ Try.underlying52 hi hz0 (by rw [hz1]; decide) (by rw [hz1]; decide) ?_ h
  have hl : (#[(0, x)] : Array (Nat × Operand)).map (fun (i, x) => (i, a.eval x)) = #[(0, .agg (cellsR r))] := by simp [hx]
  rw [hl, hz1]
  have := Great.fill_whole (s := 259) (by decide) [.agg (cellsR r)] ((Array.range (1 * 259)).map ((Value.agg (cellsR ⟨0, set0, 0, none, 0, 0⟩)).cells[· % (Value.agg (cellsR ⟨0, set0, 0, none, 0, 0⟩)).cells.size]!)) (by simp [Value.cells, cellsR_size]) (by simp)
  rw [show (#[(0, Value.agg (cellsR r))] : Array (Nat × Value)).toList = (([Value.agg (cellsR r)]).zipIdx 0).map fun x => (x.2, x.1) from rfl, this]
  simp [Value.cells]

/-- A core of the reference is stored whole. -/
theorem wp_store54 {ops : Array Oper} {o : Oper} {a : Act} {w : World} {K : Act → World → Prop} {Q : Exit → Act → World → Prop} {E : Prop} (hgd : o.guard = none) (x y : Operand) (ho : o.op = .store 54 x y)
    {B : Nat} {r r0 : CRow} (hx : a.eval x = .pointer (some ⟨B, 0, none⟩)) (hy : a.eval y = .agg (cellsR r)) (hg : w.heap[B]? = some (.cells (cellsR r0) 54))
    (h : K (a.put o.dst undef) (w.setRow B (cellsR r))) : if Region.wanted o (yielded ops a.tmps) = true then Oper.wp Try.prog o a w K Q else E := by
  have hw : Region.wanted o (yielded ops a.tmps) = true := by simp [Region.wanted, hgd]
  rw [if_pos hw]
  exact wp_store_row 54 x y ho B _ hx hy 54 _ hg (by rw [size54]; simp [cellsR_size]) (by simp [cellsR_size]) (cellsR_one r) h

theorem rangeAt_heap {w : World} {B : Nat} {r : CRow} (h : w.heap[B]? = some (.cells (cellsR r) 54)) : w.rangeAt B 0 (cellsR r).toList := by
  intro j v hv
  rw [Nat.zero_add]
  exact heap_cell h j v (by simpa using hv)

/-- A core of the reference that lies in its result variable. -/
theorem results_set54 {fn : Func} {p : Tmp} {tmps : Array Value} {w : World} {B : Nat} {r : CRow} (hr : fn.results = #[.cell p 54]) (hp : tmps.getD p undef = .pointer (some ⟨B, 0, none⟩)) (h : w.heap[B]? = some (.cells (cellsR r) 54)) :
    (results fn tmps).run Try.prog w = .ok (.agg (cellsR r)) w := by
  have h1 := run_loadVar_mid (P := Try.prog) w B 0 54 (cellsR r).toList _ (rangeAt_heap h) Try.underlying54 rfl (by rw [size54]; simp [cellsR_size])
  have hp' : tmps[p]?.getD undef = .pointer (some ⟨B, 0, none⟩) := by simpa using hp
  simp [results, hr, hp', asAddr, h1]

theorem set_cellsR (k : Int) (s : Set4) (n : Int) (a a' : Option Addr) (m c m' c' : Nat) : (cellsR ⟨k, s, n, a, m, c⟩).setIfInBounds 258 (.slice a' m' c') = cellsR ⟨k, s, n, a', m', c'⟩ := by
  apply Array.ext_getElem?
  intro j
  rw [Array.getElem?_setIfInBounds]
  by_cases h : 258 = j
  · subst h
    rw [if_pos rfl, if_pos (by rw [cellsR_size]; decide), cellsR_l]
  · rw [if_neg h]
    rcases Nat.lt_trichotomy j 257 with hj | rfl | hj
    · rcases Nat.eq_zero_or_pos j with rfl | hp
      · rw [cellsR_k, cellsR_k]
      · obtain ⟨x, rfl⟩ : ∃ x, j = 1 + x := ⟨j - 1, by omega⟩
        rw [cellsR_s _ (by omega), cellsR_s _ (by omega)]
    · rw [cellsR_n, cellsR_n]
    · rw [Array.getElem?_eq_none (by rw [cellsR_size]; omega), Array.getElem?_eq_none (by rw [cellsR_size]; omega)]

/-- By induction on the core, the nil slice and the row as one. -/
theorem CoreV.step {g : G} {motive : CRow → Core → Prop}
    (step : ∀ (k : Int) (s : Set4) (n : Int) (a : Option Addr) (cap : Nat) (l : List Core), i64 k → s.wf → i64 n →
      (∀ q (hq : q < l.length), ∃ b off r, a = some ⟨b, off, none⟩ ∧ l.length ≤ cap ∧ cap ≤ 9223372036854775807 ∧ CellsAt g b (off + q * 7) r ∧ CoreV g r l[q] ∧ motive r l[q]) →
      motive ⟨k, s, n, a, l.length, cap⟩ (.mk k s n l)) {r : CRow} {c : Core} (h : CoreV g r c) : motive r c := by
  induction h with
  | nil k s n hk hs hn ao cp => exact step k s n ao cp [] hk hs hn (fun q hq => absurd hq (Nat.not_lt_zero _))
  | row k s n hk hs hn b off cap l f hcap hm hc hr ih => exact step k s n _ cap l hk hs hn (fun q hq => ⟨b, off, f q, rfl, hcap, hm, hc q hq, hr q hq, ih q hq⟩)
end Go.Proofs.Ytjodmimnbpgfcaa
