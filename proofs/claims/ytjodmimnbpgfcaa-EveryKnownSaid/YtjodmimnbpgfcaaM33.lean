/- The plain law of EveryTexts. A library text: no claim is stated here. ch, eps, seq, alt, star, walked. A library text: no claim is stated here. -/
import Derived.Test.YtjodmimnbpgfcaaM18
import Derived.Test.YtjodmimnbpgfcaaM32
import Derived.Test.YtjodmimnbpgfcaaM02
import Derived.Test.YtjodmimnbpgfcaaM14

/- TLaw -/
namespace Go.Proofs.Ytjodmimnbpgfcaa
open Go.RowKit Go.IntWalk

mutual
theorem sizeF_nodes : ∀ (c : Core), sizeF c < 100000 → sizeF c = (nodes c : Nat)
  | .mk k s n l, h => by
    simp only [sizeF] at h ⊢
    have h2 := sizeL_nodes l 1 (by omega) (by omega)
    simp only [nodes]
    omega
theorem sizeL_nodes : ∀ (l : List Core) (n : Int), 1 ≤ n → sizeL l n < 100000 → sizeL l n = n + (nodesL l : Nat)
  | [], n, _, _ => by simp [sizeL, nodesL]
  | x :: r, n, h1, h => by
    rw [sizeL] at h ⊢
    by_cases hn : n ≥ 100000
    · rw [if_pos hn] at h; omega
    · rw [if_neg hn] at h ⊢
      have hb := sizeF_bd x
      have hm : ∀ (l : List Core) (n : Int), n ≤ sizeL l n := by
        intro l
        induction l with
        | nil => intro n; simp [sizeL]
        | cons y r ih =>
          intro n
          rw [sizeL]
          split
          · omega
          · have := ih (n + sizeF y)
            have := sizeF_bd y
            omega
      have h3 := hm r (n + sizeF x)
      have h4 := sizeF_nodes x (by omega)
      rw [sizeL_nodes r (n + sizeF x) (by omega) h]
      simp only [nodesL]
      omega
end

theorem good_nodes {c : Core} (h : GoodF c = true) : wfC c = true ∧ nodes c ≤ 2000 := by
  unfold GoodF at h
  simp only [Bool.and_eq_true, decide_eq_true_eq] at h
  have := sizeF_nodes c (by omega)
  exact ⟨wf_of_good c _ h.2, by omega⟩

theorem core_ok {g : G} {r : CRow} {c : Core} (h : CoreV g r c) : GoodF c = true → wfC c = true ∧ nodes c ≤ 50000 ∧ WfW (addR c.re 0 [nd0]).2 ∧ (addR c.re 0 [nd0]).1 < (addR c.re 0 [nd0]).2.length := fun hg => by
  obtain ⟨h1, h2⟩ := good_nodes hg
  have hw := web_wf (reWf_of _ c (Nat.le_refl _) h1 h.sets)
  exact ⟨h1, by omega, hw.1, hw.2⟩

theorem bl_irr : ∀ (u : List UInt8), Op.bytesLess u u = false
  | [] => rfl
  | a :: u => by simp [Op.bytesLess, bl_irr u]
theorem bl_asym : ∀ (u v : List UInt8), Op.bytesLess u v = true → Op.bytesLess v u = false
  | [], [], h => by simp [Op.bytesLess] at h
  | [], _ :: _, _ => rfl
  | _ :: _, [], h => by simp [Op.bytesLess] at h
  | a :: u, b :: v, h => by
    simp only [Op.bytesLess, Bool.or_eq_true, Bool.and_eq_true, decide_eq_true_eq, beq_iff_eq] at h
    simp only [Op.bytesLess, Bool.or_eq_false_iff, Bool.and_eq_false_iff, decide_eq_false_iff_not, beq_eq_false_iff_ne]
    rcases h with h | ⟨rfl, h⟩
    · have h1 : ¬ b < a := fun h2 => by
        rw [UInt8.lt_iff_toNat_lt] at h h2
        omega
      refine ⟨h1, .inl ?_⟩
      intro e; subst e
      rw [UInt8.lt_iff_toNat_lt] at h
      omega
    · exact ⟨by rw [UInt8.lt_iff_toNat_lt]; omega, .inr (bl_asym u v h)⟩
theorem bl_leq {u v : List UInt8} (h : Op.bytesLess u v = true) : (Op.bytesLess v u || v == u) = false := by
  rw [bl_asym u v h, Bool.false_or, beq_eq_false_iff_ne]
  intro e; subst e
  rw [bl_irr] at h; cases h

/-- Shorter, or as long and less. -/
def Before (u v : List UInt8) : Prop := u.length < v.length ∨ (u.length = v.length ∧ Op.bytesLess u v = true)

theorem words_less {S : List UInt8} (hS : S.Pairwise (· < ·)) : ∀ k, (allWords S k).Pairwise fun u v => Op.bytesLess u v = true
  | 0 => by simp [allWords]
  | k + 1 => by
    rw [allWords, List.pairwise_flatMap]
    refine ⟨fun b _ => ?_, hS.imp fun {a b} hab x hx y hy => ?_⟩
    · rw [List.pairwise_map]
      exact (words_less hS k).imp fun {u v} h => by simp [Op.bytesLess, h]
    · obtain ⟨u, -, rfl⟩ := List.mem_map.1 hx
      obtain ⟨v, -, rfl⟩ := List.mem_map.1 hy
      simp [Op.bytesLess, hab]

theorem textsL_sorted (c : Core) {S : List UInt8} (hS : S.Pairwise (· < ·)) (n : Nat) : (textsL c S n).Pairwise Before := by
  unfold textsL
  rw [List.pairwise_flatMap]
  have hlen : ∀ k u, u ∈ (allWords S k).filter (AtB (addR c.re 0 [nd0]).2 [(addR c.re 0 [nd0]).1]) → u.length = k := fun k u hu => ((allWords_mem S k u).1 (List.mem_filter.1 hu).1).1
  refine ⟨fun k _ => ?_, List.pairwise_lt_range.imp fun {a b} hab x hx y hy => ?_⟩
  · exact ((words_less hS k).filter (AtB (addR c.re 0 [nd0]).2 [(addR c.re 0 [nd0]).1])).imp_of_mem fun {a b} ha hb hab => .inr ⟨by rw [hlen k a ha, hlen k b hb], hab⟩
  · exact .inl (by rw [hlen a x hx, hlen b y hy]; exact hab)

theorem textsL_mem (c : Core) (S : List UInt8) (n : Nat) (u : List UInt8) : u ∈ textsL c S n ↔ u.length ≤ n ∧ (∀ b ∈ u, b ∈ S) ∧ Mt c.re u := by
  unfold textsL
  rw [List.mem_flatMap]
  constructor
  · rintro ⟨k, hk, hu⟩
    obtain ⟨h1, h2⟩ := List.mem_filter.1 hu
    obtain ⟨h3, h4⟩ := (allWords_mem S k u).1 h1
    obtain ⟨i, hi, hr⟩ := atB_iff.1 h2
    simp at hi hk
    subst hi
    exact ⟨by omega, h4, (web_says c.re u).1 hr⟩
  · rintro ⟨h1, h2, h3⟩
    refine ⟨u.length, by simp; omega, List.mem_filter.2 ⟨(allWords_mem S u.length u).2 ⟨rfl, h2⟩, atB_iff.2 ⟨_, by simp, (web_says c.re u).2 h3⟩⟩⟩

theorem textsL_few (c : Core) {n : Nat} (hn : n ≤ 4) : (textsL c [97, 98, 99] n).length ≤ 121 := by
  unfold textsL
  have hk : ∀ k, ((allWords [97, 98, 99] k).filter (AtB (addR c.re 0 [nd0]).2 [(addR c.re 0 [nd0]).1])).length ≤ (allWords [97, 98, 99] k).length := fun k => List.length_filter_le _ _
  have k0 := hk 0
  have k1 := hk 1
  have k2 := hk 2
  have k3 := hk 3
  have k4 := hk 4
  have l0 : (allWords [97, 98, 99] 0).length = 1 := by decide
  have l1 : (allWords [97, 98, 99] 1).length = 3 := by decide
  have l2 : (allWords [97, 98, 99] 2).length = 9 := by decide
  have l3 : (allWords [97, 98, 99] 3).length = 27 := by decide
  have l4 : (allWords [97, 98, 99] 4).length = 81 := by decide
  have hc : n = 0 ∨ n = 1 ∨ n = 2 ∨ n = 3 ∨ n = 4 := by omega
  rcases hc with rfl | rfl | rfl | rfl | rfl <;> simp only [List.range_succ, List.range_zero, List.nil_append, List.cons_append, List.flatMap_cons, List.flatMap_nil, List.append_nil, List.length_append] <;> omega

theorem law_texts {c : Core} (hg : GoodF c = true) {n : Nat} (hn : n ≤ 4) : textsF c [97, 98, 99] (n : Nat) 400 = (textsL c [97, 98, 99] n, 0) := by
  have h := textsL_few c hn
  rw [textsF_yes]
  · rw [Int.toNat_natCast, if_pos (by omega)]
  · have h1 : mayB c 0 400 = true := by simp [mayB, hg]
    have h2 : ([97, 98, 99] : List UInt8).Nodup := by decide
    simp [textsOk, h1]
    omega

theorem law_there {c : Core} (hg : GoodF c = true) {n : Nat} {s : List UInt8} (hs : s.length ≤ 4) : ((textsL c [97, 98, 99] n).any fun u => u == s) = (decide (s.length ≤ n) && (s.all fun b => decide (97 ≤ b) && decide (b ≤ 99)) && langSaysF c s) := by
  rw [Bool.eq_iff_iff, List.any_eq_true]
  have hb : ∀ b : UInt8, b ∈ ([97, 98, 99] : List UInt8) ↔ 97 ≤ b ∧ b ≤ 99 := fun b => by
    rw [UInt8.le_iff_toNat_le, UInt8.le_iff_toNat_le]
    simp only [List.mem_cons, List.not_mem_nil, or_false]
    constructor
    · rintro (rfl | rfl | rfl) <;> decide
    · rintro ⟨h1, h2⟩
      have h3 : b.toNat = 97 ∨ b.toNat = 98 ∨ b.toNat = 99 := by
        have e1 : (97 : UInt8).toNat = 97 := rfl
        have e2 : (99 : UInt8).toNat = 99 := rfl
        omega
      rcases h3 with h | h | h
      · exact .inl (UInt8.toNat_inj.1 h)
      · exact .inr (.inl (UInt8.toNat_inj.1 h))
      · exact .inr (.inr (UInt8.toNat_inj.1 h))
  constructor
  · rintro ⟨u, hu, he⟩
    simp at he
    subst he
    obtain ⟨h1, h2, h3⟩ := (textsL_mem c _ n u).1 hu
    simp only [Bool.and_eq_true, decide_eq_true_eq, List.all_eq_true, langSaysF]
    exact ⟨⟨h1, fun b hbm => (hb b).1 (h2 b hbm)⟩, ⟨hg, by omega⟩, (says_iff u c.re).2 h3⟩
  · intro h
    simp only [Bool.and_eq_true, decide_eq_true_eq, List.all_eq_true, langSaysF] at h
    exact ⟨s, (textsL_mem c _ n s).2 ⟨h.1.1, fun b hbm => (hb b).2 (h.1.2 b hbm), (says_iff s c.re).1 h.2.2⟩, by simp⟩
end Go.Proofs.Ytjodmimnbpgfcaa

/- Mk -/
namespace Go.Proofs.Ytjodmimnbpgfcaa
open Go.RowKit Go.IntWalk

def CRow.cells (r : CRow) : Array Value := #[.int .i64 r.k, .int .u64 r.s.a, .int .u64 r.s.b, .int .u64 r.s.c, .int .u64 r.s.d, .int .i64 r.n, .slice r.a r.len r.cap]

/-- A core that lies in its result variable. -/
theorem results_core {fn : Func} {p : Tmp} {tmps : Array Value} {w : World} {B : Nat} {r : CRow} (hr : fn.results = #[.cell p 27]) (hp : tmps.getD p undef = .pointer (some ⟨B, 0, none⟩)) (h : w.heap[B]? = some (.cells r.cells 27)) :
    (results fn tmps).run Try.prog w = .ok r.val w := by
  have e0 : w.cell? ⟨B, 0, none⟩ = some (.int .i64 r.k) := heap_cell h 0 _ rfl
  have e1 : w.cell? ⟨B, 1, none⟩ = some (.int .u64 r.s.a) := heap_cell h 1 _ rfl
  have e2 : w.cell? ⟨B, 2, none⟩ = some (.int .u64 r.s.b) := heap_cell h 2 _ rfl
  have e3 : w.cell? ⟨B, 3, none⟩ = some (.int .u64 r.s.c) := heap_cell h 3 _ rfl
  have e4 : w.cell? ⟨B, 4, none⟩ = some (.int .u64 r.s.d) := heap_cell h 4 _ rfl
  have e5 : w.cell? ⟨B, 5, none⟩ = some (.int .i64 r.n) := heap_cell h 5 _ rfl
  have e6 : w.cell? ⟨B, 6, none⟩ = some (.slice r.a r.len r.cap) := heap_cell h 6 _ rfl
  have hp' : tmps[p]?.getD undef = .pointer (some ⟨B, 0, none⟩) := by simpa using hp
  simp [results, hr, hp', go_sem, e0, e1, e2, e3, e4, e5, e6, CRow.val]

def zeroCore : Array Value := #[.int .i64 0, .int .u64 0, .int .u64 0, .int .u64 0, .int .u64 0, .int .i64 0, .slice none 0 0]

/-- A core stored into its result variable. -/
def putCore (w : World) (B : Nat) (r : CRow) : World :=
  ((((((w.setCell ⟨B, 0, none⟩ (.int .i64 r.k)).setCell ⟨B, 1, none⟩ (.int .u64 r.s.a)).setCell ⟨B, 2, none⟩ (.int .u64 r.s.b)).setCell ⟨B, 3, none⟩ (.int .u64 r.s.c)).setCell ⟨B, 4, none⟩ (.int .u64 r.s.d)).setCell ⟨B, 5, none⟩ (.int .i64 r.n)).setCell ⟨B, 6, none⟩ (.slice r.a r.len r.cap)
theorem core_stores {w : World} {B : Nat} (h : w.heap[B]? = some (.cells zeroCore 27)) (r : CRow) : (putCore w B r).heap[B]? = some (.cells r.cells 27) :=
  heap_setCell_same (heap_setCell_same (heap_setCell_same (heap_setCell_same (heap_setCell_same (heap_setCell_same (heap_setCell_same h _) _) _) _) _) _) _
theorem core_grow {g g' : G} {w w' : World} (h : Grow g w g' w') {B : Nat} (hb : g'.blk B = none) (hn : w.heap.size ≤ B) (r : CRow) : Grow g w g' (putCore w' B r) :=
  ((((((h.setCell (a := ⟨B, 0, none⟩) hb hn _).setCell (a := ⟨B, 1, none⟩) hb hn _).setCell (a := ⟨B, 2, none⟩) hb hn _).setCell (a := ⟨B, 3, none⟩) hb hn _).setCell (a := ⟨B, 4, none⟩) hb hn _).setCell (a := ⟨B, 5, none⟩) hb hn _).setCell (a := ⟨B, 6, none⟩) hb hn _

set_option maxRecDepth 100000 in
set_option maxHeartbeats 2000000 in
theorem ch_any {g : G} {a : Option Addr} {n c : Nat} {l : List UInt8} (hs : SliceV g a n c (l.map byteV)) (w : World) (hw : Fut g w) :
    Calls Try.prog 13 #[.slice a n c] w fun e w' => ∃ r : CRow, e = .returned r.val ∧ Grow g w g w' ∧ CoreV g r (.mk 2 (ofF l) 0 []) := by
  have hof := fun w' hf => of_any hs w' hf
  have fa := fun o => hw.alloc o
  unfold Set4.val at hof
  have HO := hid hof
  clear hof
  go_enter Try.func13, Try.ntmps13
  go_wp2_with (first | (go_at_call 34; refine (HO.out _ (fa _)).mono ?_) | fail)
  rintro e w5 ⟨rfl, hg5⟩
  have hb := (hg5.old w.heap.size (by rw [World.size_alloc]; exact Nat.lt_succ_self _)).trans (heap_alloc_new w _)
  have c0 := heap_cell hb 0 _ rfl
  have c1 := heap_cell hb 1 _ rfl
  have c2 := heap_cell hb 2 _ rfl
  have c3 := heap_cell hb 3 _ rfl
  have c4 := heap_cell hb 4 _ rfl
  have c5 := heap_cell hb 5 _ rfl
  have c6 := heap_cell hb 6 _ rfl
  have z0 := heap_free hb
  have HB := hid hb
  have HG := hid (((Grow.refl hw).alloc _).trans hg5)
  clear hb hg5 HO
  go_wp2
  have hst := core_stores HB.out ⟨2, ofF l, 0, none, 0, 0⟩
  have hgr := core_grow HG.out (hw.none_of_size (Nat.le_refl _)) (Nat.le_refl _) ⟨2, ofF l, 0, none, 0, 0⟩
  simp only [putCore] at hst hgr
  refine bodyPost_ret (results_core (r := ⟨2, ofF l, 0, none, 0, 0⟩) rfl rfl hst) rfl ⟨⟨2, ofF l, 0, none, 0, 0⟩, rfl, hgr, ?_⟩
  · exact .nil 2 (ofF l) 0 (by unfold i64; omega) (ofF_wf l) (by unfold i64; omega) none 0

set_option maxRecDepth 100000 in
set_option maxHeartbeats 2000000 in
theorem eps_any {g : G} (w : World) (hw : Fut g w) : Calls Try.prog 17 #[] w fun e w' => ∃ r : CRow, e = .returned r.val ∧ Grow g w g w' ∧ CoreV g r (.mk 1 set0 0 []) := by
  have hb := heap_alloc_new w (.cells #[.int .i64 1, .int .u64 0, .int .u64 0, .int .u64 0, .int .u64 0, .int .i64 0, .slice none 0 0] 27)
  have hgr := (Grow.refl hw).alloc (.cells #[.int .i64 1, .int .u64 0, .int .u64 0, .int .u64 0, .int .u64 0, .int .i64 0, .slice none 0 0] 27)
  have HB := hid hb
  have HG := hid hgr
  clear hb hgr
  go_enter Try.func17, Try.ntmps17
  go_wp2
  refine bodyPost_ret (results_core (r := ⟨1, set0, 0, none, 0, 0⟩) rfl rfl HB.out) rfl ⟨⟨1, set0, 0, none, 0, 0⟩, rfl, HG.out, ?_⟩
  exact .nil 1 set0 0 (by unfold i64; omega) ⟨by decide, by decide, by decide, by decide⟩ (by unfold i64; omega) none 0

/-- Two cores in a row of their own. -/
theorem core_two {g : G} {r q : CRow} {c d : Core} {b : Nat} (h : CoreV g r c) (h' : CoreV g q d) (hb : g.blk b = some (.cells (r.cells ++ q.cells) 27)) (k : Int) (hk : i64 k) : CoreV g ⟨k, set0, 0, some ⟨b, 0, none⟩, 2, 2⟩ (.mk k set0 0 [c, d]) := by
  refine .row k set0 0 hk ⟨by decide, by decide, by decide, by decide⟩ (by unfold i64; omega) b 0 2 [c, d] (fun i => if i = 0 then r else q) (by simp) (by omega) (fun i hi => ?_) (fun i hi => ?_)
  · have : i = 0 ∨ i = 1 := by simp at hi; omega
    rcases this with rfl | rfl
    · exact ⟨fut_cell hb 0 _ rfl, fut_cell hb 1 _ rfl, fut_cell hb 2 _ rfl, fut_cell hb 3 _ rfl, fut_cell hb 4 _ rfl, fut_cell hb 5 _ rfl, fut_cell hb 6 _ rfl⟩
    · exact ⟨fut_cell hb 7 _ rfl, fut_cell hb 8 _ rfl, fut_cell hb 9 _ rfl, fut_cell hb 10 _ rfl, fut_cell hb 11 _ rfl, fut_cell hb 12 _ rfl, fut_cell hb 13 _ rfl⟩
  · have : i = 0 ∨ i = 1 := by simp at hi; omega
    rcases this with rfl | rfl
    · exact h
    · exact h'
theorem core_one {g : G} {r : CRow} {c : Core} {b : Nat} (h : CoreV g r c) (hb : g.blk b = some (.cells r.cells 27)) (k : Int) (hk : i64 k) : CoreV g ⟨k, set0, 0, some ⟨b, 0, none⟩, 1, 1⟩ (.mk k set0 0 [c]) := by
  refine .row k set0 0 hk ⟨by decide, by decide, by decide, by decide⟩ (by unfold i64; omega) b 0 1 [c] (fun _ => r) (by simp) (by omega) (fun i hi => ?_) (fun i hi => ?_)
  · obtain rfl : i = 0 := by simpa using hi
    exact ⟨fut_cell hb 0 _ rfl, fut_cell hb 1 _ rfl, fut_cell hb 2 _ rfl, fut_cell hb 3 _ rfl, fut_cell hb 4 _ rfl, fut_cell hb 5 _ rfl, fut_cell hb 6 _ rfl⟩
  · obtain rfl : i = 0 := by simpa using hi
    exact h

/-- A result and a row, laid one behind the other. -/
theorem res_two {g : G} {w W : World} (hG : Grow g w g W) (res cells : Obj) : ∃ g', Grow g w g' ((W.alloc res).alloc cells) ∧ g'.blk (W.heap.size + 1) = some cells ∧ ((W.alloc res).alloc cells).heap[W.heap.size]? = some res := by
  have h := (hG.alloc res).box cells
  rw [World.size_alloc] at h
  exact ⟨_, h, G.add_same _ _ _, (Below.heap_alloc _ _ _ (by rw [World.size_alloc]; exact Nat.lt_succ_self _)).trans (heap_alloc_new W res)⟩

set_option maxRecDepth 100000 in
set_option maxHeartbeats 2000000 in
theorem alt_any {g : G} {r q : CRow} {c d : Core} (h : CoreV g r c) (h' : CoreV g q d) (w : World) (hw : Fut g w) :
    Calls Try.prog 16 #[r.val, q.val] w fun e w' => ∃ (g' : G) (x : CRow), e = .returned x.val ∧ Grow g w g' w' ∧ CoreV g' x (.mk 4 set0 0 [c, d]) := by
  obtain ⟨g', hg, hb, hr⟩ := res_two (((Grow.refl hw).alloc (.cells #[.int .i64 r.k, .int .u64 r.s.a, .int .u64 r.s.b, .int .u64 r.s.c, .int .u64 r.s.d, .int .i64 r.n, .slice r.a r.len r.cap] 27)).alloc (.cells #[.int .i64 q.k, .int .u64 q.s.a, .int .u64 q.s.b, .int .u64 q.s.c, .int .u64 q.s.d, .int .i64 q.n, .slice q.a q.len q.cap] 27)) (.cells #[.int .i64 4, .int .u64 0, .int .u64 0, .int .u64 0, .int .u64 0, .int .i64 0, .slice (some ⟨w.heap.size + 1 + 1 + 1, 0, none⟩) 2 2] 27) (.cells (r.cells ++ q.cells) 27)
  simp only [World.size_alloc] at hb hr
  have hc := core_two (h.le hg.le) (h'.le hg.le) hb 4 (by unfold i64; omega)
  have HR := hid hr
  have HG := hid hg
  have HC := hid hc
  clear hg hb hr hc h h'
  unfold CRow.val
  go_enter Try.func16, Try.ntmps16
  go_wp2
  exact bodyPost_ret (results_core (r := ⟨4, set0, 0, some ⟨w.heap.size + 1 + 1 + 1, 0, none⟩, 2, 2⟩) rfl rfl HR.out) rfl ⟨g', _, rfl, HG.out, HC.out⟩

set_option maxRecDepth 100000 in
set_option maxHeartbeats 2000000 in
theorem seq_any {g : G} {r q : CRow} {c d : Core} (h : CoreV g r c) (h' : CoreV g q d) (w : World) (hw : Fut g w) :
    Calls Try.prog 15 #[r.val, q.val] w fun e w' => ∃ (g' : G) (x : CRow), e = .returned x.val ∧ Grow g w g' w' ∧ CoreV g' x (.mk 3 set0 0 [c, d]) := by
  obtain ⟨g', hg, hb, hr⟩ := res_two (((Grow.refl hw).alloc (.cells #[.int .i64 r.k, .int .u64 r.s.a, .int .u64 r.s.b, .int .u64 r.s.c, .int .u64 r.s.d, .int .i64 r.n, .slice r.a r.len r.cap] 27)).alloc (.cells #[.int .i64 q.k, .int .u64 q.s.a, .int .u64 q.s.b, .int .u64 q.s.c, .int .u64 q.s.d, .int .i64 q.n, .slice q.a q.len q.cap] 27)) (.cells #[.int .i64 3, .int .u64 0, .int .u64 0, .int .u64 0, .int .u64 0, .int .i64 0, .slice (some ⟨w.heap.size + 1 + 1 + 1, 0, none⟩) 2 2] 27) (.cells (r.cells ++ q.cells) 27)
  simp only [World.size_alloc] at hb hr
  have hc := core_two (h.le hg.le) (h'.le hg.le) hb 3 (by unfold i64; omega)
  have HR := hid hr
  have HG := hid hg
  have HC := hid hc
  clear hg hb hr hc h h'
  unfold CRow.val
  go_enter Try.func15, Try.ntmps15
  go_wp2
  exact bodyPost_ret (results_core (r := ⟨3, set0, 0, some ⟨w.heap.size + 1 + 1 + 1, 0, none⟩, 2, 2⟩) rfl rfl HR.out) rfl ⟨g', _, rfl, HG.out, HC.out⟩

set_option maxRecDepth 100000 in
set_option maxHeartbeats 2000000 in
theorem starC_any {g : G} {r : CRow} {c : Core} (h : CoreV g r c) (w : World) (hw : Fut g w) :
    Calls Try.prog 12 #[r.val] w fun e w' => ∃ (g' : G) (x : CRow), e = .returned x.val ∧ Grow g w g' w' ∧ CoreV g' x (.mk 5 set0 0 [c]) := by
  obtain ⟨g', hg, hb, hr⟩ := res_two ((Grow.refl hw).alloc (.cells #[.int .i64 r.k, .int .u64 r.s.a, .int .u64 r.s.b, .int .u64 r.s.c, .int .u64 r.s.d, .int .i64 r.n, .slice r.a r.len r.cap] 27)) (.cells #[.int .i64 5, .int .u64 0, .int .u64 0, .int .u64 0, .int .u64 0, .int .i64 0, .slice (some ⟨w.heap.size + 1 + 1, 0, none⟩) 1 1] 27) (.cells r.cells 27)
  simp only [World.size_alloc] at hb hr
  have hc := core_one (h.le hg.le) hb 5 (by unfold i64; omega)
  have HR := hid hr
  have HG := hid hg
  have HC := hid hc
  clear hg hb hr hc h
  unfold CRow.val
  go_enter Try.func12, Try.ntmps12
  go_wp2
  exact bodyPost_ret (results_core (r := ⟨5, set0, 0, some ⟨w.heap.size + 1 + 1, 0, none⟩, 1, 1⟩) rfl rfl HR.out) rfl ⟨g', _, rfl, HG.out, HC.out⟩
end Go.Proofs.Ytjodmimnbpgfcaa
