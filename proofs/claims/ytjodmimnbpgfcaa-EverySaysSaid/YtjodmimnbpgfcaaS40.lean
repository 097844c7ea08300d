/- lang's add, walked. A library text: no claim is stated here.  some, walked. A library text: no claim is stated here. -/
import Derived.Test.YtjodmimnbpgfcaaS03
import Derived.Deep.RegionLaw
import Derived.Deep.Cut
import Derived.Deep.CutRange
import Derived.Test.YtjodmimnbpgfcaaS04
import Derived.Test.YtjodmimnbpgfcaaS39
import Derived.Deep.CutBlock

/- Add -/
namespace Go.Proofs.Ytjodmimnbpgfcaa
open Go.RowKit Go.IntWalk

set_option maxHeartbeats 2000000 in
theorem add_row {g : G} (k0 : Int) (s0 : Set4) (n0 : Int) (ao : Option Addr) (ln cp : Nat) (l : List Core) 
    (H : (ln = 0 ∧ l = []) ∨ ∃ (b off : Nat) (f : Nat → CRow), ao = some ⟨b, off, none⟩ ∧ ln = l.length ∧ ln ≤ cp ∧ cp ≤ 9223372036854775807 ∧ (∀ i, i < l.length → CellsAt g b (off + i * 7) (f i)) ∧
      ∀ i (h : i < l.length), ∀ (g' : G) (tb : Nat) (sv pv : Value) (n : Nat) (xs : List Value) (w : World), g.Le g' → Fut g' w → w.heap[tb]? = some (.cells #[pv, sv, .slice none 0 0] 108) → w.ownsRow 0 133 8 pv n xs → n + nodes l[i] ≤ 100000 → g'.blk tb = none →
        (∀ k, pv.ownBlock = some k → g'.blk k = none ∧ k ≠ tb) → Calls Try.prog 54 #[.pointer (some ⟨tb, 0, none⟩), (f i).val] w (AddPost g' w tb sv pv n xs l[i]))
    (tb : Nat) (sv pv : Value) (n : Nat) (xs : List Value) (w : World) (hw : Fut g w)
    (ht : w.heap[tb]? = some (.cells #[pv, sv, .slice none 0 0] 108)) (hown : w.ownsRow 0 133 8 pv n xs) (hn : n + nodes (.mk k0 s0 n0 l) ≤ 100000) (hgt : g.blk tb = none)
    (hpb : ∀ k, pv.ownBlock = some k → g.blk k = none ∧ k ≠ tb) :
    Calls Try.prog 54 #[.pointer (some ⟨tb, 0, none⟩), CRow.val ⟨k0, s0, n0, ao, ln, cp⟩] w (AddPost g w tb sv pv n xs (.mk k0 s0 n0 l)) := by
  obtain ⟨i0, hi, hz0, hz1, hz2⟩ := info_parts Try.info133
  obtain ⟨g1, hg, c0, c1, c2, c3, c4, c5, c6⟩ := box_core hw ⟨k0, s0, n0, ao, ln, cp⟩
  have HH := hid H
  clear H
  have hn1 : n + 1 + nodesL l ≤ 100000 := by simp only [nodes] at hn; omega
  clear hn
  have HPB := hid hpb
  clear hpb
  unfold CRow.val
  have t0 : w.cell? ⟨tb, 0, none⟩ = some pv := heap_cell ht 0 _ rfl
  obtain ⟨po, pc, hpv⟩ : ∃ po pc, pv = .slice po n pc := by
    rcases hown.2 with ⟨rfl, rfl⟩ | ⟨_, cap, _, rfl, _⟩ <;> exact ⟨_, _, rfl⟩
  subst hpv
  have hlt := lt_of_block ht
  have HT := hid ht
  have HO := hid hown
  have HG := hid hg
  have hf1 := hg.fut
  clear ht hown hg
  go_enter Try.func54, Try.ntmps54
  go_wp2_with fail
  generalize hW : w.alloc (.cells #[.int .i64 k0, .int .u64 s0.a, .int .u64 s0.b, .int .u64 s0.c, .int .u64 s0.d, .int .i64 n0, .slice ao ln cp] 27) = W at HG hf1 ⊢
  have t0W : W.cell? ⟨tb, 0, none⟩ = some (.slice po n pc) := by
    rw [← hW, World.cell?_alloc_lt _ _ _ hlt]; exact t0
  have HOW : Hid (W.ownsRow 0 133 8 (.slice po n pc) n xs) := by rw [← hW]; exact HO.out.alloc _
  have HTW : Hid (W.heap[tb]? = some (.cells #[.slice po n pc, sv, .slice none 0 0] 108)) := by rw [← hW]; exact (Below.heap_alloc _ _ _ hlt).trans HT.out
  have HLw := hid hlt
  have HGT := hid hgt
  clear hW t0 hlt hgt
  have hlW : tb < W.heap.size := lt_of_block (w := W) (o := .cells #[.slice po n pc, sv, .slice none 0 0] 108) HTW.out
  have hz := heap_alloc_new W (.cells #[.int .i64 k0, .int .u64 s0.a, .int .u64 s0.b, .int .u64 s0.c, .int .u64 s0.d, .int .i64 n0, .slice ao ln cp, .slice none 0 0] 133)
  have HZ := hid hz
  have HL := hid hlW
  have HX : Hid (xs.length = n * 8) := HO.out.1
  have HNE : Hid (some tb ≠ Value.ownBlock (.slice po n pc)) := fun e => (HPB.out tb e.symm).2 rfl
  clear hz hlW
  go_cut [] from 14 (fun wc => ∃ pb pcap, Hid (Step (fun b => b = tb ∨ Value.ownBlock (.slice po n pc) = some b) g w g1 wc) ∧ Hid (wc.heap[tb]? = some (.cells #[.slice (some ⟨pb, 0, none⟩) (n + 1) pcap, sv, .slice none 0 0] 108)) ∧
    Hid (wc.ownsRow 0 133 8 (.slice (some ⟨pb, 0, none⟩) (n + 1) pcap) (n + 1) (xs ++ partRow ⟨k0, s0, n0, ao, ln, cp⟩ (.slice none 0 0))) ∧ Hid (g1.blk pb = none ∧ pb ≠ tb ∧ (Value.ownBlock (.slice po n pc) = some pb ∨ w.heap.size ≤ pb)))
  case first =>
    have t0A : ∀ o, (W.alloc o).cell? ⟨tb, 0, none⟩ = some (.slice po n pc) := fun o => (World.cell?_alloc_lt _ _ _ HL.out).trans t0W
    go_region_law (first | (refine step_append_lies _ rfl (.tmp 18) (.tmp 21) 105 rfl 0 133 i0 (.agg #[.int .i64 0, .int .u64 0, .int .u64 0, .int .u64 0, .int .u64 0, .int .i64 0, .slice none 0 0, .slice none 0 0]) 8 96 Try.underlying105 hi hz0 hz1 hz2 rfl (by decide) _ n xs rfl (HOW.out.alloc _).drew ⟨W.heap.size, 0, none⟩ 1 1 [.int .i64 k0, .int .u64 s0.a, .int .u64 s0.b, .int .u64 s0.c, .int .u64 s0.d, .int .i64 n0, .slice ao ln cp, .slice none 0 0] rfl rfl (World.news_of_block (w := (W.alloc _).drew) HZ.out) (by simp [Value.oneCell']) (by decide) (by unfold maxLen; omega) (by omega) (Nat.zero_le _) _ rfl ?_; intro pb pcap w1 hown1 hgrow1 hat1 hlt1; have HG1 := hid hgrow1; have HO1 := hid hown1; have HAT1 := hid hat1; have fz1 : w1.frozen? ⟨tb, 0, none⟩ = false := (hgrow1.frozen_far _ (by simp; exact Nat.lt_succ_of_lt HL.out) HNE.out).trans ((World.frozen?_alloc_old _ _ _ (Nat.ne_of_lt HL.out)).trans (heap_free HTW.out 0)); have tz1 : w1.cell? ⟨tb, 0, none⟩ = some (.slice po n pc) := (hgrow1.cell_far _ (by simp; exact Nat.lt_succ_of_lt HL.out) HNE.out).trans ((World.cell?_alloc_lt _ _ _ HL.out).trans t0W); clear hgrow1 hown1 hat1))
    all_goals
      go_wp2_with fail
      go_meet
      case rel =>
        have R := add_meet HG.out HLw.out HGT.out HPB.out HO.out HTW.out HG1.out HO1.out HAT1.out
        exact ⟨_, _, R.1, R.2.1, R.2.2.1, R.2.2.2⟩
  case rest =>
    obtain ⟨pb, pcap, HS, HT2, HO2, HB⟩ := hcut
    have hfc := HS.out.fut
    clear hf1 HZ HL HTW HOW hi t0W
    have HN := hid hn1
    rcases HH.out with ⟨rfl, rfl⟩ | ⟨b, off, f, rfl, rfl, hcap, hm, hcells, ih⟩
    · go_wp2_with fail
      refine wp_loop_rounds 1 ?_; rw [rounds_succ]
      go_wp2_with fail
      go_ret
      have hI : AddInv g w (fun b => b = tb ∨ Value.ownBlock (.slice po n pc) = some b) tb sv n xs ⟨k0, s0, n0, ao, 0, cp⟩ [] 0 g1 pb pcap (.slice none 0 0) [] wc := by
        refine ⟨HS.out, HT2.out, ?_, HB.out.1, HB.out.2.1, ?_, World.ownsRow_nil _ _ _ _, ?_, rfl, ?_⟩
        · simpa [nodesL] using HO2.out
        · exact HB.out.2.2.imp .inr id
        · intro k hk; simp [Value.ownBlock] at hk
        · intro i x hx; simp [flatL] at hx
      exact hI.post
    · have HC := hid hcells
      have IH := hid ih
      clear hcells ih HH
      go_wp2_with fail
      go_loopg [28] l.length (fun rem i wr => ∃ q g2 pb pcap kv ys, q + rem = l.length ∧ i = .int .i64 (q : Nat) ∧ g1.Le g2 ∧ AddInv g w (fun b => b = tb ∨ Value.ownBlock (.slice po n pc) = some b) tb sv n xs ⟨k0, s0, n0, some ⟨b, off, none⟩, l.length, cp⟩ l q g2 pb pcap kv ys wr)
      case atStart =>
        refine ⟨0, g1, pb, pcap, .slice none 0 0, [], by omega, rfl, G.Le.refl _, HS.out, HT2.out, ?_, HB.out.1, HB.out.2.1, ?_, World.ownsRow_nil _ _ _ _, ?_, rfl, ?_⟩
        · simpa [nodesL] using HO2.out
        · exact HB.out.2.2.imp .inr id
        · intro k hk; simp [Value.ownBlock] at hk
        · intro i x hx; simp [flatL] at hx
      case round =>
        obtain ⟨q, g2, pb2, pcap2, kv, ys, hq, rfl, hle2, hinv⟩ := hrel
        have HI := hid hinv
        have hf2 := hinv.step.fut
        have htab := heap_cell hinv.tab 0 _ rfl
        clear hfc HS HT2 HO2 HB hinv
        by_cases hlt : q < l.length
        · obtain ⟨e0, e1, e2, e3, e4, e5, e6⟩ := (HC.out q hlt).le (HG.out.le.trans hle2)
          have nb := nodesL_take_le l (q + 1)
          rw [nodesL_succ hlt] at nb
          have hcall := fun W' hF hT hO => IH.out q hlt g2 tb sv (.slice (some ⟨pb2, 0, none⟩) (n + 1 + nodesL (l.take q)) pcap2) (n + 1 + nodesL (l.take q)) (xs ++ partRow ⟨k0, s0, n0, some ⟨b, off, none⟩, l.length, cp⟩ kv ++ ys) W' (HG.out.le.trans hle2) hF hT hO (by omega) (HI.out.step.new tb HGT.out HLw.out) (by intro k hk; simp [Value.ownBlock] at hk; subst hk; exact ⟨HI.out.pbn, HI.out.pbt⟩)
          unfold CRow.val at hcall
          have HLr : Hid (tb < wr.heap.size) := lt_of_block HI.out.tab
          go_wp2_with (go_at_call 54; refine (hcall _ (hf2.alloc _) ((Below.heap_alloc _ _ _ HLr.out).trans HI.out.tab) (HI.out.own.alloc _)).mono ?_; rintro e w2 ⟨rfl, g3, pv3, ys3, hs3, ht3, ho3, hp3, hl3, hr3⟩)
          clear hcall
          obtain ⟨pb3, pcap3, N3, hN3, rfl, hc3⟩ := HI.out.call hlt hs3 ht3 ho3 hp3 hl3 hr3
          clear hs3 ht3 ho3 hp3 hl3 hr3 htab hf2 e0 e1 e2 e3 e4 e5 e6
          have hkr : ∃ ka kcap, kv = .slice ka q kcap := by
            rcases HI.out.kids.2 with ⟨h, h'⟩ | ⟨_, cap, _, h, _⟩
            · exact ⟨none, 0, by rw [h, h']⟩
            · exact ⟨_, _, h⟩
          obtain ⟨ka, kcap, rfl⟩ := hkr
          have hl5 := length_le_nodesL l
          have hq5 : q ≤ 100000 := by omega
          have hidx : (n : Int) < (N3 : Int) := by omega
          have HC3 := hid hc3
          have HQ := hid hlt
          have HQQ := hid hq
          clear hc3 hcap hm nb hn1 hN3 hl5 hlt hq
          have hf3 := HC3.out.step.fut
          have hlt3 := (HC3.out.own.lt pb3 rfl).2
          have hlt3' := lt_of_block HC3.out.tab
          have tab3 := heap_cell HC3.out.tab 0 _ rfl
          have kid3 : w2.cell? ⟨pb3, n * 8 + 7, none⟩ = some (.slice ka q kcap) := by
            rw [HC3.out.own.cellAt _ (by omega), List.append_assoc, get_row _ _ HX.out]
          have fro3 : w2.frozen? ⟨pb3, n * 8 + 7, none⟩ = false := HC3.out.own.frozenAt _
          have tab3A : ∀ o, (w2.alloc o).cell? ⟨tb, 0, none⟩ = some (.slice (some ⟨pb3, 0, none⟩) N3 pcap3) := fun o => (World.cell?_alloc_lt _ _ _ hlt3').trans tab3
          have kid3A : ∀ o, (w2.alloc o).cell? ⟨pb3, n * 8 + 7, none⟩ = some (.slice ka q kcap) := fun o => (World.cell?_alloc_lt _ _ _ hlt3).trans kid3
          have HZ3 := hid (heap_alloc_new w2 (.cells #[.int .i64 ((n : Int) + 1 + (nodesL (l.take q) : Nat))] 3))
          have hnt : some tb ≠ Value.ownBlock (.slice ka q kcap) := fun e => (HI.out.kidBlock HC3.out tb e.symm).2.1 rfl
          have hnp : some pb3 ≠ Value.ownBlock (.slice ka q kcap) := fun e => (HI.out.kidBlock HC3.out pb3 e.symm).2.2.1 rfl
          have HLT := hid hlt3
          have HLT' := hid hlt3'
          have HNT := hid hnt
          have HNP := hid hnp
          have HFR := hid fro3
          clear hlt3 hlt3' hnt hnp fro3
          obtain ⟨i1, hi1, hy0, hy1, hy2⟩ := info_parts Try.info3
          go_region_law
              (first | (refine step_append_lies _ rfl (.tmp 47) (.tmp 49) 70 rfl 0 3 i1 (.int .i64 0) 1 8 Try.underlying70 hi1 hy0 hy1 hy2 rfl (by decide) _ q ((kidIdx (n + 1) (l.take q)).map natV) rfl ((HI.out.kids2 HC3.out).alloc _).drew ⟨w2.heap.size, 0, none⟩ 1 1 [.int .i64 ((n : Int) + 1 + (nodesL (l.take q) : Nat))] rfl rfl (World.news_of_block (w := (w2.alloc _).drew) HZ3.out) (by simp [Value.oneCell']) (by decide) (by unfold maxLen; omega) (by omega) (Nat.zero_le _) _ rfl ?_; intro kb kcap4 w4 hown4 hgrow4 hat4 hlt4; have HG4 := hid hgrow4; have HO4 := hid hown4; have HAT4 := hid hat4; have hk4 : w4.cell? ⟨pb3, n * 8 + 7, none⟩ = some (.slice ka q kcap) := (hgrow4.cell_far _ (by simp; exact Nat.lt_succ_of_lt HLT.out) HNP.out).trans (kid3A _); have hf4 : w4.frozen? ⟨pb3, n * 8 + 7, none⟩ = false := (hgrow4.frozen_far _ (by simp; exact Nat.lt_succ_of_lt HLT.out) HNP.out).trans ((World.frozen?_alloc_old _ _ _ (Nat.ne_of_lt HLT.out)).trans HFR.out); have ht4 : w4.cell? ⟨tb, 0, none⟩ = some (.slice (some ⟨pb3, 0, none⟩) N3 pcap3) := (hgrow4.cell_far _ (by simp; exact Nat.lt_succ_of_lt HLT'.out) HNT.out).trans (tab3A _); clear hgrow4 hown4 hat4))
          all_goals
            go_wp2_with fail
            go_roundg (l.length - (q + 1))
            case measure => have h1 := HQQ.out; have h2 := HQ.out; omega
            case rel =>
              have R := HI.out.round HQ.out (.inl rfl) HGT.out HLw.out HX.out HC3.out (v := .int .i64 ((n : Int) + 1 + (nodesL (l.take q) : Nat))) (by simp [natV]) HG4.out HO4.out HAT4.out
              exact ⟨q + 1, g3, pb3, pcap3, _, _, by have := HQ.out; omega, by go_num, hle2.trans HC3.out.step.le, R⟩
        · go_wp2_with fail
          go_ret
          obtain rfl : q = l.length := by omega
          exact HI.out.post

theorem add_any {g : G} {r : CRow} {c : Core} (h : CoreV g r c) : ∀ (g' : G) (tb : Nat) (sv pv : Value) (n : Nat) (xs : List Value) (w : World), g.Le g' → Fut g' w → w.heap[tb]? = some (.cells #[pv, sv, .slice none 0 0] 108) → w.ownsRow 0 133 8 pv n xs → n + nodes c ≤ 100000 → g'.blk tb = none →
    (∀ k, pv.ownBlock = some k → g'.blk k = none ∧ k ≠ tb) → Calls Try.prog 54 #[.pointer (some ⟨tb, 0, none⟩), r.val] w (AddPost g' w tb sv pv n xs c) := by
  induction h with
  | nil k s n0 hk hs hn0 ao cp =>
    intro g' tb sv pv n xs w hle hw ht ho hn hgt hpb
    exact add_row k s n0 ao 0 cp [] (.inl ⟨rfl, rfl⟩) tb sv pv n xs w hw ht ho hn hgt hpb
  | row k s n0 hk hs hn0 b off cap l f hcap hm hc _ ih =>
    intro g' tb sv pv n xs w hle hw ht ho hn hgt hpb
    exact add_row k s n0 _ l.length cap l (.inr ⟨b, off, f, rfl, rfl, hcap, hm, fun i hi => (hc i hi).le hle, fun i hi g2 tb sv pv n xs w h2 => ih i hi g2 tb sv pv n xs w (hle.trans h2)⟩) tb sv pv n xs w hw ht ho hn hgt hpb
end Go.Proofs.Ytjodmimnbpgfcaa

/- New -/
namespace Go.Proofs.Ytjodmimnbpgfcaa
open Go.RowKit Go.IntWalk

def NewPost (g : G) (w : World) (c : Core) (s : List UInt8) (e : Ending) (w' : World) : Prop :=
  ∃ g' T M, e = .returned (.pointer (some ⟨T.tb, 0, none⟩)) ∧ Grow g w g' w' ∧ T.c = c ∧ T.s = s ∧ TabP g' T ∧ TabM g' M T w' ∧ ∀ b, M b → w.heap.size ≤ b

theorem row_cells {ys cs : List Value} {i : Nat} (h : (ys.drop (8 * i)).take 8 = cs) (j : Nat) (hj : j < 8) (v : Value) (hv : cs[j]? = some v) : ys[i * 8 + j]? = some v := by
  rw [← h, List.getElem?_take, if_pos hj, List.getElem?_drop] at hv
  rw [show i * 8 + j = 8 * i + j by omega]; exact hv

theorem new_post {g g1 g3 : G} {w W w2 w4 : World} {c : Core} {s : List UInt8} {sa : Option Addr} {sl sc pb3 pcap3 : Nat} {ys3 : List Value} {o : Obj}
    (hG : Grow g w g1 W) (hsl : SliceV g sa sl sc (s.map byteV)) (hs : s.length ≤ 256) (hwf : wfC c = true) (hn : nodes c ≤ 100000) (hsets : ∀ (i : Nat) (x : Core), (flatC c)[i]? = some x → x.set.wf)
    (hS3 : Step (fun b => b = W.heap.size ∨ Value.ownBlock (.slice none 0 0) = some b) g1 (W.alloc o) g3 w2)
    (hT3 : w2.heap[W.heap.size]? = some (.cells #[.slice (some ⟨pb3, 0, none⟩) (nodes c) pcap3, .slice sa sl sc, .slice none 0 0] 108))
    (hO3 : w2.ownsRow 0 133 8 (.slice (some ⟨pb3, 0, none⟩) (nodes c) pcap3) (nodes c) ys3)
    (hP3 : ∀ k, Value.ownBlock (.slice (some ⟨pb3, 0, none⟩) (nodes c) pcap3) = some k → g3.blk k = none ∧ k ≠ W.heap.size ∧ (Value.ownBlock (.slice none 0 0) = some k ∨ (W.alloc o).heap.size ≤ k))
    (hR3 : ∀ i x, (flatC c)[i]? = some x → PartAt g3 ys3 i i x)
    (hG4 : w2.grownBy w4 none) (hO4 : w4.ownsRow 0 134 1 (.slice (some ⟨w2.heap.size, 0, none⟩) (nodes c) (nodes c)) (nodes c) (madeCells (Value.slice none 0 0).cells (nodes c * 1)).toList) :
    NewPost g w c s (.returned (.pointer (some ⟨W.heap.size, 0, none⟩))) (w4.setCell ⟨W.heap.size, 2, none⟩ (.slice (some ⟨w2.heap.size, 0, none⟩) (nodes c) (nodes c))) := by
  obtain ⟨p1, p2, p3⟩ := hP3 pb3 rfl
  have p4 : W.heap.size + 1 ≤ pb3 := by
    rcases p3 with h | h
    · simp [Value.ownBlock] at h
    · simpa using h
  have hlt2 := lt_of_block hT3
  have hlt3 := (hO3.lt pb3 rfl).2
  have hsz2 := hS3.size
  have hszG := hG.size
  simp at hsz2
  have hw4 : w4.heap[W.heap.size]? = _ := (hG4.block _ hlt2 (by simp)).trans hT3
  have hgn : g3.blk W.heap.size = none := hS3.new _ (hG.fut.none_of_size (Nat.le_refl _)) (by simp)
  generalize hw5 : w4.setCell ⟨W.heap.size, 2, none⟩ (.slice (some ⟨w2.heap.size, 0, none⟩) (nodes c) (nodes c)) = w5
  have h5t : w5.heap[W.heap.size]? = some (.cells #[.slice (some ⟨pb3, 0, none⟩) (nodes c) pcap3, .slice sa sl sc, .slice (some ⟨w2.heap.size, 0, none⟩) (nodes c) (nodes c)] 108) := by
    rw [← hw5]; exact heap_setCell_same hw4 _
  have h5o : ∀ b, b ≠ W.heap.size → w5.heap[b]? = w4.heap[b]? := fun b hb => by rw [← hw5]; exact Below.heap_setCell _ _ _ _ hb
  -- the steps
  have hS : Step (fun b => b = W.heap.size) g w g3 w2 := ((hG.step _).alloc o).trans hS3 (fun b hb => by
    rcases hb with hb | hb
    · exact .inl hb
    · simp [Value.ownBlock] at hb)
  have hS4 : Step (fun b => b = W.heap.size) g w g3 w5 := by
    rw [← hw5]
    exact (hS.grown hG4 (by intro k hk; cases hk)).setCell hgn (.inl rfl) _
  have hGr : Grow g w g3 w5 := ⟨hS4.le, hS4.fut, hS4.size, fun b hb => hS4.old b hb (by omega), hS4.new⟩
  -- the parts
  obtain ⟨cur, hcur, hcl⟩ : ∃ cur, w2.heap[pb3]? = some (.cells cur 133) ∧ ∀ j v, j < nodes c * 8 → ys3[j]? = some v → cur[j]? = some v := by
    rcases hO3.2 with ⟨h, _⟩ | ⟨k, cap, cur, h, _, h2, _, _, _, h6⟩
    · simp at h
    · simp only [Value.slice.injEq, Option.some.injEq, Addr.mk.injEq, and_true, true_and] at h
      obtain ⟨rfl, rfl⟩ := h
      refine ⟨cur, h2, fun j v hj hv => ?_⟩
      rw [← h6, List.getElem?_take, if_pos hj] at hv
      simpa using hv
  have h5p : w5.heap[pb3]? = some (.cells cur 133) := (h5o _ p2).trans ((hG4.block _ hlt3 (by simp)).trans hcur)
  have hK1 := hGr.keep h5p (by omega) p1
  have hne : pb3 ≠ W.heap.size := p2
  have hK2 := hK1.keep h5t (by omega) (by simp [G.add, Ne.symm hne]; exact hgn)
  generalize hg' : (g3.add pb3 (.cells cur 133)).add W.heap.size (.cells #[.slice (some ⟨pb3, 0, none⟩) (nodes c) pcap3, .slice sa sl sc, .slice (some ⟨w2.heap.size, 0, none⟩) (nodes c) (nodes c)] 108) = g' at hK2
  have hle3 : g3.Le g' := by
    rw [← hg']
    exact (G.le_add p1).trans (G.le_add (by simp [G.add, Ne.symm hne]; exact hgn))
  have hgp : g'.blk pb3 = some (.cells cur 133) := by rw [← hg']; simp [G.add, hne]
  have hgt : g'.blk W.heap.size = some (.cells #[.slice (some ⟨pb3, 0, none⟩) (nodes c) pcap3, .slice sa sl sc, .slice (some ⟨w2.heap.size, 0, none⟩) (nodes c) (nodes c)] 108) := by rw [← hg']; simp [G.add]
  obtain ⟨es, hes, hesz, hez⟩ : ∃ es, w4.heap[w2.heap.size]? = some (.cells es 134) ∧ es.size = nodes c ∧ ∀ (i : Nat) (v : Value), es[i]? = some v → v = .slice none 0 0 := by
    rcases hO4.2 with ⟨h, _⟩ | ⟨k, cap, cur, h, _, h2, _, _, h5, h6⟩
    · simp at h
    · simp only [Value.slice.injEq, Option.some.injEq, Addr.mk.injEq, and_true, true_and] at h
      obtain ⟨rfl, rfl⟩ := h
      refine ⟨cur, h2, by simpa using h5, fun i v hv => ?_⟩
      have hi : i < nodes c := by
        have := (Array.getElem?_eq_some_iff.1 hv).1
        omega
      have h7 : (cur.toList.take (nodes c * 1))[i]? = some v := by
        rw [List.getElem?_take, if_pos (by omega)]; simpa using hv
      rw [h6] at h7
      simp [madeCells, Value.cells] at h7
      obtain ⟨a, _, h8⟩ := h7
      rw [Nat.mod_one] at h8
      exact h8.symm
  refine ⟨g', ⟨W.heap.size, pb3, pcap3, w2.heap.size, sa, sl, sc, s, c⟩, fun b => b = w2.heap.size, rfl, hK2, rfl, rfl, ⟨hgt, hsl.le (hK2.le), ?_, hwf, hn, hs, hsets⟩, ⟨⟨es, ?_, hesz, ?_, ?_⟩, rfl, ?_⟩, ?_⟩
  · intro i x hx
    obtain ⟨r, a, n, cap, h1, h2, h3, h4⟩ := hR3 i x hx
    have hi : i < nodes c := by
      have := (List.getElem?_eq_some_iff.1 hx).1
      rw [flatC_len] at this; exact this
    have hc : ∀ j v, j < 8 → (partRow r (.slice a n cap))[j]? = some v → ∀ w', Fut g' w' → w'.cell? ⟨pb3, i * 8 + j, none⟩ = some v := fun j v hj hv =>
      fut_cell hgp _ _ (hcl _ _ (by omega) (row_cells h3 j hj v hv))
    exact ⟨r, a, n, cap, h1, h2, ⟨hc 0 _ (by omega) rfl, hc 1 _ (by omega) rfl, hc 2 _ (by omega) rfl, hc 3 _ (by omega) rfl, hc 4 _ (by omega) rfl, hc 5 _ (by omega) rfl, hc 6 _ (by omega) rfl⟩, hc 7 _ (by omega) rfl, h4.le hle3⟩
  · exact (h5o w2.heap.size (by omega)).trans hes
  · intro i x v _ hv
    exact .inl (hez i v hv)
  · intro i j rb n1 c1 n2 c2 hi _
    have := hez i _ hi
    simp at this
  · rintro b rfl
    refine ⟨?_, ?_⟩
    · rw [← hg']
      have : g3.blk w2.heap.size = none := hS3.fut.none_of_size (Nat.le_refl _)
      simp [G.add, show w2.heap.size ≠ W.heap.size by omega, show w2.heap.size ≠ pb3 by omega, this]
    · exact lt_of_block ((h5o _ (by omega)).trans hes)
  · rintro b rfl
    omega

set_option maxHeartbeats 1000000 in
theorem new_any {g : G} {r : CRow} {c : Core} (h : CoreV g r c) {s : List UInt8} {sa : Option Addr} {sl sc : Nat} (hsl : SliceV g sa sl sc (s.map byteV)) (hs : s.length ≤ 256) (hwf : wfC c = true) (w : World) (hw : Fut g w) (hn : nodes c ≤ 100000) :
    Calls Try.prog 32 #[r.val, .slice sa sl sc] w (NewPost g w c s) := by
  obtain ⟨g1, hg, c0, c1, c2, c3, c4, c5, c6⟩ := box_core hw r
  have HA := hid (add_any h)
  have HG := hid hg
  have hf1 := hg.fut
  clear hg
  generalize hW : w.alloc (.cells #[.int .i64 r.k, .int .u64 r.s.a, .int .u64 r.s.b, .int .u64 r.s.c, .int .u64 r.s.d, .int .i64 r.n, .slice r.a r.len r.cap] 27) = W at HG hf1
  have hcall := fun h1 h2 h3 => HA.out g1 W.heap.size (.slice sa sl sc) (.slice none 0 0) 0 [] (W.alloc (.cells #[.slice none 0 0, .slice sa sl sc, .slice none 0 0] 108)) HG.out.le (hf1.alloc _) h1 (World.ownsRow_nil _ _ _ _) h2 h3 (by intro k hk; simp [Value.ownBlock] at hk)
  have fa := fun o => hf1.alloc o
  unfold CRow.val at *
  go_enter Try.func32, Try.ntmps32
  have hz := heap_alloc_new W (.cells #[.slice none 0 0, .slice sa sl sc, .slice none 0 0] 108)
  have HZ := hid hz
  clear hz
  have hnp := nodes_pos c
  obtain ⟨i1, hi1, hy0, hy1, hy2⟩ := info_parts Try.info134
  go_wp2_with (first | (go_at_call 54; refine (hcall HZ.out (by omega) (hf1.none_of_size (Nat.le_refl _))).mono ?_; rintro e w2 ⟨rfl, g3, pv3, ys3, hs3, ht3, ho3, hp3, hl3, hr3⟩; simp only [Nat.zero_add, List.nil_append] at ho3 hr3; obtain ⟨pb3, pcap3, rfl, -, hlt3⟩ := ho3.form (by omega); have tab3 := heap_cell ht3 0 _ rfl; have tab4 := heap_cell ht3 2 _ rfl; have fr3 := heap_free ht3 2; have hlt4 := lt_of_block ht3; have HS3 := hid hs3; have HT3 := hid ht3; have HO3 := hid ho3; have HP3 := hid hp3; have HL3 := hid hl3; have HR3 := hid hr3; clear hs3 ht3 ho3 hp3 hl3 hr3) | (at_make; refine wpList_make_full w2 rfl (.tmp 17) (.tmp 17) 106 rfl 0 134 i1 (.slice none 0 0) 1 Try.underlying106 hi1 hy0 hy1 .i64 .i64 _ _ (nodes c) rfl rfl rfl rfl (by rw [hy2]; omega) (by unfold maxLen; omega) (Nat.zero_le _) ?_; intro w4 hown4 hg4; have tab5 : w4.cell? ⟨W.heap.size, 2, none⟩ = some (.slice none 0 0) := (hg4.cell_far _ hlt4 (by simp)).trans tab4; have fr5 : w4.frozen? ⟨W.heap.size, 2, none⟩ = false := (hg4.frozen_far _ hlt4 (by simp)).trans fr3; have HO4 := hid hown4; have HG4 := hid hg4; clear hown4 hg4))
  go_ret
  exact new_post HG.out hsl hs hwf hn (fun i x hx => h.sets x (List.mem_of_getElem? hx)) HS3.out HT3.out HO3.out HP3.out (fun i x hx => HR3.out i x hx) HG4.out HO4.out
end Go.Proofs.Ytjodmimnbpgfcaa

/- Some -/
namespace Go.Proofs.Ytjodmimnbpgfcaa
open Go.RowKit Go.IntWalk

/-- The first values, one more than most. -/
def someT (most : Int) : Val → Nat → List Val → Bool × List Val := fun v _ l => (decide ((l.length : Int) + 1 ≤ most), l ++ [v])
def someF (c : Core) (s : List UInt8) (most : Int) : List Val := (runT (someT most) (ways s c.re 0 (fun t => t == s.length)) []).2

def ValsPost (g : G) (w : World) (l : List Val) (e : Ending) (w' : World) : Prop := ∃ g' a cap, e = .returned (.slice a l.length cap) ∧ Grow g w g' w' ∧ ValsV g' a l.length cap l

/-- The list at the end becomes persistent. -/
theorem some_done {T : Tab} {lb : Nat} {g g3 g4 : G} {M M4 : Nat → Prop} {l : List Val} {w w3 w4 : World} (hg : Grow g w g3 w3) (hM : ∀ b, M b → w.heap.size ≤ b) (hs : IStep g3 M w3 g4 M4 w4) (hI : LI T lb g4 M4 l w4) :
    ∃ a cap, w4.cell? ⟨lb, 0, none⟩ = some (.slice a l.length cap) ∧ Fut g4 w4 ∧ ValsPost g w l (.returned (.slice a l.length cap)) w4 := by
  obtain ⟨M1, v, rs, h⟩ := hI
  have hst : Step (fun _ => False) g w g4 w4 := (hg.step fun _ => False).trans hs.step (fun b hb => .inr (hM b hb))
  have hk : ∀ k, v.ownBlock = some k → w.heap.size ≤ k ∧ g4.blk k = none := fun k hk => by
    have hm := (h.mem k).2 (.inr (.inr hk))
    refine ⟨?_, (h.out k hm).1⟩
    rcases hs.sub k hm with h1 | h1
    · exact hM k h1
    · exact Nat.le_trans hg.size h1
  obtain ⟨g5, a, cap, rfl, h1, -, h2, -⟩ := vals_keep hst h.own hk h.rows h.nil
  exact ⟨a, cap, heap_cell h.box 0 _ rfl, h.fut, g5, a, cap, rfl, h1.grow, h2⟩

theorem li_start {T : Tab} {lb : Nat} {g3 : G} {M1 : Nat → Prop} {w3 : World} (hf : Fut g3 w3) (ht : TabM g3 M1 T w3) (hb : w3.heap[lb]? = some (.cells #[.slice none 0 0] 41)) (hn : ¬ M1 lb) (hg : g3.blk lb = none) : LI T lb g3 (fun b => M1 b ∨ b = lb) [] w3 := by
  refine ⟨M1, .slice none 0 0, [], hf, ht, hb, World.ownsRow_nil _ _ _ _, ⟨rfl, fun i r v h => by simp at h⟩, fun b => by simp [Value.ownBlock], hn, fun b h => by simp [Value.ownBlock] at h, ?_, fun _ => rfl⟩
  rintro b (h | rfl)
  · exact ht.out b h
  · exact ⟨hg, lt_of_block hb⟩

set_option maxHeartbeats 1000000 in
theorem some_any {g : G} {r : CRow} {c : Core} (h : CoreV g r c) {s : List UInt8} {sa : Option Addr} {sc : Nat} (hsl : SliceV g sa s.length sc (s.map byteV)) (hs : s.length ≤ 256) (hwf : wfC c = true) (hn : nodes c ≤ 100000) {most : Int} (hm0 : 0 ≤ most) (hm : most ≤ 2000) (w : World) (hw : Fut g w) :
    Calls Try.prog 35 #[r.val, .slice sa s.length sc, .int .i64 most] w (ValsPost g w (someF c s most)) := by
  obtain ⟨g1, hg1, c0, c1, c2, c3, c4, c5, c6⟩ := box_core hw r
  obtain ⟨g2, hg2, e1, e2⟩ := box2 hg1.fut (.cells #[.slice sa s.length sc] 28) (.cells #[.int .i64 most] 3)
  have s1 := fut_cell e1 0 _ rfl
  have s2 := fut_cell e2 0 _ rfl
  simp only [World.size_alloc] at e1 e2 s1 s2
  have hlg : ∀ w', Fut g2 w' → Fut g1 w' := fun w' h => h.le hg2.le
  have HG := hid (hg1.trans hg2)
  have hf2 := hg2.fut
  have HE := hid (And.intro e1 e2)
  generalize hW : ((w.alloc (.cells #[.int .i64 r.k, .int .u64 r.s.a, .int .u64 r.s.b, .int .u64 r.s.c, .int .u64 r.s.d, .int .i64 r.n, .slice r.a r.len r.cap] 27)).alloc (.cells #[.slice sa s.length sc] 28)).alloc (.cells #[.int .i64 most] 3) = W at HG hf2
  have hWs : W.heap.size = w.heap.size + 1 + 1 + 1 := by rw [← hW]; simp only [World.size_alloc]
  have hnew := new_any (h.le HG.out.le) (hsl.le HG.out.le) hs hwf (W.alloc (.cells #[.slice none 0 0] 41)).drew (hf2.alloc _).drew hn
  have fa := fun o => hf2.alloc o
  unfold CRow.val at *
  go_enter Try.func35, Try.ntmps35
  go_wp2_with fail
  have hlbs : (W.alloc (.cells #[.slice none 0 0] 41)).drew.heap[W.heap.size]? = some (.cells #[.slice none 0 0] 41) := heap_alloc_new W _
  have hgb : g2.blk W.heap.size = none := hf2.none_of_size (Nat.le_refl _)
  have hgA : Grow g w g2 (W.alloc (.cells #[.slice none 0 0] 41)).drew := (HG.out.alloc _).drew
  rw [hWs] at hlbs hgb
  have hfb := (hf2.alloc (.cells #[.slice none 0 0] 41)).drew
  have HB := hid hlbs
  have HGB := hid hgb
  have HGA := hid hgA
  have HSZ := hid hWs
  have HNEW := hid hnew
  clear hlbs hgb hgA hWs hnew
  go_region_held3 (fun w' => Fut g2 w') (first | exact Fut.drew (by assumption) | exact Fut.alloc (by assumption) _ | assumption) (first | (go_at_call 32; refine HNEW.out.mono ?_; rintro e w3 ⟨g3, T, M1, rfl, hg3, hTc, hTs, htp, htm, hM1⟩; have HG3 := hid hg3; have HTC := hid hTc; have HTS := hid hTs; have HTP := hid htp; have HTM := hid htm; have HM1 := hid hM1; have hf3 := hg3.fut.le hg3.le; clear hg3 hTc hTs htp htm hM1) | fail)
  have hc := HTC.out
  have hs2 := HTS.out
  subst hc
  subst hs2
  have hf3g := HG3.out.fut
  have hlb3 : w.heap.size + 1 + 1 + 1 < w3.heap.size := by
    have h1 := HG3.out.size
    have h2 : (W.alloc (.cells #[.slice none 0 0] 41)).drew.heap.size = W.heap.size + 1 := World.size_alloc _ _
    have h3 := HSZ.out
    omega
  have hlbW : w.heap.size + 1 + 1 + 1 < (W.alloc (.cells #[.slice none 0 0] 41)).drew.heap.size := by
    have h2 : (W.alloc (.cells #[.slice none 0 0] 41)).drew.heap.size = W.heap.size + 1 := World.size_alloc _ _
    have h3 := HSZ.out
    omega
  obtain ⟨g4, hg4, hmk⟩ : ∃ g4, Grow g3 w3 g4 (w3.alloc (.cells #[.pointer (some ⟨T.tb, 0, none⟩), .int .i64 (T.s.length : Nat)] 113)) ∧ g4.blk w3.heap.size = some (.cells #[.pointer (some ⟨T.tb, 0, none⟩), .int .i64 (T.s.length : Nat)] 113) :=
    ⟨_, (Grow.refl hf3g).box _, G.add_same _ _ _⟩
  have hS := li_sys (lb := w.heap.size + 1 + 1 + 1) (HTP.out.le hg4.le) hmk
  have hI4 : LI T (w.heap.size + 1 + 1 + 1) g4 (fun b => M1 b ∨ b = w.heap.size + 1 + 1 + 1) [] (w3.alloc (.cells #[.pointer (some ⟨T.tb, 0, none⟩), .int .i64 (T.s.length : Nat)] 113)) := by
    refine li_start hg4.fut (HTM.out.le (hg4.step fun _ => False) (fun _ _ => id)) ?_ ?_ ?_
    · rw [hg4.old _ hlb3, HG3.out.old _ hlbW]; exact HB.out
    · intro h1; have := HM1.out _ h1; omega
    · exact hg4.new _ (HG3.out.new _ HGB.out hlbW) hlb3
  have hle24 := HG3.out.le.trans hg4.le
  have hcall := each_any (live := fun l : List Val => (l.length : Int) ≤ most) hS (x := T.c) (i := 0) (by cases T.c; rfl) g4 _ [] _ 0 _ _ (fun t => t == T.s.length) (someT most) (fun _ => True) (G.Le.refl _) hI4 (by simpa using hm0) (Nat.zero_le _) (some1_impl hS (hle24.blk _ _ HE.out.1)) (some2_impl hS hm (hle24.blk _ _ HE.out.2) _) (fun _ _ _ => trivial)
  have HG4 := hid hg4
  have hf4 := hg4.fut.le hle24
  clear hg4 hI4
  go_wp2_with (first | (go_at_call 57; refine Calls.mono (P := Try.prog) (by simpa using hcall) ?_; rintro e w5 hp; obtain ⟨rfl, g5, M5, h5, h6, -⟩ := hp; obtain ⟨a, cap, hcl, hf5, hpost⟩ := some_done ((HGA.out.trans HG3.out).trans HG4.out) (fun b hb => by rcases hb with hb | hb; have h1 := HM1.out b hb; have h2 := HGA.out.size; omega; omega) h5 h6; have HPO := hid hpost; clear h5 h6 hpost hcall) | fail)
  go_ret
  exact HPO.out
end Go.Proofs.Ytjodmimnbpgfcaa
