/- slices.ContainsFunc of numbers; walk's closure, walked. A library text: no claim is stated here. every's walk: the state that it turns. A library text: no claim is stated here. every's walk: append(had, b), and the way back. A library text: no claim is stated here. every's walk: laws for the walk. A library text: no claim is stated here. -/
import Derived.Test.YtjodmimnbpgfcaaS21
import Derived.Test.YtjodmimnbpgfcaaS16
import Derived.Test.YtjodmimnbpgfcaaS22

/- Cont -/
namespace Go.Proofs.Ytjodmimnbpgfcaa
open Go.RowKit Go.IntWalk

set_option maxRecDepth 100000 in
set_option maxHeartbeats 2000000 in
theorem indexInts {g : G} {a : Option Addr} {n c : Nat} {l : List Nat} (hs : SliceV g a n c (l.map natV)) (hl : l.length ≤ 100000) (F : Nat) (caps : Array Value) (hF : Callable F) (p : Nat → Bool)
    (hcall : ∀ v, v ∈ l → ∀ w, Fut g w → Calls Try.prog F (#[.int .i64 (v : Nat)] ++ caps) w fun e w' => e = .returned (.bool (p v)) ∧ Grow g w g w') (w : World) (hw : Fut g w) :
    Calls Try.prog 72 #[.slice a n c, .func (.func F) #[] caps] w fun e w' => ∃ r : Int, e = .returned (.int .i64 r) ∧ decide (r ≥ 0) = l.any p ∧ Grow g w g w' := by
  obtain ⟨hn, -, -⟩ := hs.length
  rw [List.length_map] at hn
  subst hn
  have HS := hid hs
  clear hs
  unfold Callable at hF
  go_enter Try.func72, Try.ntmps72
  go_wp2
  go_loopg [8] l.length (fun rem i wr => ∃ q, q + rem = l.length ∧ i = .int .i64 (q : Nat) ∧ Hid (Grow g w g wr) ∧ Hid (∀ j v, j < q → l[j]? = some v → p v = false))
  case atStart => exact ⟨0, by omega, rfl, Grow.refl hw, fun j _ h => by omega⟩
  case round =>
    obtain ⟨q, hq, rfl, HG, HNO⟩ := hrel
    have hfr := HG.out.fut
    by_cases hlt : q < l.length
    · obtain ⟨v, hv⟩ : ∃ v, l[q]? = some v := ⟨_, List.getElem?_eq_getElem hlt⟩
      obtain ⟨ob, oo, hoa, hoc⟩ := HS.out.get (i := q) (by simpa using hlt)
      subst hoa
      have hcell := hoc q (.int .i64 (v : Nat)) (by simp [natV, hv])
      have IH := hcall v (List.mem_of_getElem? hv) wr hfr
      have HV := hid hv
      have HQ := hid hq
      clear hoc hv
      cases hp : p v with
      | true =>
        rw [hp] at IH
        have HP := hid hp
        clear hp
        go_wp2_with (with_reducible refine (IH.mono ?_); rintro e w1 ⟨rfl, hg2⟩)
        go_ret
        refine ⟨q, rfl, ?_, HG.out.trans hg2⟩
        rw [List.any_eq_true.2 ⟨v, List.mem_of_getElem? HV.out, HP.out⟩]
        simp
      | false =>
        rw [hp] at IH
        have HP := hid hp
        clear hp
        go_wp2_with (with_reducible refine (IH.mono ?_); rintro e w1 ⟨rfl, hg2⟩)
        go_roundg (l.length - (q + 1))
        case measure => have h2 := HQ.out; omega
        case rel =>
          refine ⟨q + 1, by omega, by go_num, HG.out.trans hg2, fun j u hj hu => ?_⟩
          by_cases e : j = q
          · subst e
            rw [HV.out] at hu
            cases hu
            exact HP.out
          · exact HNO.out j u (by omega) hu
    · go_wp2_with fail
      go_ret
      refine ⟨-1, rfl, ?_, HG.out⟩
      rw [any_miss fun j v hj => HNO.out j v (by have := (List.getElem?_eq_some_iff.1 hj).1; omega) hj]
      rfl

theorem containsInts {g : G} {a : Option Addr} {n c : Nat} {l : List Nat} (hs : SliceV g a n c (l.map natV)) (hl : l.length ≤ 100000) (F : Nat) (caps : Array Value) (hF : Callable F) (p : Nat → Bool)
    (hcall : ∀ v, v ∈ l → ∀ w, Fut g w → Calls Try.prog F (#[.int .i64 (v : Nat)] ++ caps) w fun e w' => e = .returned (.bool (p v)) ∧ Grow g w g w') (w : World) (hw : Fut g w) :
    Calls Try.prog 49 #[.slice a n c, .func (.func F) #[] caps] w fun e w' => e = .returned (.bool (l.any p)) ∧ Grow g w g w' := by
  have h := indexInts hs hl F caps hF p hcall w hw
  clear hcall
  go_enter Try.func49, Try.ntmps49
  go_wp2_with (with_reducible refine (h.mono ?_); rintro e w1 ⟨r, rfl, hr, hg2⟩)
  go_ret
  exact ⟨rfl, hg2⟩

set_option maxRecDepth 100000 in
set_option maxHeartbeats 2000000 in
theorem walk1_any {g : G} {wb b lc : Nat} {L : List Nd} {S : List UInt8} {cans : List (List Bool)} {sa : Option Addr} {sc : Nat} {ca : Option Addr} {cc : Nat} {vs : List Value} (hC : WebC g wb b lc L S cans sa sc ca cc vs) {k i : Nat} (hk : cans[k]? = some (canRow L S k)) (hi : i < L.length) {b1 b2 : Nat}
    (hb1 : g.blk b1 = some (.cells #[.pointer (some ⟨wb, 0, none⟩)] 67)) (hb2 : g.blk b2 = some (.cells #[.int .i64 (k : Nat)] 3)) (w : World) (hw : Fut g w) :
    Calls Try.prog 50 #[.int .i64 i, .pointer (some ⟨b1, 0, none⟩), .pointer (some ⟨b2, 0, none⟩)] w fun e w' => e = .returned (.bool (CanB L S k i)) ∧ Grow g w g w' := by
  have hrow : (canRow L S k)[i]? = some (CanB L S k i) := by
    unfold canRow
    rw [List.getElem?_map, List.getElem?_range hi]
    rfl
  obtain ⟨cb, co, rb, ro, rc, rfl, h1c, h2c⟩ := hC.look hk hrow
  have k3 := hC.c3
  have x1 := fut_cell hb1 0 _ rfl
  have x2 := fut_cell hb2 0 _ rfl
  have hkc : (k : Int) < (cans.length : Int) := by have := (List.getElem?_eq_some_iff.1 hk).1; omega
  have hrl : (i : Int) < ((canRow L S k).length : Int) := by have := (List.getElem?_eq_some_iff.1 hrow).1; omega
  generalize (canRow L S k).length = rl at hrl h1c
  generalize CanB L S k i = v at *
  clear hC hk hrow hb1 hb2
  have hwd := hw.drew
  go_enter Try.func50, Try.ntmps50
  go_wp2_with fail
  go_region
  all_goals go_wp2_with fail
  all_goals go_ret
  all_goals exact ⟨rfl, (Grow.refl hw).drew⟩
end Go.Proofs.Ytjodmimnbpgfcaa

/- WalkS -/
namespace Go.Proofs.Ytjodmimnbpgfcaa
open Go.RowKit Go.IntWalk

/-- The texts so far, in the cell of 'out'. -/
structure OS (g : G) (ob : Nat) (ws : List (List UInt8)) (w : World) (v : Value) (vals : List Value) : Prop where
  fut : Fut g w
  box : w.heap[ob]? = some (.cells #[v] 33)
  own : w.ownsRow 0 28 1 v ws.length vals
  rl : vals.length = ws.length
  rows : ∀ (i : Nat) (u : List UInt8) (x : Value), ws[i]? = some u → vals[i]? = some x → ∃ a c, x = .slice a u.length c ∧ SliceV g a u.length c (u.map byteV)
  ne : v.ownBlock ≠ some ob
  gob : g.blk ob = none
  gv : ∀ k, v.ownBlock = some k → g.blk k = none
  nil : ws = [] → v = .slice none 0 0

/-- The text so far, in a row of its own. -/
structure HS (g : G) (ob : Nat) (w : World) (v hv : Value) (had : List UInt8) : Prop where
  own : w.ownsRow 0 5 1 hv had.length (had.map byteV)
  ne : hv.ownBlock ≠ some ob
  nv : ∀ k, hv.ownBlock = some k → v.ownBlock ≠ some k ∧ g.blk k = none

/-- What walk may turn. -/
def WM (ob : Nat) (v hv : Value) (b : Nat) : Prop := b = ob ∨ v.ownBlock = some b ∨ hv.ownBlock = some b

/-- What walk leaves. -/
structure WSt (g0 : G) (w0 : World) (ob : Nat) (v0 hv : Value) (had : List UInt8) (ws : List (List UInt8)) (g : G) (w : World) (v : Value) (vals : List Value) : Prop where
  step : Step (WM ob v0 hv) g0 w0 g w
  o : OS g ob ws w v vals
  h : HS g ob w v hv had
  sub : ∀ k, v.ownBlock = some k → v0.ownBlock = some k ∨ w0.heap.size ≤ k
def WPost (g0 : G) (w0 : World) (ob : Nat) (v0 hv : Value) (had : List UInt8) (r : Bool × List (List UInt8)) (e : Ending) (w : World) : Prop :=
  e = .returned (.bool r.1) ∧ ∃ g v vals, WSt g0 w0 ob v0 hv had r.2 g w v vals

section
variable {g0 g g' : G} {w0 w w' : World} {ob : Nat} {v0 v hv : Value} {had : List UInt8} {ws : List (List UInt8)} {vals : List Value}

theorem OS.kids (h : OS g ob ws w v vals) (hg : Grow g w g' w') : OS g' ob ws w' v vals :=
  have hlt := lt_of_block h.box
  ⟨hg.fut, (hg.old ob hlt).trans h.box, ownsRow_same h.own (fun k hk => hg.old k (h.own.lt k hk).2), h.rl, fun i u x a b => by obtain ⟨c, d, e, f⟩ := h.rows i u x a b; exact ⟨c, d, e, f.le hg.le⟩, h.ne, hg.new _ h.gob hlt, fun k hk => hg.new _ (h.gv k hk) (h.own.lt k hk).2, h.nil⟩
theorem HS.kids (h : HS g ob w v hv had) (hg : Grow g w g' w') : HS g' ob w' v hv had :=
  ⟨ownsRow_same h.own (fun k hk => hg.old k (h.own.lt k hk).2), h.ne, fun k hk => ⟨(h.nv k hk).1, hg.new _ (h.nv k hk).2 (h.own.lt k hk).2⟩⟩
theorem WSt.kids (h : WSt g0 w0 ob v0 hv had ws g w v vals) (hg : Grow g w g' w') : WSt g0 w0 ob v0 hv had ws g' w' v vals :=
  ⟨h.step.trans (hg.step _) (fun _ hb => .inl hb), h.o.kids hg, h.h.kids hg, h.sub⟩
theorem WSt.start (ho : OS g ob ws w v vals) (hh : HS g ob w v hv had) : WSt g w ob v hv had ws g w v vals :=
  ⟨Step.refl _ ho.fut, ho, hh, fun _ hk => .inl hk⟩
/-- One part behind the other. -/
theorem WSt.trans {g1 : G} {w1 : World} {v1 : Value} {vals1 : List Value} {ws1 : List (List UInt8)} (h : WSt g0 w0 ob v0 hv had ws1 g1 w1 v1 vals1) (k : WSt g1 w1 ob v1 hv had ws g w v vals) : WSt g0 w0 ob v0 hv had ws g w v vals := by
  refine ⟨h.step.trans k.step (fun b hb => ?_), k.o, k.h, fun b hb => ?_⟩
  · rcases hb with hb | hb | hb
    · exact .inl (.inl hb)
    · rcases h.sub b hb with h1 | h1
      · exact .inl (.inr (.inl h1))
      · exact .inr h1
    · exact .inl (.inr (.inr hb))
  · rcases k.sub b hb with h1 | h1
    · exact h.sub b h1
    · exact .inr (Nat.le_trans h.step.size h1)

/-- One text more. -/
theorem OS.push {u : List UInt8} {x : Value} {ua : Option Addr} {uc kb kcap : Nat} {w1 : World} {o : Obj} (h : OS g ob ws w v vals) (hx : x = .slice ua u.length uc) (hu : SliceV g ua u.length uc (u.map byteV))
    (hG : (w.alloc o).grownBy w1 v.ownBlock) (hO : w1.ownsRow 0 28 1 (.slice (some ⟨kb, 0, none⟩) (ws.length + 1) kcap) (ws.length + 1) (vals ++ [x])) (hA : v.ownBlock = some kb ∨ kb = (w.alloc o).heap.size) :
    Step (fun b => b = ob ∨ v.ownBlock = some b) g w g (w1.setCell ⟨ob, 0, none⟩ (.slice (some ⟨kb, 0, none⟩) (ws.length + 1) kcap)) ∧
    OS g ob (ws ++ [u]) (w1.setCell ⟨ob, 0, none⟩ (.slice (some ⟨kb, 0, none⟩) (ws.length + 1) kcap)) (.slice (some ⟨kb, 0, none⟩) (ws.length + 1) kcap) (vals ++ [x]) ∧ (v.ownBlock = some kb ∨ w.heap.size ≤ kb) := by
  have hlt := lt_of_block h.box
  have hsz : (w.alloc o).heap.size = w.heap.size + 1 := World.size_alloc _ _
  have hkb : kb ≠ ob ∧ g.blk kb = none := by
    rcases hA with h1 | h1
    · exact ⟨fun e => h.ne (by rw [h1, e]), h.gv kb h1⟩
    · exact ⟨by omega, h.fut.none_of_size (by omega)⟩
  have h1 : w1.heap[ob]? = some (.cells #[v] 33) :=
    (hG.block ob (by omega) (fun e => h.ne e.symm)).trans ((Below.heap_alloc _ _ _ hlt).trans h.box)
  have hS : Step (fun b => b = ob ∨ v.ownBlock = some b) g w g w1 := ((Step.refl _ h.fut).alloc o).grown hG (fun k hk => ⟨.inl (.inr hk), h.gv k hk⟩)
  have hS2 := hS.setCell (a := ⟨ob, 0, none⟩) h.gob (.inl (.inl rfl)) (.slice (some ⟨kb, 0, none⟩) (ws.length + 1) kcap)
  refine ⟨hS2, ⟨hS2.fut, heap_setCell_same h1 _, ?_, by simp [h.rl], ?_, ?_, h.gob, ?_, by simp⟩, ?_⟩
  · rw [List.length_append]
    exact ownsRow_setCell_ne hO (by simp [Value.ownBlock]; exact hkb.1) _
  · intro i u2 x2 a b
    rcases Nat.lt_trichotomy i ws.length with hi | hi | hi
    · rw [List.getElem?_append_left hi] at a
      rw [List.getElem?_append_left (by rw [h.rl]; exact hi)] at b
      exact h.rows i u2 x2 a b
    · subst hi
      rw [List.getElem?_append_right (Nat.le_refl _)] at a
      rw [List.getElem?_append_right (by rw [h.rl]; exact Nat.le_refl _)] at b
      simp only [h.rl, Nat.sub_self, List.getElem?_cons_zero, Option.some.injEq] at a b
      subst a b
      exact ⟨ua, uc, hx, hu⟩
    · rw [List.getElem?_eq_none (by simp; omega)] at a
      cases a
  · simp [Value.ownBlock]; exact hkb.1
  · intro k hk
    simp only [Value.ownBlock, Option.some.injEq] at hk
    subst hk
    exact hkb.2
  · rcases hA with h1 | h1
    · exact .inl h1
    · exact .inr (by omega)
end

theorem Try.info28 : (Try.prog.info? 28).map (fun i => (i.zero, i.size, i.bytes)) = some (some (.slice none 0 0), 1, 24) := by kernel_rfl

set_option maxRecDepth 100000 in
set_option maxHeartbeats 4000000 in
theorem texts1_any {g : G} {ob mb : Nat} {ws : List (List UInt8)} {w : World} {v : Value} {vals : List Value} (h : OS g ob ws w v vals) {most : Int} (hmb : g.blk mb = some (.cells #[.int .i64 most] 3)) (hws : ws.length ≤ 100000) {u : List UInt8} {ua : Option Addr} {uc : Nat} (hu : SliceV g ua u.length uc (u.map byteV)) :
    Calls Try.prog 31 #[.slice ua u.length uc, .pointer (some ⟨ob, 0, none⟩), .pointer (some ⟨mb, 0, none⟩)] w fun e w' => e = .returned (.bool (decide ((ws.length : Int) + 1 ≤ most))) ∧
      ∃ v' vals', Step (fun b => b = ob ∨ v.ownBlock = some b) g w g w' ∧ OS g ob (ws ++ [u]) w' v' vals' ∧ ∀ k, v'.ownBlock = some k → v.ownBlock = some k ∨ w.heap.size ≤ k := by
  obtain ⟨i2, hi2, hx0, hx1, hx2⟩ := info_parts Try.info28
  obtain ⟨va, vc, rfl⟩ := own_shape h.own
  have t0 := heap_cell h.box 0 _ rfl
  have hlt := lt_of_block h.box
  have hne : some ob ≠ (Value.slice va ws.length vc).ownBlock := fun e => h.ne e.symm
  have m0 := fut_cell hmb 0 _ rfl
  have f0 := heap_free h.box 0
  have HO := hid h
  have HU := hid hu
  have HN := hid hne
  have hco := h.own
  clear h hu hmb hne
  go_enter Try.func31, Try.ntmps31
  go_wp2_with (first | (at_builtin; refine wpList_append_lies _ rfl (.tmp 5) (.tmp 7) 33 rfl 0 28 i2 (.slice none 0 0) 1 24 Try.underlying33 hi2 hx0 hx1 hx2 rfl (by decide) (.slice va ws.length vc) ws.length vals rfl (hco.alloc _) ⟨w.heap.size, 0, none⟩ 1 1 [.slice ua u.length uc] rfl rfl (cell_one_new w _ 28) (by simp [Value.oneCell']) (by decide) (by unfold maxLen; omega) (by omega) (Nat.zero_le _) _ rfl ?_) | fail)
  intro kb kcap w6 hown6 hgrow6 hat6 hlt6
  have fz1 : w6.frozen? ⟨ob, 0, none⟩ = false := (hgrow6.frozen_far _ (by rw [World.size_alloc]; exact Nat.lt_succ_of_lt hlt) HN.out).trans ((World.frozen?_alloc_old _ _ _ (Nat.ne_of_lt hlt)).trans f0)
  have tz1 : w6.cell? ⟨ob, 0, none⟩ = some (.slice va ws.length vc) := (hgrow6.cell_far _ (by rw [World.size_alloc]; exact Nat.lt_succ_of_lt hlt) HN.out).trans ((World.cell?_alloc_lt _ _ _ hlt).trans t0)
  have hp := HO.out.push (x := .slice ua u.length uc) rfl HU.out hgrow6 hown6 (by rw [World.size_alloc]; exact hat6)
  have p0 := heap_cell hp.2.1.box 0 _ rfl
  have hf7 := hp.1.fut
  have HP := hid hp
  clear hp hown6 hgrow6 hat6 hlt6 hco HO f0 t0
  go_wp2_with fail
  go_ret
  exact ⟨rfl, _, _, HP.out.1, HP.out.2.1, fun k hk => by simp only [Value.ownBlock, Option.some.injEq] at hk; subst hk; exact HP.out.2.2⟩
end Go.Proofs.Ytjodmimnbpgfcaa

/- WalkH -/
namespace Go.Proofs.Ytjodmimnbpgfcaa
open Go.RowKit Go.IntWalk

/-- What append(had, b) leaves. -/
structure AppP (g : G) (w : World) (ob : Nat) (v hv : Value) (had : List UInt8) (b : UInt8) (vals : List Value) (ws : List (List UInt8)) (hv' : Value) (w' : World) : Prop where
  step : Step (fun x => hv.ownBlock = some x) g w g w'
  o : OS g ob ws w' v vals
  h : HS g ob w' v hv' (had ++ [b])
  sub : ∀ k, hv'.ownBlock = some k → hv.ownBlock = some k ∨ w.heap.size ≤ k
  back : ∀ (g2 : G) (w2 : World) (v2 : Value) (ws2 : List (List UInt8)) (vals2 : List Value), WSt g w' ob v hv' (had ++ [b]) ws2 g2 w2 v2 vals2 → HS g2 ob w2 v2 hv had

theorem pop_own {w : World} {base k n cap : Nat} {e : TypeId} {xs : List Value} {x : Value} (h : w.ownsRow base e 1 (.slice (some ⟨k, 0, none⟩) (n + 1) cap) (n + 1) (xs ++ [x])) (hn : xs.length = n) : w.ownsRow base e 1 (.slice (some ⟨k, 0, none⟩) n cap) n xs := by
  subst hn
  refine ⟨by simp, ?_⟩
  rcases h.2 with ⟨h3, h4⟩ | ⟨k, cap, cur, h3, h4, h5, h6, h7, h8, h9⟩
  · omega
  · right
    simp only [Value.slice.injEq, Option.some.injEq, Addr.mk.injEq, and_true, true_and] at h3
    obtain ⟨rfl, rfl⟩ := h3
    refine ⟨_, _, cur, rfl, h4, h5, by omega, h7, h8, ?_⟩
    have e := congrArg (List.take (xs.length * 1)) h9
    rw [List.take_take] at e
    simpa [Nat.min_eq_left (Nat.le_succ _), List.take_append] using e

theorem app_had {g : G} {w : World} {ob : Nat} {v hv : Value} {had : List UInt8} {b : UInt8} {vals : List Value} {ws : List (List UInt8)} (ho : OS g ob ws w v vals) (hh : HS g ob w v hv had) (hlen : had.length ≤ 100000) {B : Nat} (hB : w.heap[B]? = some (.cells #[byteV b] 5)) :
    ∃ hv' w', (Builtin.append_ #[28, 28] 28 #[hv, .slice (some ⟨B, 0, none⟩) 1 1]).run Try.prog w = .ok hv' w' ∧ AppP g w ob v hv had b vals ws hv' w' := by
  obtain ⟨i0, hi, hz0, hz1, hz2⟩ := info_parts Try.info5'
  have hnews : ∀ j u, [byteV b][j]? = some u → w.cell? ((⟨B, 0, none⟩ : Addr).add j) = some u := fun j u hj => World.news_of_block hB j u hj
  have hone : ∀ u ∈ [byteV b], u.oneCell' = true := byteV_one [b]
  obtain ⟨hv', w', hr, h2, h3, -, h5⟩ := run_append_own_at (P := Try.prog) w 0 28 28 5 i0 (.int .u8 0) 1 1 Try.underlying28 hi hz0 hz1 hz2 rfl (by decide) hv had.length (had.map byteV) hh.own ⟨B, 0, none⟩ 1 1 [byteV b] rfl hnews hone (by unfold maxLen; omega) (by omega) (Nat.zero_le _)
  refine ⟨hv', w', hr, ?_⟩
  have hstep : Step (fun x => hv.ownBlock = some x) g w g w' := (Step.refl _ ho.fut).grown h3 (fun k hk => ⟨.inl hk, (hh.nv k hk).2⟩)
  have e1 : had.map byteV ++ [byteV b] = (had ++ [b]).map byteV := by simp
  have e2 : had.length + 1 = (had ++ [b]).length := by simp
  rw [e1, e2] at h2
  have hob := lt_of_block ho.box
  have hblk : ∀ k, hv'.ownBlock = some k → hv.ownBlock = some k ∨ k = w.heap.size := fun k hk => by
    rcases h5 with h5 | h5
    · exact .inl (h5 ▸ hk)
    · rw [h5] at hk; cases hk; exact .inr rfl
  have hvb : ∀ k, v.ownBlock = some k → hv.ownBlock ≠ some k := fun k hk e => (hh.nv k e).1 hk
  have hoS : OS g ob ws w' v vals := ⟨hstep.fut, (h3.block ob hob (fun e => hh.ne e.symm)).trans ho.box, ownsRow_same ho.own (fun k hk => h3.block k (ho.own.lt k hk).2 (fun e => hvb k hk e.symm)), ho.rl, ho.rows, ho.ne, ho.gob, ho.gv, ho.nil⟩
  have hhS : HS g ob w' v hv' (had ++ [b]) := by
    refine ⟨h2, fun e => ?_, fun k hk => ?_⟩
    · rcases hblk ob e with h1 | h1
      · exact hh.ne h1
      · omega
    · rcases hblk k hk with h1 | h1
      · exact hh.nv k h1
      · exact ⟨fun e => by have := (ho.own.lt k e).2; omega, ho.fut.none_of_size (by omega)⟩
  refine ⟨hstep, hoS, hhS, fun k hk => ?_, ?_⟩
  · rcases hblk k hk with h1 | h1
    · exact .inl h1
    · exact .inr (by omega)
  · intro g2 w2 v2 ws2 vals2 hst
    -- the new row lies elsewhere: the old one stays
    have far : hv'.ownBlock = some w.heap.size → (∀ k, hv.ownBlock = some k → w'.heap[k]? = w.heap[k]?) → HS g2 ob w2 v2 hv had := fun hn hsame => by
      have hk2 : ∀ k, hv.ownBlock = some k → k < w.heap.size ∧ ¬ WM ob v hv' k := fun k hk => by
        have hlt := (hh.own.lt k hk).2
        refine ⟨hlt, ?_⟩
        rintro (rfl | h1 | h1)
        · exact hh.ne hk
        · exact hvb k h1 hk
        · rw [hn] at h1; cases h1; omega
      refine ⟨ownsRow_same hh.own (fun k hk => ?_), hh.ne, fun k hk => ⟨fun e => ?_, ?_⟩⟩
      · obtain ⟨a, c⟩ := hk2 k hk
        exact (hst.step.old k (Nat.lt_of_lt_of_le a hstep.size) c).trans (hsame k hk)
      · rcases hst.sub k e with h1 | h1
        · exact hvb k h1 hk
        · have := hk2 k hk
          have := hstep.size
          omega
      · exact hst.step.new k (hh.nv k hk).2 (Nat.lt_of_lt_of_le (hk2 k hk).1 hstep.size)
    rcases hh.own.2 with ⟨rfl, hz⟩ | ⟨k, cap, cur, rfl, hbg, hg, hnc, hcm, hcs, htake⟩
    · exact far (by
        rcases h5 with h5 | h5
        · rcases h2.2 with ⟨h6, h7⟩ | ⟨k, _, _, h6, -⟩
          · simp at h7
          · rw [h6] at h5; simp [Value.ownBlock] at h5
        · exact h5) (fun k hk => by simp [Value.ownBlock] at hk)
    · by_cases hroom : had.length + 1 ≤ cap
      · have hr2 := run_append_room (P := Try.prog) w 28 28 5 i0 Try.underlying28 hi k had.length cap cur hg ⟨B, 0, none⟩ 1 1 [byteV b] (by rw [hz1]; rfl) hnews hone hroom (by rw [hz1, hcs]; simpa using hroom)
        rw [hr] at hr2
        simp only [Result.ok.injEq] at hr2
        obtain ⟨rfl, -⟩ := hr2
        have hho := hst.h.own
        have e3 : (had ++ [b]).map byteV = had.map byteV ++ [byteV b] := by simp
        have e4 : (had ++ [b]).length = had.length + 1 := by simp
        rw [e3, e4] at hho
        exact ⟨pop_own hho (by simp), hst.h.ne, hst.h.nv⟩
      · have hr2 := run_append_grow (P := Try.prog) w 28 28 5 i0 (.int .u8 0) Try.underlying28 hi hz0 ⟨k, 0, none⟩ had.length cap (had.map byteV) (by rw [hz1]; simp) (hh.own.cells (g := k) rfl) ⟨B, 0, none⟩ 1 1 [byteV b] (by rw [hz1]; rfl) hnews (by omega) (by omega) (by rw [hz2]; exact growslice_fits (by omega) (by omega))
        rw [hr] at hr2
        simp only [Result.ok.injEq] at hr2
        obtain ⟨rfl, rfl⟩ := hr2
        exact far rfl (fun x hx => by
          simp only [Value.ownBlock, Option.some.injEq] at hx
          subst hx
          exact Below.heap_alloc _ _ _ (hh.own.lt k rfl).2)

/-- At a step of a region that draws its order. -/
theorem step_append_had {g : G} (w : World) {ob : Nat} {v hv : Value} {had : List UInt8} {b : UInt8} {vals : List Value} {ws : List (List UInt8)} {B : Nat}
    {ops : Array Oper} {o : Oper} {a : Act} {K : Act → World → Prop} {Q : Exit → Act → World → Prop} {E : Prop} (hgd : o.guard = none) (s x : Operand) (hop : o.op = .call { callee := .builtin .append, args := #[s, x], argTypes := #[28, 28] }) (hty : o.type = 28)
    (hs : a.eval s = hv) (hx : a.eval x = .slice (some ⟨B, 0, none⟩) 1 1) (ho : OS g ob ws w v vals) (hh : HS g ob w v hv had) (hlen : had.length ≤ 100000) (hB : w.heap[B]? = some (.cells #[.int .u8 (b.toNat : Int)] 5)) (h : ∀ hv' w', AppP g w ob v hv had b vals ws hv' w' → K (a.put o.dst hv') w') :
    if Region.wanted o (yielded ops a.tmps) = true then Oper.wp Try.prog o a w K Q else E := by
  obtain ⟨hv', w', hr, hp⟩ := app_had ho hh hlen hB
  have hw : Region.wanted o (yielded ops a.tmps) = true := by simp [Region.wanted, hgd]
  rw [if_pos hw]
  unfold Oper.wp execOp
  simp only [hop, hty, resolve, invoke, builtin, Sem.run_bind, Sem.run_pure, Result.andThen_ok, List.map_toArray, List.map_cons, List.map_nil, hs, hx, hr]
  exact h hv' w' hp
end Go.Proofs.Ytjodmimnbpgfcaa

/- WalkL -/
namespace Go.Proofs.Ytjodmimnbpgfcaa
open Go.RowKit Go.IntWalk

theorem own_sl_all {w : World} {base : Nat} {e : TypeId} {ao : Option Addr} {n c : Nat} {xs : List Value} (h : w.ownsRow base e 1 (.slice ao n c) n xs) : SliceV (gAll w) ao n c xs := by
  have hl : xs.length = n := by have := h.1; omega
  rcases h.2 with ⟨h1, rfl⟩ | ⟨k, cap, cur, h1, -, h3, h4, h5, h6, h7⟩
  · cases h1
    obtain rfl := List.eq_nil_of_length_eq_zero hl
    exact .nil
  · simp only [Value.slice.injEq, true_and] at h1
    obtain ⟨rfl, rfl⟩ := h1
    subst hl
    have hb : (gAll w).blk k = some (.cells cur e (0, 0)) := h3
    refine .row k 0 c xs h4 (by unfold maxLen at h5; omega) (fun w2 hw2 i u hi => ?_)
    rw [Nat.zero_add]
    refine fut_cell hb i u ?_ w2 hw2
    have hi2 := (List.getElem?_eq_some_iff.1 hi).1
    rw [← h7, List.getElem?_take, if_pos (by omega)] at hi
    simpa using hi

section
variable {g0 g g2 : G} {w0 w w' w2 : World} {ob : Nat} {v0 v v2 hv hv' : Value} {had : List UInt8} {ws ws2 : List (List UInt8)} {vals vals2 : List Value} {b : UInt8}

theorem WSt.app (h : WSt g0 w0 ob v0 hv had ws g w v vals) (a : AppP g w ob v hv had b vals ws hv' w') (k : WSt g w' ob v hv' (had ++ [b]) ws2 g2 w2 v2 vals2) : WSt g0 w0 ob v0 hv had ws2 g2 w2 v2 vals2 := by
  have hsz := h.step.size
  have hsa := a.step.size
  have h1 : Step (WM ob v0 hv) g0 w0 g w' := h.step.trans a.step (fun x hx => .inl (.inr (.inr hx)))
  refine ⟨h1.trans k.step (fun x hx => ?_), k.o, a.back g2 w2 v2 ws2 vals2 k, fun x hx => ?_⟩
  · rcases hx with hx | hx | hx
    · exact .inl (.inl hx)
    · rcases h.sub x hx with h2 | h2
      · exact .inl (.inr (.inl h2))
      · exact .inr h2
    · rcases a.sub x hx with h2 | h2
      · exact .inl (.inr (.inr h2))
      · exact .inr (by omega)
  · rcases k.sub x hx with h2 | h2
    · exact h.sub x h2
    · exact .inr (by omega)

/-- Behind take. -/
theorem WSt.took (h : WSt g0 w0 ob v0 hv had ws g w v vals) (hs : Step (fun b => b = ob ∨ v.ownBlock = some b) g w g w2) (ho : OS g ob ws2 w2 v2 vals2) (hsub : ∀ k, v2.ownBlock = some k → v.ownBlock = some k ∨ w.heap.size ≤ k) : WSt g0 w0 ob v0 hv had ws2 g w2 v2 vals2 := by
  have hsz := h.step.size
  have hvb : ∀ k, hv.ownBlock = some k → ¬ (k = ob ∨ v.ownBlock = some k) := fun k hk => by
    rintro (rfl | h1)
    · exact h.h.ne hk
    · exact (h.h.nv k hk).1 h1
  refine ⟨h.step.trans hs (fun x hx => ?_), ho, ⟨ownsRow_same h.h.own (fun k hk => hs.old k (h.h.own.lt k hk).2 (hvb k hk)), h.h.ne, fun k hk => ⟨fun e => ?_, (h.h.nv k hk).2⟩⟩, fun x hx => ?_⟩
  · rcases hx with hx | hx
    · exact .inl (.inl hx)
    · rcases h.sub x hx with h2 | h2
      · exact .inl (.inr (.inl h2))
      · exact .inr h2
  · rcases hsub k e with h1 | h1
    · exact (h.h.nv k hk).1 h1
    · have := (h.h.own.lt k hk).2
      omega
  · rcases hsub x hx with h2 | h2
    · exact h.sub x h2
    · exact .inr (by omega)
end

theorem toF_snoc (L : List Nd) (at_ : List Nat) (i : Nat) (b : UInt8) : toF L (at_ ++ [i]) b = toF L at_ b ++ (match L[i]? with | some x => if x.set.has b.toNat then [x.next] else [] | none => []) := by
  unfold toF
  rw [List.filterMap_append]
  congr 1
  cases h : L[i]? with
  | none => simp [h]
  | some x =>
    simp only [List.filterMap_cons, h, List.filterMap_nil]
    by_cases hb : x.set.has b.toNat = true <;> simp [hb]
theorem toF_len (L : List Nd) (at_ : List Nat) (b : UInt8) : (toF L at_ b).length ≤ at_.length := List.length_filterMap_le _ _
theorem toF_lt {L : List Nd} (hw : WfW L) (at_ : List Nat) (b : UInt8) : ∀ i ∈ toF L at_ b, i < L.length := by
  intro i hi
  unfold toF at hi
  obtain ⟨j, hj, h⟩ := List.mem_filterMap.1 hi
  cases hx : L[j]? with
  | none => rw [hx] at h; cases h
  | some x =>
    rw [hx] at h
    simp only at h
    split at h
    · cases h; exact hw.next x (List.mem_of_getElem? hx)
    · cases h

theorem run_more {most : Int} {S : List UInt8} {f : UInt8 → List (List UInt8)} {ws ws3 : List (List UInt8)} {q : Nat} {b : UInt8} (hb : S[q]? = some b) (h : runW most ((S.take q).flatMap f) ws = (true, ws3)) :
    runW most ((S.take (q + 1)).flatMap f) ws = runW most (f b) ws3 := by
  obtain ⟨hq, rfl⟩ := List.getElem?_eq_some_iff.1 hb
  rw [List.take_succ_eq_append_getElem hq, List.flatMap_append, runW_append, h]
  simp
theorem run_stop {most : Int} {S : List UInt8} {f : UInt8 → List (List UInt8)} {ws : List (List UInt8)} {q : Nat} (h : (runW most ((S.take q).flatMap f) ws).1 = false) : runW most (S.flatMap f) ws = runW most ((S.take q).flatMap f) ws := by
  conv => lhs; rw [← List.take_append_drop q S, List.flatMap_append, runW_append]
  rw [h]
  simp
end Go.Proofs.Ytjodmimnbpgfcaa
