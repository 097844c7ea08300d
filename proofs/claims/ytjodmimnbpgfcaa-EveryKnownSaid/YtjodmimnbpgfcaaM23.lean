/- every's newWeb, walked. A library text: no claim is stated here. The function values that each makes. A library text: no claim is stated here. The function values that each makes: where a part may end. A library text: no claim is stated here. -/
import Derived.Test.YtjodmimnbpgfcaaM21
import Derived.Test.YtjodmimnbpgfcaaM11

/- NewB -/
namespace Go.Proofs.Ytjodmimnbpgfcaa
open Go.RowKit Go.IntWalk

theorem Try.info97 : (Try.prog.info? 97).map (fun i => (i.zero, i.size, i.bytes)) = some (some (.slice none 0 0), 1, 24) := by kernel_rfl
theorem Try.infoB4 : (Try.prog.info? 4).map (fun i => (i.zero, i.size, i.bytes)) = some (some (.bool false), 1, 1) := by kernel_rfl

set_option maxRecDepth 100000 in
set_option maxHeartbeats 8000000 in
theorem newWeb_any {g : G} {r : CRow} {c : Core} (h : CoreV g r c) (hwf : wfC c = true) (hn : nodes c ≤ 50000) (hww : WfW (addR c.re 0 [nd0]).2) {S : List UInt8} {sa : Option Addr} {sc : Nat} (hs : SliceV g sa S.length sc (S.map byteV)) {n : Nat} (hn8 : n ≤ 8) (w : World) (hw : Fut g w) :
    Calls Try.prog 28 #[r.val, .slice sa S.length sc, .int .i64 (n : Nat)] w (NewWP g w c S n) := by
  obtain ⟨g1, hg, c0, c1, c2, c3, c4, c5, c6⟩ := box_core hw r
  have hsp := addw_any h hwf
  have hrn := reN_le _ c (Nat.le_refl _) hwf
  have hal := addR_len c.re 0 [nd0]
  have hf1 := hg.fut
  have HS := hid (hs.le hg.le)
  have HSP := hid hsp
  have HL := hid hg.le
  have HWW := hid hww
  simp only [List.length_cons, List.length_nil] at hal
  unfold CRow.val at *
  generalize hW : w.alloc (.cells #[.int .i64 r.k, .int .u64 r.s.a, .int .u64 r.s.b, .int .u64 r.s.c, .int .u64 r.s.d, .int .i64 r.n, .slice r.a r.len r.cap] 27) = W at hg hf1
  have hfr := WebS.fresh (sv := .slice sa S.length sc) hg
  have hcall := hsp g w g1 (W.heap.size + 1) _ _ _ [nd0] _ 0 hg.le ⟨_, _, hfr⟩ (by simp; omega)
  have fa := fun o => hf1.alloc o
  have fb := fun o o' => (hf1.alloc o).alloc o'
  unfold CRow.val at hcall
  have HC := hid hcall
  clear hcall hfr hg hsp h hs hww
  go_enter Try.func28, Try.ntmps28
  go_wp2_with (first | (go_at_call 47; refine HC.out.mono ?_) | fail)
  rintro e w2 ⟨rfl, g2, hL2, hE2⟩
  obtain ⟨pv, rs, hS2⟩ := hE2
  have q1 := heap_cell hS2.box 1 _ rfl
  have z1 := heap_free hS2.box 1
  have HS3 := hid (NW.start (hS2.setSt (.int .i64 ((addR c.re 0 [nd0]).1 : Nat))))
  have HL2 := hid hL2
  clear hS2 hL2 HC c0 c1 c2 c3 c4 c5 c6
  generalize hLL : (addR c.re 0 [nd0]).2 = L at *
  generalize hst : (addR c.re 0 [nd0]).1 = st at *
  go_wp2_with fail
  have HNB := hid hn8
  go_loopg [24] (n + 1) (fun rem i wr => ∃ q g3 pv rs cv vs, q + rem = n + 1 ∧ i = .int .i64 (q : Nat) ∧ Hid (g2.Le g3) ∧ Hid (NW g w g3 (W.heap.size + 1) (.int .i64 (st : Nat)) (.slice sa S.length sc) L wr pv rs cv ((List.range q).map (canRow L S)) vs))
  case atStart => exact ⟨0, g2, pv, rs, _, [], by omega, rfl, G.Le.refl _, HS3⟩
  case round =>
    obtain ⟨q, g3, pv3, rs3, cv3, vs3, hq, rfl, HL3, HNW⟩ := hrel
    clear HS3 q1 z1
    by_cases hlt : q < n + 1
    · have hL0 : 0 < L.length := by omega
      have hlen : (List.map (canRow L S) (List.range q)).length = q := by simp
      obtain ⟨pb, pc, rfl, -, -⟩ := HNW.out.web.own.form hL0
      obtain ⟨ca3, cc3, rfl⟩ := own_shape HNW.out.co
      have t0 := heap_cell HNW.out.web.box 0 _ rfl
      obtain ⟨i1, hi1, hy0, hy1, hy2⟩ := info_parts Try.infoB4
      have hsz0 := HNW.out.web.grow.size
      have HLT := hid hlt
      have HQ := hid hq
      have hlL : L.length ≤ 60000 := by omega
      go_wp2_with (first | (at_make; refine wpList_make_full wr rfl (.tmp 31) (.tmp 31) 97 rfl w.heap.size 4 i1 (.bool false) 1 Try.underlying97 hi1 hy0 hy1 .i64 .i64 _ _ L.length rfl rfl rfl rfl (by rw [hy2]; omega) (by unfold maxLen; omega) hsz0 ?_) | fail)
      intro w4 hown4 hg4
      have HR4 := hid (RowSt.made (S := S) (k := q) HNW.out hg4 hown4)
      clear hown4 hg4 t0 hi1 hsz0 HNW
      generalize wr.heap.size = rb at HR4 ⊢
      go_wp2_with fail
      go_loopg [35] L.length (fun rem i wr => ∃ p xs, p + rem = L.length ∧ i = .int .i64 (p : Nat) ∧ Hid (RowSt g w g3 (W.heap.size + 1) (.int .i64 (st : Nat)) (.slice sa S.length sc) L S q wr (.slice (some ⟨pb, 0, none⟩) L.length pc) rs3 (.slice ca3 (List.map (canRow L S) (List.range q)).length cc3) ((List.range q).map (canRow L S)) vs3 rb p xs))
      case atStart => exact ⟨0, _, by omega, rfl, HR4⟩
      case round =>
        obtain ⟨p, xs, hp, rfl, HRp⟩ := hrel
        clear HR4
        by_cases hpl : p < L.length
        · have hfi := HRp.out.nw.web.grow.fut
          obtain ⟨b5, lc5, ca5, cc5, -, -, hWC⟩ := HRp.out.nw.webC hfi.le_all (fun b o hb _ => hb) (HS.out.le (HL2.out.trans HL3.out)) hL0
          have hre := reaches_any hWC HWW.out (by omega) hpl (Nat.le_refl q) (by omega) wr (fut_all wr)
          have HRE := hid hre
          have HPL := hid hpl
          have HP := hid hp
          have hpi : (p : Int) < (L.length : Int) := by omega
          clear hWC hre
          go_wp2_with (first | (go_at_call 48; refine HRE.out.mono ?_) | fail)
          rintro e w5 ⟨rfl, hg5⟩
          have hR5 := HRp.out.kids (Grow.of_all hfi hg5)
          have hxl : xs.length = L.length := by have := hR5.own.1; omega
          obtain ⟨xp, r5⟩ : ∃ xp, w5.cell? ⟨rb, p, none⟩ = some xp := by
            rw [hR5.own.cellAt p (by omega), List.getElem?_eq_getElem (by omega)]
            exact ⟨_, rfl⟩
          have z5 := hR5.own.frozenAt p
          have HR5 := hid hR5
          clear hR5 hg5 HRp HRE hxl
          go_wp2_with fail
          go_roundg (L.length - (p + 1))
          case measure => have h1 := HPL.out; have h2 := HP.out; omega
          case rel => exact ⟨p + 1, _, by have h1 := HPL.out; omega, by go_num, HR5.out.put HPL.out⟩
        · obtain rfl : p = L.length := by omega
          obtain ⟨g4, hL4, hN4, hrow⟩ := HRp.out.keep
          have t3 := heap_cell hN4.web.box 3 _ rfl
          have hltw := lt_of_block hN4.web.box
          have hco := hN4.co
          have hcw : some (W.heap.size + 1) ≠ (Value.slice ca3 (List.map (canRow L S) (List.range q)).length cc3).ownBlock := fun e => hN4.cw e.symm
          have hsz := hN4.web.grow.size
          obtain ⟨i2, hi2, hx0, hx1, hx2⟩ := info_parts Try.info97
          have HN4 := hid hN4
          have HL4 := hid hL4
          have HROW := hid hrow
          rw [hlen] at t3 hco hcw
          have hcl : (canRow L S q).length = L.length := by simp [canRow]
          have HCL := hid hcl
          have HLEN := hid hlen
          have HCW := hid hcw
          have HTW := hid hltw
          have f3 := heap_free hN4.web.box 3
          clear hN4 hL4 hrow HRp hcl hlen hcw
          go_wp2_with (first | (at_builtin; refine wpList_append_lies _ rfl (.tmp 50) (.tmp 52) 73 rfl w.heap.size 97 i2 (.slice none 0 0) 1 24 Try.underlying73 hi2 hx0 hx1 hx2 rfl (by decide) (.slice ca3 q cc3) q vs3 rfl (hco.alloc _) ⟨wr.heap.size, 0, none⟩ 1 1 [.slice (some ⟨rb, 0, none⟩) L.length L.length] rfl rfl (cell_one_new wr _ 97) (by simp [Value.oneCell']) (by decide) (by unfold maxLen; omega) (by omega) (by rw [World.size_alloc]; omega) _ rfl ?_) | fail)
          intro kb kcap w6 hown6 hgrow6 hat6 hlt6
          have fz1 : w6.frozen? ⟨W.heap.size + 1, 3, none⟩ = false := (hgrow6.frozen_far _ (by rw [World.size_alloc]; exact Nat.lt_succ_of_lt hltw) HCW.out).trans ((World.frozen?_alloc_old _ _ _ (Nat.ne_of_lt hltw)).trans f3)
          have tz1 : w6.cell? ⟨W.heap.size + 1, 3, none⟩ = some (.slice ca3 (List.map (canRow L S) (List.range q)).length cc3) := (hgrow6.cell_far _ (by rw [World.size_alloc]; exact Nat.lt_succ_of_lt hltw) HCW.out).trans ((World.cell?_alloc_lt _ _ _ hltw).trans (by rw [HLEN.out]; exact t3))
          have hpush := HN4.out.push (row := canRow L S q) (v := .slice (some ⟨rb, 0, none⟩) L.length L.length) (ra := some ⟨rb, 0, none⟩) (rc := L.length) (by rw [HCL.out]) HROW.out (by rw [HLEN.out]; exact hgrow6) (by rw [HLEN.out]; exact hown6) (by rw [HLEN.out, World.size_alloc]; exact hat6)
          rw [HLEN.out] at hpush
          have HPU := hid hpush
          clear hpush hown6 hgrow6 hat6 hlt6 t3 f3 hco HN4
          go_wp2_with fail
          go_roundg (n + 1 - (q + 1))
          case measure => have h1 := HLT.out; have h2 := HQ.out; omega
          case rel =>
            have hfin := HPU.out
            have hcs : List.map (canRow L S) (List.range q) ++ [canRow L S q] = List.map (canRow L S) (List.range (q + 1)) := by rw [List.range_succ, List.map_append]; rfl
            rw [hcs] at hfin
            exact ⟨q + 1, g4, _, rs3, _, _, by have h1 := HLT.out; omega, by go_num, HL3.out.trans HL4.out, hfin⟩
    · obtain rfl : q = n + 1 := by omega
      go_wp2_with fail
      go_ret
      subst hLL hst
      exact HNW.out.fin (HS.out.le (HL2.out.trans HL3.out))
end Go.Proofs.Ytjodmimnbpgfcaa

/- EachA -/
namespace Go.Proofs.Ytjodmimnbpgfcaa
open Go.RowKit Go.IntWalk

set_option maxHeartbeats 400000 in
theorem each21_impl {σ : Type} {I : Inv σ} {live : σ → Prop} {T : Tab} {g0 g : G} {mb : Nat} {D : Nat → Prop} (hS : Sys T g0 mb I) {fv : Value} {tk : Val → Nat → σ → Bool × σ} (h : ImplTake I live D g fv tk) {q : VRow} {u : Val} {b1 b2 : Nat}
    (hq : ValV g q u) (hb1 : g.blk b1 = some (.cells #[fv] 141)) (hb2 : g.blk b2 = some (.cells #[.int .i64 q.k, .int .u8 q.b, .slice q.a q.len q.cap] 48)) :
    ImplTake I live D g (.func (.func 78) #[] #[.pointer (some ⟨b1, 0, none⟩), .pointer (some ⟨b2, 0, none⟩)]) (fun v t s => tk (.mk 3 0 [u, v]) t s) := by
  obtain ⟨F, caps, rfl, hF, hcall⟩ := h
  refine ⟨78, _, rfl, Try.call78, fun g' M s w r v t hle hI hlive hv ht => ?_⟩
  have hw := hS.fut hI
  obtain ⟨g1, hg1, eb, c0, c1, c2⟩ := box_val hw r
  have k1 := fut_cell (hle.blk _ _ hb1) 0 _ rfl
  have q0 := fut_cell (hle.blk _ _ hb2) 0 _ rfl
  have q1 := fut_cell (hle.blk _ _ hb2) 1 _ rfl
  have q2 := fut_cell (hle.blk _ _ hb2) 2 _ rfl
  have hg2 := hg1.box (.cells #[.int .i64 q.k, .int .u8 q.b, .slice q.a q.len q.cap, .int .i64 r.k, .int .u8 r.b, .slice r.a r.len r.cap] 48)
  have heb := G.add_same g1 (w.alloc (.cells #[.int .i64 r.k, .int .u8 r.b, .slice r.a r.len r.cap] 48)).heap.size (.cells #[.int .i64 q.k, .int .u8 q.b, .slice q.a q.len q.cap, .int .i64 r.k, .int .u8 r.b, .slice r.a r.len r.cap] 48)
  rw [World.size_alloc] at hg2 heb
  have hv2 := ((hq.le (hle.trans hg2.le)).two (hv.le hg2.le) heb 3 0)
  have hcall2 := hcall _ M s _ _ _ t (hle.trans hg2.le) (hS.grow hI hg2) hlive hv2 ht
  have HLE := hid (hg2.istep M)
  have fa := fun o => hw.alloc o
  have fb := fun o o' => (hw.alloc o).alloc o'
  clear hcall hg2 heb hv2 hg1 eb hb1 hb2 hq
  unfold Callable at hF
  unfold VRow.val at *
  simp only [List.append_toArray, List.cons_append, List.nil_append]
  go_enter Try.func78, Try.ntmps78
  go_wp2_with fail
  refine (hcall2.mono ?_)
  rintro e w3 hp
  have HP := hid hp
  obtain ⟨rfl, -⟩ := hp
  go_wp2_with fail
  go_ret
  exact HP.out.pre HLE.out
/-- What each is to do at a part. -/
def EachSpec {σ : Type} (I : Inv σ) (live : σ → Prop) (T : Tab) (mb : Nat) (g0 : G) (p : Nat) (x : Re) : Prop :=
  ∀ g M s w f okv tkv ok tk (D : Nat → Prop), g0.Le g → I g M s w → live s → f ≤ T.s.length → ImplOk I T.s.length g okv ok → ImplTake I live D g tkv tk → (∀ t, t ≤ T.s.length → ok t = true → D t) →
    Calls Try.prog 57 #[.pointer (some ⟨mb, 0, none⟩), .int .i64 (p : Nat), .int .i64 (f : Nat), okv, tkv] w (TPost I live g M w (runT tk (ways T.s x f ok) s))

set_option maxHeartbeats 400000 in
theorem each2_impl {σ : Type} {I : Inv σ} {live : σ → Prop} {T : Tab} {g0 g : G} {mb p : Nat} {x : Re} (hS : Sys T g0 mb I) (hle0 : g0.Le g) (hE : EachSpec I live T mb g0 p x) {okv fv : Value} {ok : Nat → Bool} {tk : Val → Nat → σ → Bool × σ} {D : Nat → Prop}
    (ho : ImplOk I T.s.length g okv ok) (h : ImplTake I live D g fv tk) (hD : ∀ t, t ≤ T.s.length → ok t = true → D t) {b1 b2 b3 b4 : Nat}
    (hb1 : g.blk b1 = some (.cells #[.pointer (some ⟨mb, 0, none⟩)] 111)) (hb2 : g.blk b2 = some (.cells #[.int .i64 (p : Nat)] 3)) (hb3 : g.blk b3 = some (.cells #[okv] 140)) (hb4 : g.blk b4 = some (.cells #[fv] 141)) :
    ImplTake I live (· ≤ T.s.length) g (.func (.func 77) #[] #[.pointer (some ⟨b1, 0, none⟩), .pointer (some ⟨b2, 0, none⟩), .pointer (some ⟨b3, 0, none⟩), .pointer (some ⟨b4, 0, none⟩)])
      (fun v k s => runT (fun w t s => tk (.mk 3 0 [v, w]) t s) (ways T.s x k ok) s) := by
  refine ⟨77, _, rfl, Try.call77, fun g' M s w r v t hle hI hlive hv ht => ?_⟩
  have hw := hS.fut hI
  obtain ⟨g1, hg1, eb, c0, c1, c2⟩ := box_val hw r
  have k1 := fut_cell (hle.blk _ _ hb1) 0 _ rfl
  have k2 := fut_cell (hle.blk _ _ hb2) 0 _ rfl
  have k3 := fut_cell (hle.blk _ _ hb3) 0 _ rfl
  have k4 := fut_cell (hle.blk _ _ hb4) 0 _ rfl
  have hcall2 := hE g1 M s _ t okv _ ok _ D ((hle0.trans hle).trans hg1.le) (hS.grow hI hg1) hlive ht (ho.le (hle.trans hg1.le))
    (each21_impl hS (h.le (hle.trans hg1.le)) (hv.le hg1.le) (hg1.le.blk _ _ (hle.blk _ _ hb4)) eb) hD
  have HLE := hid (hg1.istep M)
  have fa := fun o => hw.alloc o
  clear hg1 eb hb1 hb2 hb3 hb4 hE ho h
  unfold VRow.val at *
  simp only [List.append_toArray, List.cons_append, List.nil_append]
  go_enter Try.func77, Try.ntmps77
  go_wp2_with fail
  refine (hcall2.mono ?_)
  rintro e w3 hp
  have HP := hid hp
  obtain ⟨rfl, -⟩ := hp
  go_wp2_with fail
  go_ret
  exact HP.out.pre HLE.out
end Go.Proofs.Ytjodmimnbpgfcaa

/- EachB -/
namespace Go.Proofs.Ytjodmimnbpgfcaa
open Go.RowKit Go.IntWalk

/-- The worlds that a state's calls lead to. -/
structure Ig {σ : Type} (I : Inv σ) (s : σ) (g : G) (M : Nat → Prop) (w0 : World) where
  w : World
  g' : G
  M' : Nat → Prop
  h : IStep g M w0 g' M' w
  i : I g' M' s w

theorem quiet_i {P : Program} {σ : Type} {I : Inv σ} {s : σ} {g : G} {M : Nat → Prop} {w0 : World} {x : Ig I s g M w0} {f : FuncId} {args : Array Value} {b : Bool} (hP : P = Try.prog) (h : Calls Try.prog f args x.w (IPost I x.g' x.M' x.w b s)) :
    Calls P f args x.w fun e w'' => e = .returned (.bool b) ∧ ∃ y : Ig I s g M w0, w'' = y.w := by
  subst hP
  exact h.mono fun _ w' ⟨he, g2, M2, h2, h3⟩ => ⟨he, ⟨w', g2, M2, x.h.trans h2, h3⟩, rfl⟩

theorem wp_region_i {P : Program} {σ : Type} {I : Inv σ} {s : σ} {g : G} {M : Nat → Prop} {w0 : World} {id : Nat} {Q : Exit → Act → World → Prop} {a : Act} {w : World} {l : List Oper} (hm : P.follows .mixedOrders = true) (hB : Region.lexB .any l.toArray = true)
    (hC : ∃ x : Ig I s g M w0, w.drew = x.w)
    (h : wpQuiet P l.toArray (fun w' => ∃ x : Ig I s g M w0, w' = x.w) (fun a' => ∀ w', (∃ x : Ig I s g M w0, w' = x.w) → Q .normal a' w') l a) : (Code.region id l.toArray true).wp P Q a w :=
  wp_region_quiet (C := fun w' => ∃ x : Ig I s g M w0, w' = x.w) hm hB hC (by simpa using h)

theorem mayF_hit {E : Nat → Nat → Bool} {ok : Nat → Bool} {n k q : Nat} (hkq : k ≤ q) (hq : q ≤ n) (h : ok q = true) (h' : E k q = true) : mayF E ok n k = true := by
  unfold mayF
  rw [List.any_eq_true]
  exact ⟨q, by simp [List.mem_range']; exact ⟨q - k, by omega, by omega⟩, by simp [h, h']⟩
theorem mayF_none {E : Nat → Nat → Bool} {ok : Nat → Bool} {n k : Nat} (h : ∀ q, k ≤ q → q ≤ n → (ok q && E k q) = false) : mayF E ok n k = false := by
  unfold mayF
  rw [List.any_eq_false]
  intro q hq
  simp [List.mem_range'] at hq
  obtain ⟨i, hi, rfl⟩ := hq
  rw [h _ (by omega) (by omega)]
  simp

set_option maxHeartbeats 1000000 in
theorem each1_impl {σ : Type} {I : Inv σ} {T : Tab} {g0 g : G} {mb p : Nat} {x : Core} (hS : Sys T g0 mb I) (hle0 : g0.Le g) (hx : (flatC T.c)[p]? = some x) (hshort : T.s.length ≤ 65536) {okv : Value} {ok : Nat → Bool}
    (ho : ImplOk I T.s.length g okv ok) {b1 b2 b3 : Nat}
    (hb1 : g.blk b1 = some (.cells #[.pointer (some ⟨mb, 0, none⟩)] 111)) (hb2 : g.blk b2 = some (.cells #[okv] 140)) (hb3 : g.blk b3 = some (.cells #[.int .i64 (p : Nat)] 3)) :
    ImplOk I T.s.length g (.func (.func 76) #[] #[.pointer (some ⟨b1, 0, none⟩), .pointer (some ⟨b2, 0, none⟩), .pointer (some ⟨b3, 0, none⟩)]) (mayF (endsF T.s x.re) ok T.s.length) := by
  obtain ⟨F, caps, rfl, hF, hcall⟩ := ho
  refine ⟨76, _, rfl, Try.call76, fun g' M s w k hle hI hk => ?_⟩
  have hw := hS.fut hI
  have k1 := fut_cell (hle.blk _ _ hb1) 0 _ rfl
  have k2 := fut_cell (hle.blk _ _ hb2) 0 _ rfl
  have k3 := fut_cell (hle.blk _ _ hb3) 0 _ rfl
  have m1 := fut_cell ((hle0.trans hle).blk _ _ hS.maker) 0 _ rfl
  have m2 := fut_cell ((hle0.trans hle).blk _ _ hS.maker) 1 _ rfl
  have HI := hid hI
  have HX := hid hx
  have HCALL := hid hcall
  have HLE := hid hle
  have HLE0 := hid (hle0.trans hle)
  clear hI hb1 hb2 hb3 hcall hx hle hle0
  unfold Callable at hF
  simp only [List.append_toArray, List.cons_append, List.nil_append]
  go_enter Try.func76, Try.ntmps76
  go_wp2_with fail
  go_loopg [6] (T.s.length + 1 - k) (fun rem iv wr => ∃ q g4 M4, k ≤ q ∧ q + rem = T.s.length + 1 ∧ iv = .int .i64 (q : Nat) ∧ Hid (IStep g' M w g4 M4 wr) ∧ Hid (I g4 M4 s wr) ∧ Hid (∀ r, k ≤ r → r < q → (ok r && endsF T.s x.re k r) = false))
  case atStart => exact ⟨k, g', M, Nat.le_refl _, by omega, rfl, (Grow.refl hw).istep M, HI.out, fun r h1 h2 => by omega⟩
  case round =>
    obtain ⟨q, g4, M4, hkq, hqr, rfl, H4, HI4, HN⟩ := hrel
    have hf4 := hS.fut HI4.out
    have hf4' := hf4.le H4.out.le
    clear hw
    by_cases hlt : q ≤ T.s.length
    · have HC1 := hid fun (y : Ig I s g4 M4 wr) => HCALL.out y.g' y.M' s y.w q (HLE.out.trans (H4.out.le.trans y.h.le)) y.i hlt
      have HC2 := hid fun (y : Ig I s g4 M4 wr) => hS.says (HLE0.out.trans (H4.out.le.trans y.h.le)) y.i HX.out hk hlt
      have hx : ∀ y : Ig I s g4 M4 wr, Fut g' y.w := fun y => y.h.step.fut.le (H4.out.le.trans y.h.le)
      have hne : Nonempty (Ig I s g4 M4 wr) := ⟨⟨wr, g4, M4, (Grow.refl hf4).istep M4, HI4.out⟩⟩
      cases hok : ok q with
      | false =>
        have HOK := hid hok
        rw [hok] at HC1
        clear hok
        go_wp2_with fail
        refine wp_region_i (s := s) (g := g4) (M := M4) (w0 := wr) (I := I) (by kernel_rfl) (by kernel_rfl) ⟨⟨_, g4, M4, (Grow.refl hf4).drew.istep M4, hS.grow HI4.out (Grow.refl hf4).drew⟩, rfl⟩ ?_
        repeat (go_big_quiet_step ((first | (go_at_call 33; exact quiet_i rfl (HC2.out _)) | (exact quiet_i rfl (HC1.out _)))))
        refine wpQuiet_nil ?_
        rintro _ ⟨⟨w2, g5, M5, h5, i5⟩, rfl⟩
        have H5 := hid h5
        have I5 := hid i5
        clear h5 i5 hx hne HC1 HC2
        go_wp2_with fail
        go_roundg (T.s.length - q)
        case measure => omega
        case rel => exact ⟨q + 1, g5, M5, by omega, by omega, by go_num, H4.out.trans H5.out, I5.out, fun r h1 h2 => by rcases Nat.lt_or_ge r q with h | h; exact HN.out r h1 h; obtain rfl : r = q := (by omega); rw [HOK.out]; rfl⟩
      | true =>
        have HOK := hid hok
        rw [hok] at HC1
        clear hok
        cases hen : endsF T.s x.re k q with
        | false =>
          have HEN := hid hen
          rw [hen] at HC2
          clear hen
          go_wp2_with fail
          refine wp_region_i (s := s) (g := g4) (M := M4) (w0 := wr) (I := I) (by kernel_rfl) (by kernel_rfl) ⟨⟨_, g4, M4, (Grow.refl hf4).drew.istep M4, hS.grow HI4.out (Grow.refl hf4).drew⟩, rfl⟩ ?_
          repeat (go_big_quiet_step ((first | (go_at_call 33; exact quiet_i rfl (HC2.out _)) | (exact quiet_i rfl (HC1.out _)))))
          refine wpQuiet_nil ?_
          rintro _ ⟨⟨w2, g5, M5, h5, i5⟩, rfl⟩
          have H5 := hid h5
          have I5 := hid i5
          clear h5 i5 hx hne HC1 HC2
          go_wp2_with fail
          go_roundg (T.s.length - q)
          case measure => omega
          case rel => exact ⟨q + 1, g5, M5, by omega, by omega, by go_num, H4.out.trans H5.out, I5.out, fun r h1 h2 => by rcases Nat.lt_or_ge r q with h | h; exact HN.out r h1 h; obtain rfl : r = q := (by omega); rw [HEN.out, Bool.and_false]⟩
        | true =>
          have HEN := hid hen
          rw [hen] at HC2
          clear hen
          go_wp2_with fail
          refine wp_region_i (s := s) (g := g4) (M := M4) (w0 := wr) (I := I) (by kernel_rfl) (by kernel_rfl) ⟨⟨_, g4, M4, (Grow.refl hf4).drew.istep M4, hS.grow HI4.out (Grow.refl hf4).drew⟩, rfl⟩ ?_
          repeat (go_big_quiet_step ((first | (go_at_call 33; exact quiet_i rfl (HC2.out _)) | (exact quiet_i rfl (HC1.out _)))))
          refine wpQuiet_nil ?_
          rintro _ ⟨⟨w2, g5, M5, h5, i5⟩, rfl⟩
          have H5 := hid h5
          have I5 := hid i5
          clear h5 i5 hx hne HC1 HC2
          go_wp2_with fail
          go_ret
          exact ⟨ret_bool (mayF_hit hkq hlt HOK.out HEN.out).symm, g5, M5, H4.out.trans H5.out, I5.out⟩
    · go_wp2_with fail
      go_ret
      exact ⟨ret_bool (mayF_none fun r h1 h2 => HN.out r h1 (by omega)).symm, g4, M4, H4.out, HI4.out⟩
end Go.Proofs.Ytjodmimnbpgfcaa
