/- every's closed, walked. A library text: no claim is stated here. every's reaches, walked. A library text: no claim is stated here. -/
import Derived.Test.YtjodmimnbpgfcaaS15
import Derived.Deep.LoopGhost
import Derived.Test.YtjodmimnbpgfcaaS16

/- Closed -/
namespace Go.Proofs.Ytjodmimnbpgfcaa
open Go.RowKit Go.IntWalk

theorem HadM.same {w w' : World} {b n : Nat} {out : List Nat} (h : HadM w b n out) (hb : w'.heap[b]? = w.heap[b]?) : HadM w' b n out := by
  obtain ⟨D, ⟨es, clock, h1, h2⟩, h3⟩ := h
  exact ⟨D, ⟨es, clock, hb.trans h1, h2⟩, h3⟩

def ClosedP (g : G) (w : World) (L : List Nd) (fr : List Nat) (e : Ending) (w' : World) : Prop :=
  ∃ g' ao cap out, e = .returned (.slice ao out.length cap) ∧ Grow g w g' w' ∧ SliceV g' ao out.length cap (out.map natV) ∧ ClosedOf L fr out

theorem closed_start {g : G} {w w2 : World} {fr : List Nat} {ao : Option Addr} {cap : Nat} (hw : Fut g w) (hg : Grow g (w.alloc (.map #[] 0)) g w2) (ho : w2.ownsRow (w.alloc (.map #[] 0)).heap.size 3 1 (.slice ao (fr.map natV).length cap) (fr.map natV).length (fr.map natV)) :
    CI g w w2 ao cap fr none 0 [] ∧ HadM w2 w.heap.size 0 [] := by
  have hs : (w.alloc (.map #[] 0)).heap.size = w.heap.size + 1 := World.size_alloc _ _
  rw [hs] at ho
  refine ⟨⟨hw, ((Grow.refl hw).alloc _).trans hg, by simpa using ho, World.ownsRow_nil _ _ _ _, fun k hk => by simp [Value.ownBlock] at hk⟩, ?_⟩
  exact (HadM.made w).same (hg.old _ (by rw [hs]; omega))

theorem closed_end {g : G} {w wr : World} {L : List Nd} {fr out : List Nat} {ao oo : Option Addr} {ac oc : Nat} (hc : CI g w wr ao ac [] oo oc out) (hs : CSt L fr [] out) : ClosedP g w L fr (.returned (.slice oo out.length oc)) wr := by
  obtain ⟨g', h1, -, h3, -⟩ := sl_keep (hc.grow.step fun _ => False) hc.ro (fun k hk => by
    have := (hc.ro.lt k hk).1
    exact ⟨by omega, hc.fut0.none_of_size (by omega)⟩)
  exact ⟨g', oo, oc, out, rfl, h1.grow, h3, hs.end_⟩

set_option maxRecDepth 100000 in
set_option maxHeartbeats 4000000 in
theorem closed_any {g : G} {wb b lc : Nat} {L : List Nd} (hW : WebL g wb b lc L) (hwf : WfW L) (hL : L.length ≤ 100000) {fa : Option Addr} {fn fc : Nat} {fr : List Nat} (hf : SliceV g fa fn fc (fr.map natV)) (hfl : fr.length ≤ 100000) (hfr : ∀ i ∈ fr, i < L.length) (w : World) (hw : Fut g w) :
    Calls Try.prog 30 #[.pointer (some ⟨wb, 0, none⟩), .slice fa fn fc] w (ClosedP g w L fr) := by
  have hfw := hw.alloc (.map #[] 0)
  have hclone := clone_ints hf hfl _ hfw
  have HC := hid hclone
  have HW := hid hW
  have HF := hid hf
  have k0 := hW.c0
  have hmk : (Instr.makeMap 103 none).run Try.prog w = .ok (.map (some w.heap.size)) (w.alloc (.map #[] 0)) := run_makeMap _ _
  clear hclone hW hf
  go_enter Try.func30, Try.ntmps30
  go_wp2_with (first | (go_at_call 53; refine HC.out.mono ?_) | fail)
  rintro e w2 ⟨ao, cap, rfl, hg2, ho2⟩
  obtain ⟨hCI, hHad⟩ := closed_start hw hg2 ho2
  rw [List.length_map]
  have HCI := hid hCI
  have HHad := hid hHad
  clear hg2 ho2 hCI hHad HC hfw
  go_wp2_with fail
  go_loopg [6, 7] (3 * L.length + fr.length) (fun rem a6 a7 wr => ∃ ao ac all oo oc out, a6 = .slice ao all.length ac ∧ a7 = .slice oo out.length oc ∧ rem = 3 * (L.length - out.length) + all.length ∧ rem ≤ 3 * L.length + fr.length ∧ Hid (CI g w wr ao ac all oo oc out) ∧ Hid (HadM wr w.heap.size out.length out) ∧ Hid (CSt L fr all out))
  case atStart => exact ⟨ao, cap, fr, none, 0, [], rfl, rfl, by simp, Nat.le_refl _, HCI, HHad, CSt.start hfr⟩
  case round =>
    obtain ⟨ao, ac, all, oo, oc, out, rfl, rfl, hrem, hle, HCI, HHad, HSt⟩ := hrel
    have hfr := HCI.out.grow.fut
    have hol := HSt.out.len
    rcases List.eq_nil_or_concat all with rfl | ⟨pre, i, rfl⟩
    · go_wp2_with fail
      go_ret
      exact closed_end HCI.out HSt.out
    · rw [List.concat_eq_append] at *
      have hlen : (pre ++ [i]).length = pre.length + 1 := by simp
      have hra := HCI.out.ra
      have hne0 : 0 < (pre ++ [i]).length := by rw [hlen]; omega
      obtain ⟨ka, cap, hv, -, -⟩ := hra.form hne0
      have hil := HSt.out.alt i (by simp)
      simp only [Value.slice.injEq, true_and] at hv
      obtain ⟨rfl, rfl⟩ := hv
      have hcapi : (pre.length : Int) ≤ (ac : Int) := by
        rcases hra.2 with ⟨h1, h2⟩ | ⟨k, c, cur, h1, h2, h3, h4, -⟩
        · omega
        · simp only [Value.slice.injEq, true_and] at h1
          obtain ⟨-, rfl⟩ := h1
          omega
      have hcell : wr.cell? ⟨ka, pre.length, none⟩ = some (.int .i64 i) := by
        rw [hra.cellAt _ (by omega)]
        simp [natV]
      obtain ⟨x, hx⟩ : ∃ x, L[i]? = some x := ⟨_, List.getElem?_eq_getElem hil⟩
      obtain ⟨r, hnok, n0, n1, n2, n3, n4, n5⟩ := HW.out.nd i x hx
      have hpl : pre.length ≤ 400000 := by rw [hlen] at hrem; omega
      have hwr : wrap64 (pre.length : Int) = pre.length := wrap64_in _ (by omega)
      have hixi : (i : Int) < (L.length : Int) := by omega
      have hixp : (pre.length : Int) < ((pre.length : Int) + 1) := by omega
      have hig : (0 : Int) < (pre.length : Int) + 1 := by omega
      have HNK := hid hnok
      have HX := hid hx
      have HR := hid hrem
      have HLE := hid hle
      have HOL := hid hol
      have HIL := hid hil
      have HPL := hid hpl
      rw [hlen]
      clear hnok hx hrem hle hol hra hne0 hil hlen hpl n1 n2 n3 n4 n5
      by_cases hin : i ∈ out
      · have hd : decide (i ∈ out) = true := by simp [hin]
        have HIN := hid hin
        clear hin
        go_wp2_with (first | (at_lookup; refine wpList_lookup_had HHad.out (i := i) (by have h1 := HIL.out; omega) rfl _ _ rfl rfl rfl ?_; rw [hd]) | fail)
        go_roundg (3 * (L.length - out.length) + pre.length)
        case measure => have h1 := HR.out; simp at h1; omega
        case rel =>
          exact ⟨some ⟨ka, 0, none⟩, ac, pre, oo, oc, out, by go_num, rfl, rfl, by have h1 := HR.out; have h2 := HLE.out; simp at h1; omega, HCI.out.pop, HHad.out, HSt.out.skip HIN.out⟩
      · have hd : decide (i ∈ out) = false := by simp [hin]
        have HIN := hid hin
        have HSt2 := hid (HSt.out.add hwf hin HX.out)
        have hfl2 := hwf.two x (List.mem_of_getElem? HX.out)
        have hfn := HNK.out.free.length.1
        rw [List.length_map] at hfn
        have HFL := hid (And.intro hfn hfl2)
        clear hin hfl2 hfn
        obtain ⟨i0, hi, hz0, hz1, hz2⟩ := info_parts Try.info3'
        go_wp2_with (first | (at_lookup; refine wpList_lookup_had HHad.out (i := i) (by have h1 := HIL.out; omega) rfl _ _ rfl rfl rfl ?_; rw [hd]) | (at_mapUpdate; refine wpList_update_had HHad.out (by have h1 := HOL.out; unfold maxLen; omega) (i := i) (by have h1 := HIL.out; omega) rfl _ _ _ rfl rfl rfl rfl ?_) | fail)
        intro w3 hhad3 hg3
        have HCI3 := hid (HCI.out.pop.other hg3)
        have HH3 := hid hhad3
        have hf3 := HCI3.out.grow.fut
        clear hhad3 hg3 hcell hfr HCI HHad
        go_wp2_with (first | (at_builtin; refine wpList_append_lies _ rfl (.tmp 31) (.tmp 33) 70 rfl (w.heap.size + 1) 3 i0 (.int .i64 0) 1 8 Try.underlying70 hi hz0 hz1 hz2 rfl (by decide) (.slice oo out.length oc) out.length (out.map natV) rfl (HCI3.out.alloc _).ro ⟨w3.heap.size, 0, none⟩ 1 1 [natV i] rfl rfl (cell_one_new w3 (natV i) 3) (natV_one [i]) (by decide) (by have h1 := HOL.out; unfold maxLen; omega) (by have h1 := HOL.out; omega) (by have h1 := HCI3.out.ra.lt ka rfl; rw [World.size_alloc]; omega) _ rfl ?_) | fail)
        intro kb kcap w4 hown4 hgrow4 hat4 hlt4
        have HCI4 := hid ((HCI3.out.alloc _).appOut hgrow4 hown4 (by rw [World.size_alloc]; exact hat4))
        have HH4 := hid ((HH3.out.kept (World.grownBy_alloc _ _ none) (by simp)).kept hgrow4 (own_far (HCI3.out.alloc (.cells #[natV i] 3)).ro))
        have hf4 := HCI4.out.grow.fut
        clear hown4 hgrow4 hat4 hlt4 HCI3 HH3 hf3
        go_wp2_with (first | (at_builtin; refine wpList_append_sl _ rfl (.tmp 35) (.tmp 43) 70 rfl (w.heap.size + 1) 3 i0 (.int .i64 0) 8 Try.underlying70 hi hz0 hz1 hz2 rfl rfl HCI4.out.ra rfl HNK.out.free hf4 (natV_one _) (by have h1 := HPL.out; have h2 := HFL.out; unfold maxLen; omega) (by have h1 := HPL.out; have h2 := HFL.out; omega) (by have h1 := HCI4.out.ra.lt ka rfl; omega) ?_) | fail)
        intro aa5 ac5 w5 hown5 hgrow5 hat5
        have HCI5 := hid (HCI4.out.appAll HFL.out.1 hgrow5 hown5 hat5)
        have HH5 := hid (HH4.out.kept hgrow5 (own_far HCI4.out.ra))
        clear hown5 hgrow5 hat5 HCI4 HH4 hf4
        go_wp2_with fail
        go_roundg (3 * (L.length - (out.length + 1)) + (pre.length + x.free.length))
        case measure => have h1 := HR.out; have h2 := HSt2.out.len; have h3 := HFL.out; simp at h1 h2; omega
        case rel =>
          refine ⟨aa5, ac5, pre ++ x.free, _, kcap, out ++ [i], by simp [HFL.out.1], by simp, by simp, ?_, HCI5.out, hid (by simpa using HH5.out), HSt2.out⟩
          have h1 := HR.out; have h2 := HSt2.out.len; have h3 := HFL.out; have h4 := HLE.out; simp at h1 h2; omega
end Go.Proofs.Ytjodmimnbpgfcaa

/- Reaches -/
namespace Go.Proofs.Ytjodmimnbpgfcaa
open Go.RowKit Go.IntWalk

def boolV (b : Bool) : Value := .bool b

/-- A web that stays: its places, its bytes, the rows of can so far. -/
structure WebC (g : G) (wb b lc : Nat) (L : List Nd) (S : List UInt8) (cans : List (List Bool)) (sa : Option Addr) (sc : Nat) (ca : Option Addr) (cc : Nat) (vs : List Value) : Prop where
  l : WebL g wb b lc L
  s2 : ∀ w, Fut g w → w.cell? ⟨wb, 2, none⟩ = some (.slice sa S.length sc)
  s : SliceV g sa S.length sc (S.map byteV)
  c3 : ∀ w, Fut g w → w.cell? ⟨wb, 3, none⟩ = some (.slice ca cans.length cc)
  c : SliceV g ca cans.length cc vs
  rl : vs.length = cans.length
  rows : ∀ (i : Nat) (row : List Bool) (v : Value), cans[i]? = some row → vs[i]? = some v → ∃ ra rc, v = .slice ra row.length rc ∧ SliceV g ra row.length rc (row.map boolV)

theorem WebC.le {g g' : G} {wb b lc : Nat} {L : List Nd} {S : List UInt8} {cans : List (List Bool)} {sa : Option Addr} {sc : Nat} {ca : Option Addr} {cc : Nat} {vs : List Value} (h : WebC g wb b lc L S cans sa sc ca cc vs) (k : g.Le g') : WebC g' wb b lc L S cans sa sc ca cc vs :=
  ⟨h.l.le k, fun w hw => h.s2 w (hw.le k), h.s.le k, fun w hw => h.c3 w (hw.le k), h.c.le k, h.rl, fun i row v h1 h2 => by obtain ⟨ra, rc, e, h3⟩ := h.rows i row v h1 h2; exact ⟨ra, rc, e, h3.le k⟩⟩

/-- Two looks into can. -/
theorem WebC.look {g : G} {wb b lc : Nat} {L : List Nd} {S : List UInt8} {cans : List (List Bool)} {sa : Option Addr} {sc : Nat} {ca : Option Addr} {cc : Nat} {vs : List Value} (h : WebC g wb b lc L S cans sa sc ca cc vs) {k j : Nat} {row : List Bool} {v : Bool} (hk : cans[k]? = some row) (hj : row[j]? = some v) :
    ∃ cb co rb ro rc, ca = some ⟨cb, co, none⟩ ∧ (∀ w, Fut g w → w.cell? ⟨cb, co + k, none⟩ = some (.slice (some ⟨rb, ro, none⟩) row.length rc)) ∧ (∀ w, Fut g w → w.cell? ⟨rb, ro + j, none⟩ = some (.bool v)) := by
  obtain ⟨hkl, -⟩ := List.getElem?_eq_some_iff.1 hk
  have hvl : k < vs.length := by rw [h.rl]; exact hkl
  obtain ⟨cb, co, hca, hcc⟩ := h.c.get (i := k) hvl
  obtain ⟨ra, rc, e, hr⟩ := h.rows k row _ hk (List.getElem?_eq_getElem hvl)
  obtain ⟨hjl, -⟩ := List.getElem?_eq_some_iff.1 hj
  obtain ⟨rb, ro, hra, hrc⟩ := hr.get (i := j) (by simpa using hjl)
  refine ⟨cb, co, rb, ro, rc, hca, ?_, ?_⟩
  · have := hcc k _ (List.getElem?_eq_getElem hvl)
    rw [e, hra] at this
    exact this
  · exact hrc j (.bool v) (by simp [hj, boolV])

noncomputable def canRow (L : List Nd) (S : List UInt8) (k : Nat) : List Bool := (List.range L.length).map (CanB L S k)

theorem any_hit {out : List Nat} {f : Nat → Bool} {q v : Nat} (hq : out[q]? = some v) (h : f v = true) : out.any f = true := List.any_eq_true.2 ⟨_, List.mem_of_getElem? hq, h⟩
theorem any_miss {out : List Nat} {f : Nat → Bool} (h : ∀ (j v : Nat), out[j]? = some v → f v = false) : out.any f = false := by
  rw [List.any_eq_false]
  intro x hx
  obtain ⟨j, hj⟩ := List.mem_iff_getElem?.1 hx
  simp [h j x hj]

/-- The slice of one place. -/
theorem one_sl {g : G} {w : World} (hw : Fut g w) (i : Nat) : ∃ g1, Grow g w g1 (w.alloc (.cells #[.int .i64 (i : Int)] 3)) ∧ SliceV g1 (some ⟨w.heap.size, 0, none⟩) 1 1 ([i].map natV) := by
  obtain ⟨g1, hg, hb⟩ := box1 hw (.cells #[.int .i64 (i : Int)] 3)
  refine ⟨g1, hg, .row w.heap.size 0 1 ([i].map natV) (by simp) (by omega) (fun w2 hw2 j v hi => ?_)⟩
  rw [Nat.zero_add]
  exact fut_cell hb j v (by simpa [natV] using hi) w2 hw2

/-- What reaches asks of a place by its number. -/
noncomputable def askB (L : List Nd) (S : List UInt8) (k : Nat) : Nat → Bool := fun j => match L[j]? with | some x => stepB L S k j x | none => false

set_option maxRecDepth 100000 in
set_option maxHeartbeats 4000000 in
theorem reaches_zero {g : G} {wb b lc : Nat} {L : List Nd} {S : List UInt8} (hl : WebL g wb b lc L) (hwf : WfW L) (hL : L.length ≤ 100000) {i : Nat} (hi : i < L.length) (w : World) (hw : Fut g w) :
    Calls Try.prog 48 #[.pointer (some ⟨wb, 0, none⟩), .int .i64 i, .int .i64 0] w fun e w' => e = .returned (.bool (CanB L S 0 i)) ∧ Grow g w g w' := by
  obtain ⟨g1, hg1, hs1⟩ := one_sl hw i
  have hcall := closed_any (hl.le hg1.le) hwf hL hs1 (by simp) (by simpa using hi) _ hg1.fut
  have HC := hid hcall
  have HG := hid hg1
  have HW := hid hl
  have HWF := hid hwf
  have HI := hid hi
  clear hcall hg1 hs1 hwf hi
  go_enter Try.func48, Try.ntmps48
  go_wp2_with (first | (go_at_call 30; refine HC.out.mono ?_) | fail)
  rintro e w2 ⟨g2, oa, oc, out, rfl, hg2, hso, hcl⟩
  have hnd := hcl.len HWF.out (by simpa using HI.out)
  have HG2 := hid (HG.out.trans hg2)
  have HSO := hid hso
  have hle2 := HG.out.le.trans hg2.le
  have HW2 := hid (HW.out.le hle2)
  have k0 := HW2.out.c0
  have hlt : ∀ j ∈ out, j < L.length := fun j hj => by obtain ⟨f, h1, h2⟩ := (hcl.mem j).1 hj; simp at h1; subst h1; exact h2.lt HWF.out HI.out
  have hres := can_step HWF.out (S := S) (k := 0) HI.out hcl
  have HR := hid hres
  have HLT := hid hlt
  have HND := hid hnd
  have HF2 := hid hg2.fut
  clear hcl hg2 hso hle2 hres hlt HC HW HI hl hw
  go_wp2_with fail
  go_loopg [15] out.length (fun rem i wr => ∃ q, q + rem = out.length ∧ i = .int .i64 (q : Nat) ∧ Hid (Grow g2 w2 g2 wr) ∧ Hid (∀ j v, j < q → out[j]? = some v → askB L S 0 v = false))
  case atStart => exact ⟨0, by omega, rfl, Grow.refl HF2.out, fun j _ h => by omega⟩
  case round =>
    obtain ⟨q, hq, rfl, HGR, HNO⟩ := hrel
    have hfr := HGR.out.fut
    by_cases hlt : q < out.length
    · obtain ⟨v, hv⟩ : ∃ v, out[q]? = some v := ⟨_, List.getElem?_eq_getElem hlt⟩
      have hio := HLT.out _ (List.mem_of_getElem? hv)
      obtain ⟨ob, oo, hoa, hoc⟩ := HSO.out.get (i := q) (by simpa using hlt)
      subst hoa
      have hcell := hoc q (.int .i64 (v : Nat)) (by simp [natV, hv])
      obtain ⟨x, hx⟩ : ∃ x, L[v]? = some x := ⟨_, List.getElem?_eq_getElem hio⟩
      obtain ⟨r, hnok, n0, n1, n2, n3, n4, n5⟩ := HW2.out.nd _ x hx
      have hask : askB L S 0 v = decide (v = 0) := by unfold askB; rw [hx]; rfl
      have hix : (v : Int) < (L.length : Int) := by omega
      have HQ := hid hq
      have HLQ := hid hlt
      have HAS := hid hask
      have HX := hid hx
      have HIO := hid hio
      have HV := hid hv
      clear hoc hnok hask hx hio hv
      by_cases h0 : v = 0
      · have HV0 := hid h0
        have h0' : ((v : Int) == 0) = true := by simp [h0]
        clear h0
        go_wp2_with fail
        go_ret
        refine ⟨ret_bool ?_, (HG2.out.trans HGR.out).forget⟩
        rw [HR.out]
        exact (any_hit (f := askB L S 0) HV.out (by rw [HAS.out, HV0.out]; rfl)).symm
      · have h0' : ((v : Int) == 0) = false := by simp [h0]
        have HV0 := hid h0
        obtain ⟨g3, hg3, hb3⟩ := box1 hfr (.cells #[.slice r.a r.n r.c, .int .u64 r.s.a, .int .u64 r.s.b, .int .u64 r.s.c, .int .u64 r.s.d, .int .i64 r.nx] 95)
        have HG3 := hid hg3
        have hf3 := hg3.fut
        clear h0 hg3 hb3
        go_wp2_with fail
        generalize hW : wr.alloc (.cells #[.slice r.a r.n r.c, .int .u64 r.s.a, .int .u64 r.s.b, .int .u64 r.s.c, .int .u64 r.s.d, .int .i64 r.nx] 95) = W at HG3 hf3 ⊢
        clear hW
        refine wp_region_cls (g := g3) (w0 := W) (by kernel_rfl) (by kernel_rfl) (Grow.refl hf3) ?_
        have hx : ∀ x : Wg g3 W, Fut g3 x.w := fun x => x.h.fut
        have hne : Nonempty (Wg g3 W) := ⟨⟨W, Grow.refl hf3⟩⟩
        repeat (go_big_quiet_step (fail))
        refine wpQuiet_nil ?_
        rintro _ ⟨⟨w5, hg5⟩, rfl⟩
        have HG5 := hid hg5
        clear hg5 hx hne
        go_wp2_with fail
        go_roundg (out.length - (q + 1))
        case measure => have h1 := HLQ.out; have h2 := HQ.out; omega
        case rel =>
          refine ⟨q + 1, by have h1 := HLQ.out; omega, by have h1 := HLQ.out; have h2 := HND.out; go_num, hid ((HGR.out.trans HG3.out).trans HG5.out).forget, fun j u hj hu => ?_⟩
          by_cases e : j = q
          · subst e
            rw [HV.out] at hu
            cases hu
            rw [HAS.out]
            simp [HV0.out]
          · exact HNO.out j u (by omega) hu
    · go_wp2_with fail
      go_ret
      refine ⟨ret_bool ?_, (HG2.out.trans HGR.out).forget⟩
      rw [HR.out]
      exact (any_miss (f := askB L S 0) fun j v hj => HNO.out j v (by have := (List.getElem?_eq_some_iff.1 hj).1; omega) hj).symm

set_option maxRecDepth 100000 in
set_option maxHeartbeats 4000000 in
theorem reaches_succ {g : G} {wb b lc : Nat} {L : List Nd} {S : List UInt8} {cans : List (List Bool)} {sa : Option Addr} {sc : Nat} {ca : Option Addr} {cc : Nat} {vs : List Value} (hCC : WebC g wb b lc L S cans sa sc ca cc vs) {k : Nat} (hk : cans[k]? = some (canRow L S k)) (hkb : k ≤ 1000) (hwf : WfW L) (hL : L.length ≤ 100000) {i : Nat} (hi : i < L.length) (w : World) (hw : Fut g w) :
    Calls Try.prog 48 #[.pointer (some ⟨wb, 0, none⟩), .int .i64 i, .int .i64 ((k : Int) + 1)] w fun e w' => e = .returned (.bool (CanB L S (k + 1) i)) ∧ Grow g w g w' := by
  have hl := hCC.l
  obtain ⟨g1, hg1, hs1⟩ := one_sl hw i
  have hcall := closed_any (hl.le hg1.le) hwf hL hs1 (by simp) (by simpa using hi) _ hg1.fut
  have HC := hid hcall
  have HG := hid hg1
  have HW := hid hl
  have HWF := hid hwf
  have HI := hid hi
  clear hcall hg1 hs1 hwf hi
  go_enter Try.func48, Try.ntmps48
  go_wp2_with (first | (go_at_call 30; refine HC.out.mono ?_) | fail)
  rintro e w2 ⟨g2, oa, oc, out, rfl, hg2, hso, hcl⟩
  have hnd := hcl.len HWF.out (by simpa using HI.out)
  have HG2 := hid (HG.out.trans hg2)
  have HSO := hid hso
  have hle2 := HG.out.le.trans hg2.le
  have HCC := hid (hCC.le hle2)
  have HW2 := hid HCC.out.l
  have k0 := HW2.out.c0
  have k2 := HCC.out.s2
  have k3 := HCC.out.c3
  have hkc : (k : Int) < (cans.length : Int) := by have := (List.getElem?_eq_some_iff.1 hk).1; omega
  have hwk : wrap64 (k : Int) = k := wrap64_in _ (by omega)
  have hk0 : (k : Int) + 1 ≠ 0 := by omega
  have hke : ((k : Int) + 1 == 0) = false := by simp; omega
  have hkg : (0 : Int) < (k : Int) + 1 := by omega
  have HK := hid hk
  clear hCC hk
  have hlt : ∀ j ∈ out, j < L.length := fun j hj => by obtain ⟨f, h1, h2⟩ := (hcl.mem j).1 hj; simp at h1; subst h1; exact h2.lt HWF.out HI.out
  have hres := can_step HWF.out (S := S) (k := k + 1) HI.out hcl
  have HR := hid hres
  have HLT := hid hlt
  have HND := hid hnd
  have HF2 := hid hg2.fut
  clear hcl hg2 hso hle2 hres hlt HC HW HI hl hw
  go_wp2_with fail
  go_loopg [15] out.length (fun rem i wr => ∃ q, q + rem = out.length ∧ i = .int .i64 (q : Nat) ∧ Hid (Grow g2 w2 g2 wr) ∧ Hid (∀ j v, j < q → out[j]? = some v → askB L S (k + 1) v = false))
  case atStart => exact ⟨0, by omega, rfl, Grow.refl HF2.out, fun j _ h => by omega⟩
  case round =>
    obtain ⟨q, hq, rfl, HGR, HNO⟩ := hrel
    have hfr := HGR.out.fut
    by_cases hlt : q < out.length
    · obtain ⟨v, hv⟩ : ∃ v, out[q]? = some v := ⟨_, List.getElem?_eq_getElem hlt⟩
      have hio := HLT.out _ (List.mem_of_getElem? hv)
      obtain ⟨ob, oo, hoa, hoc⟩ := HSO.out.get (i := q) (by simpa using hlt)
      subst hoa
      have hcell := hoc q (.int .i64 (v : Nat)) (by simp [natV, hv])
      obtain ⟨x, hx⟩ : ∃ x, L[v]? = some x := ⟨_, List.getElem?_eq_getElem hio⟩
      obtain ⟨r, hnok, n0, n1, n2, n3, n4, n5⟩ := HW2.out.nd _ x hx
      have hask : askB L S (k + 1) v = (CanB L S k x.next && decide (0 < (x.set.and (ofF S)).len)) := by unfold askB; rw [hx]; rfl
      have hix : (v : Int) < (L.length : Int) := by omega
      have hxn := HWF.out.next x (List.mem_of_getElem? hx)
      have hxs := HWF.out.set x (List.mem_of_getElem? hx)
      have hrow : (canRow L S k)[x.next]? = some (CanB L S k x.next) := by
        unfold canRow
        rw [List.getElem?_map, List.getElem?_range hxn]
        rfl
      have hrl : (x.next : Int) < ((canRow L S k).length : Int) := by
        have := (List.getElem?_eq_some_iff.1 hrow).1
        omega
      obtain ⟨cb, co, rb, ro, rc, hca, h1c, h2c⟩ := HCC.out.look HK.out hrow
      subst hca
      clear hrow
      generalize CanB L S k x.next = c1 at h2c hask
      rw [← hnok.next] at hrl h2c
      rw [← hnok.set] at hxs hask
      generalize (canRow L S k).length = rl at hrl h1c
      obtain ⟨g3, hg3, hb3⟩ := box1 hfr (.cells #[.slice r.a r.n r.c, .int .u64 r.s.a, .int .u64 r.s.b, .int .u64 r.s.c, .int .u64 r.s.d, .int .i64 r.nx] 95)
      have b1 := fut_cell hb3 1 _ rfl
      have b2 := fut_cell hb3 2 _ rfl
      have b3 := fut_cell hb3 3 _ rfl
      have b4 := fut_cell hb3 4 _ rfl
      have b5 := fut_cell hb3 5 _ rfl
      have hlf : ∀ w', Fut g3 w' → Fut g2 w' := fun w' h => h.le hg3.le
      have HQ := hid hq
      have HLQ := hid hlt
      have HAS := hid hask
      have HX := hid hx
      have HIO := hid hio
      have HV := hid hv
      have HG3 := hid hg3
      have hf3 := hg3.fut
      have HS := hid (HCC.out.s.le hg3.le)
      have HXS := hid hxs
      clear hoc hnok hask hx hio hv hg3 hb3 hxn hxs
      cases c1 with
      | false =>
        go_wp2_with fail
        generalize hW : wr.alloc (.cells #[.slice r.a r.n r.c, .int .u64 r.s.a, .int .u64 r.s.b, .int .u64 r.s.c, .int .u64 r.s.d, .int .i64 r.nx] 95) = W at HG3 hf3 ⊢
        clear hW
        refine wp_region_cls (g := g3) (w0 := W) (by kernel_rfl) (by kernel_rfl) (Grow.refl hf3) ?_
        have hx : ∀ x : Wg g3 W, Fut g3 x.w := fun x => x.h.fut
        have hne : Nonempty (Wg g3 W) := ⟨⟨W, Grow.refl hf3⟩⟩
        repeat (go_big_quiet_step (first | (go_at_call 34; exact quiet_grow (of_any HS.out _ (hx _))) | (go_at_call 70; exact quiet_grow (and_any r.s (ofF S) HXS.out (ofF_wf S) _ (hx _))) | (go_at_call 71; exact quiet_grow (len_any (r.s.and (ofF S)) (and_wf HXS.out) _ (hx _))) | fail))
        refine wpQuiet_nil ?_
        rintro _ ⟨⟨w5, hg5⟩, rfl⟩
        have HG5 := hid hg5
        clear hg5 hx hne
        go_wp2_with fail
        go_roundg (out.length - (q + 1))
        case measure => have h1 := HLQ.out; have h2 := HQ.out; omega
        case rel =>
          refine ⟨q + 1, by have h1 := HLQ.out; omega, by go_num, hid ((HGR.out.trans HG3.out).trans HG5.out).forget, fun j u hj hu => ?_⟩
          by_cases e : j = q
          · subst e
            rw [HV.out] at hu
            cases hu
            rw [HAS.out]
            rfl
          · exact HNO.out j u (by omega) hu
      | true =>
        by_cases hm : 0 < (r.s.and (ofF S)).len
        · have hmi : (0 : Int) < ((r.s.and (ofF S)).len : Nat) := by omega
          have HM := hid hm
          clear hm
          go_wp2_with fail
          generalize hW : wr.alloc (.cells #[.slice r.a r.n r.c, .int .u64 r.s.a, .int .u64 r.s.b, .int .u64 r.s.c, .int .u64 r.s.d, .int .i64 r.nx] 95) = W at HG3 hf3 ⊢
          clear hW
          refine wp_region_cls (g := g3) (w0 := W) (by kernel_rfl) (by kernel_rfl) (Grow.refl hf3) ?_
          have hx : ∀ x : Wg g3 W, Fut g3 x.w := fun x => x.h.fut
          have hne : Nonempty (Wg g3 W) := ⟨⟨W, Grow.refl hf3⟩⟩
          repeat (go_big_quiet_step (first | (go_at_call 34; exact quiet_grow (of_any HS.out _ (hx _))) | (go_at_call 70; exact quiet_grow (and_any r.s (ofF S) HXS.out (ofF_wf S) _ (hx _))) | (go_at_call 71; exact quiet_grow (len_any (r.s.and (ofF S)) (and_wf HXS.out) _ (hx _))) | fail))
          refine wpQuiet_nil ?_
          rintro _ ⟨⟨w5, hg5⟩, rfl⟩
          have HG5 := hid hg5
          clear hg5 hx hne
          go_wp2_with fail
          go_ret
          refine ⟨ret_bool ?_, (((HG2.out.trans HGR.out).trans HG3.out).trans HG5.out).forget⟩
          rw [HR.out]
          exact (any_hit (f := askB L S (k + 1)) HV.out (by rw [HAS.out]; simp [HM.out])).symm
        · have hmi : ((r.s.and (ofF S)).len : Nat) = 0 := by omega
          have hmz : ¬ (0 : Int) < ((r.s.and (ofF S)).len : Nat) := by omega
          have HM := hid hm
          clear hm hmi
          go_wp2_with fail
          generalize hW : wr.alloc (.cells #[.slice r.a r.n r.c, .int .u64 r.s.a, .int .u64 r.s.b, .int .u64 r.s.c, .int .u64 r.s.d, .int .i64 r.nx] 95) = W at HG3 hf3 ⊢
          clear hW
          refine wp_region_cls (g := g3) (w0 := W) (by kernel_rfl) (by kernel_rfl) (Grow.refl hf3) ?_
          have hx : ∀ x : Wg g3 W, Fut g3 x.w := fun x => x.h.fut
          have hne : Nonempty (Wg g3 W) := ⟨⟨W, Grow.refl hf3⟩⟩
          repeat (go_big_quiet_step (first | (go_at_call 34; exact quiet_grow (of_any HS.out _ (hx _))) | (go_at_call 70; exact quiet_grow (and_any r.s (ofF S) HXS.out (ofF_wf S) _ (hx _))) | (go_at_call 71; exact quiet_grow (len_any (r.s.and (ofF S)) (and_wf HXS.out) _ (hx _))) | fail))
          refine wpQuiet_nil ?_
          rintro _ ⟨⟨w5, hg5⟩, rfl⟩
          have HG5 := hid hg5
          clear hg5 hx hne
          go_wp2_with fail
          go_roundg (out.length - (q + 1))
          case measure => have h1 := HLQ.out; have h2 := HQ.out; omega
          case rel =>
            refine ⟨q + 1, by have h1 := HLQ.out; omega, by go_num, hid ((HGR.out.trans HG3.out).trans HG5.out).forget, fun j u hj hu => ?_⟩
            by_cases e : j = q
            · subst e
              rw [HV.out] at hu
              cases hu
              rw [HAS.out]
              simp [HM.out]
            · exact HNO.out j u (by omega) hu
    · go_wp2_with fail
      go_ret
      refine ⟨ret_bool ?_, (HG2.out.trans HGR.out).forget⟩
      rw [HR.out]
      exact (any_miss (f := askB L S (k + 1)) fun j v hj => HNO.out j v (by have := (List.getElem?_eq_some_iff.1 hj).1; omega) hj).symm

theorem reaches_any {g : G} {wb b lc : Nat} {L : List Nd} {S : List UInt8} {m : Nat} {sa : Option Addr} {sc : Nat} {ca : Option Addr} {cc : Nat} {vs : List Value} (hC : WebC g wb b lc L S ((List.range m).map (canRow L S)) sa sc ca cc vs) (hwf : WfW L) (hL : L.length ≤ 100000) {i : Nat} (hi : i < L.length) {k : Nat} (hk : k ≤ m) (hm : m ≤ 1000) (w : World) (hw : Fut g w) :
    Calls Try.prog 48 #[.pointer (some ⟨wb, 0, none⟩), .int .i64 i, .int .i64 (k : Nat)] w fun e w' => e = .returned (.bool (CanB L S k i)) ∧ Grow g w g w' := by
  cases k with
  | zero => exact reaches_zero hC.l hwf hL hi w hw
  | succ k => exact reaches_succ hC (k := k) (by rw [List.getElem?_map, List.getElem?_range (by omega)]; rfl) (by omega) hwf hL hi w hw
end Go.Proofs.Ytjodmimnbpgfcaa
