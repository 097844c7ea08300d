/- every's walk, walked. A library text: no claim is stated here. every's newWeb, walked. A library text: no claim is stated here. -/
import Derived.Test.YtjodmimnbpgfcaaS34
import Derived.Deep.RegionHeld3
import Derived.Test.YtjodmimnbpgfcaaS22

/- Walk -/
namespace Go.Proofs.Ytjodmimnbpgfcaa
open Go.RowKit Go.IntWalk

/-- What walk is to do, with k bytes more. -/
def WalkSpec (k : Nat) : Prop := ∀ {g : G} {wb b lc : Nat} {L : List Nd} {S : List UInt8} {m : Nat} {sa : Option Addr} {sc : Nat} {ca : Option Addr} {cc : Nat} {vs : List Value} (_ : WebC g wb b lc L S ((List.range m).map (canRow L S)) sa sc ca cc vs) (_ : WfW L) (_ : L.length ≤ 100000) (_ : S.length ≤ 1000) (_ : m ≤ 1000) (_ : k < m)
  {aa : Option Addr} {ac : Nat} {at_ : List Nat} (_ : SliceV g aa at_.length ac (at_.map natV)) (_ : ∀ i ∈ at_, i < L.length) (_ : ∀ i ∈ at_, ∀ j, RS L i j → j ∈ at_) (_ : at_.length ≤ L.length)
  {mb : Nat} {most : Int} (_ : g.blk mb = some (.cells #[.int .i64 most] 3)) (_ : most ≤ 2000)
  {w : World} {ob : Nat} {v hv : Value} {had : List UInt8} {ws : List (List UInt8)} {vals : List Value} (_ : OS g ob ws w v vals) (_ : HS g ob w v hv had) (_ : (ws.length : Int) ≤ most) (_ : had.length + k ≤ 1000) (kI : Int) (_ : kI = (k : Nat)),
  Calls Try.prog 29 #[.pointer (some ⟨wb, 0, none⟩), .slice aa at_.length ac, hv, .int .i64 kI, .func (.func 31) #[] #[.pointer (some ⟨ob, 0, none⟩), .pointer (some ⟨mb, 0, none⟩)]] w
    (WPost g w ob v hv had (runW most (wordsAt L S k at_ had) ws))

/-- What the walk of walk begins with. -/
theorem walk_cont {g g1 : G} {w : World} {wb b lc : Nat} {L : List Nd} {S : List UInt8} {m : Nat} {sa : Option Addr} {sc : Nat} {ca : Option Addr} {cc : Nat} {vs : List Value} {k : Nat} {kI : Int} (hkI : kI = (k : Nat)) (hC : WebC g wb b lc L S ((List.range m).map (canRow L S)) sa sc ca cc vs) (hL : L.length ≤ 100000) (hk : k < m) {aa : Option Addr} {ac : Nat} {at_ : List Nat} (ha : SliceV g aa at_.length ac (at_.map natV)) (hal : ∀ i ∈ at_, i < L.length) (hln : at_.length ≤ L.length)
    (hg : Grow g w g1 ((w.alloc (.cells #[.pointer (some ⟨wb, 0, none⟩)] 67)).alloc (.cells #[.int .i64 kI] 3))) (e1 : g1.blk w.heap.size = some (.cells #[.pointer (some ⟨wb, 0, none⟩)] 67)) (e2 : g1.blk (w.heap.size + 1) = some (.cells #[.int .i64 kI] 3)) :
    Calls Try.prog 49 #[.slice aa at_.length ac, .func (.func 50) #[] #[.pointer (some ⟨w.heap.size, 0, none⟩), .pointer (some ⟨w.heap.size + 1, 0, none⟩)]] ((w.alloc (.cells #[.pointer (some ⟨wb, 0, none⟩)] 67)).alloc (.cells #[.int .i64 kI] 3)) fun e w' => e = .returned (.bool (at_.any (CanB L S k))) ∧ Grow g1 ((w.alloc (.cells #[.pointer (some ⟨wb, 0, none⟩)] 67)).alloc (.cells #[.int .i64 kI] 3)) g1 w' := by
  subst hkI
  refine containsInts (ha.le hg.le) (by omega) 50 _ Try.call50 (CanB L S k) (fun i hi w' hw' => ?_) _ hg.fut
  have := walk1_any (hC.le hg.le) (k := k) (by rw [List.getElem?_map, List.getElem?_range hk]; rfl) (hal i hi) e1 e2 w' hw'
  simpa using this

set_option maxRecDepth 100000 in
set_option maxHeartbeats 4000000 in
theorem walk_zero : WalkSpec 0 := by
  intro g wb b lc L S m sa sc ca cc vs hC hwf hL hS hm hk aa ac at_ ha hal hac hln mb most hmb hmo w ob v hv had ws vals hO hH hws hhl kI hkI
  obtain rfl : kI = 0 := by simpa using hkI
  obtain ⟨g1, hg1, e1, e2⟩ := box2 hO.fut (.cells #[.pointer (some ⟨wb, 0, none⟩)] 67) (.cells #[.int .i64 0] 3)
  have hcont := walk_cont hkI hC hL hk ha hal hln hg1 e1 e2
  have hst := (WSt.start hO hH).kids hg1
  obtain ⟨ha1, hc1, rfl⟩ := own_shape hH.own
  have HST := hid hst
  have HMB := hid (hg1.le.blk _ _ hmb)
  have k1 := fut_cell e1 0 _ rfl
  have k2 := fut_cell e2 0 _ rfl
  generalize hW : ((w.alloc (.cells #[.pointer (some ⟨wb, 0, none⟩)] 67)).alloc (.cells #[.int .i64 0] 3)) = W at *
  have HC := hid hcont
  have hf1 := hg1.fut
  clear hC hal hac hmb hO hH hcont hst hg1 ha e1 e2 hkI
  have HWS := hid hws
  cases hany : at_.any (CanB L S 0) with
  | false =>
    rw [hany] at HC
    have hw0 := wordsAt_none (had := had) hany
    rw [hw0]
    go_enter Try.func29, Try.ntmps29
    go_wp2_with (first | (go_at_call 49; refine HC.out.mono ?_; rintro e w2 ⟨rfl, hg2⟩; have HG2 := hid hg2; clear hg2) | fail)
    go_ret
    exact ⟨rfl, g1, v, vals, HST.out.kids HG2.out⟩
  | true =>
    rw [hany] at HC
    have hw0 := wordsAt_zero (had := had) hany
    rw [hw0]
    have HHL := hid hhl
    clear hany hhl
    go_enter Try.func29, Try.ntmps29
    go_wp2_with (first | (go_at_call 49; refine HC.out.mono ?_; rintro e w2 ⟨rfl, hg2⟩; have HS2 := hid (HST.out.kids hg2); have HF2 := hid hg2.fut; have hf2 := hg2.fut; have hcl := clone_bytes (own_sl_all HS2.out.h.own) (by have := HHL.out; omega) w2 (fut_all w2); have HCL := hid hcl; clear hg2 hcl) | (go_at_call 51; refine HCL.out.mono ?_) | fail)
    rintro e w3 ⟨ao, cap, rfl, hg3, ho3⟩
    rw [List.length_map] at ho3 ⊢
    have hG3 := Grow.of_all HF2.out hg3
    obtain ⟨g4, hs4, hL4, hsl4, -⟩ := sl_keep (hG3.step fun _ => False) ho3 (fun k hk => ⟨(ho3.lt k hk).1, HF2.out.none_of_size (ho3.lt k hk).1⟩)
    have hst3 := HS2.out.kids hs4.grow
    have htk := texts1_any hst3.o (hL4.blk _ _ HMB.out) (by have := HWS.out; omega) hsl4
    have HT := hid htk
    have HS3 := hid hst3
    have HL4 := hid hL4
    have hf3 := hst3.o.fut
    clear hg3 ho3 hG3 hs4 hL4 hsl4 hst3 htk HCL
    go_wp2_with (first | (go_at_call 31; refine HT.out.mono ?_) | fail)
    rintro e w5 ⟨rfl, v5, vals5, hs5, ho5, hsub5⟩
    have HS5 := hid (HS3.out.took hs5 ho5 hsub5)
    clear hs5 ho5 hsub5
    go_wp2_with fail
    go_ret
    have hrun : runW most [had] ws = (decide ((ws.length : Int) + 1 ≤ most), ws ++ [had]) := by
      simp only [runW]
      split
      · rename_i h; simp [h]
      · rename_i h; simp [h]
    rw [hrun]
    exact ⟨rfl, g4, v5, vals5, HS5.out⟩

theorem closed_lt {L : List Nd} (hw : WfW L) {fr out : List Nat} (hf : ∀ i ∈ fr, i < L.length) (h : ClosedOf L fr out) : ∀ i ∈ out, i < L.length := fun i hi => by
  obtain ⟨f, h1, h2⟩ := (h.mem i).1 hi
  exact h2.lt hw (hf f h1)
theorem closed_cl {L : List Nd} {fr out : List Nat} (h : ClosedOf L fr out) : ∀ i ∈ out, ∀ j, RS L i j → j ∈ out := fun i hi j hj => by
  obtain ⟨f, h1, h2⟩ := (h.mem i).1 hi
  exact (h.mem j).2 ⟨f, h1, h2.trans hj⟩

set_option maxRecDepth 100000 in
set_option maxHeartbeats 8000000 in
theorem walk_succ {k : Nat} (IH : WalkSpec k) : WalkSpec (k + 1) := by
  intro g wb b lc L S m sa sc ca cc vs hC hwf hL hS hm hk aa ac at_ ha hal hac hln mb most hmb hmo w ob v hv had ws vals hO hH hws hhl kI hkI
  obtain rfl : kI = (k : Int) + 1 := by omega
  obtain ⟨g1, hg1, e1, e2⟩ := box2 hO.fut (.cells #[.pointer (some ⟨wb, 0, none⟩)] 67) (.cells #[.int .i64 ((k : Int) + 1)] 3)
  have hcont := walk_cont hkI hC hL hk ha hal hln hg1 e1 e2
  have hst := (WSt.start hO hH).kids hg1
  obtain ⟨ha1, hc1, rfl⟩ := own_shape hH.own
  have HST := hid hst
  have HMB := hid (hg1.le.blk _ _ hmb)
  have k1 := fut_cell e1 0 _ rfl
  have k2 := fut_cell e2 0 _ rfl
  generalize hW : ((w.alloc (.cells #[.pointer (some ⟨wb, 0, none⟩)] 67)).alloc (.cells #[.int .i64 ((k : Int) + 1)] 3)) = W at *
  have HC := hid hcont
  have hf1 := hg1.fut
  have HWB := hid (hC.le hg1.le)
  have HAT := hid (ha.le hg1.le)
  have q2 := HWB.out.s2
  have q0 := HWB.out.l.c0
  have hke : ((k : Int) + 1 == 0) = false := by simp; omega
  have hk0 : (k : Int) + 1 ≠ 0 := by omega
  have hwk : wrap64 (k : Int) = k := wrap64_in _ (by omega)
  have hwk2 : IntKind.i64.wrap (k : Int) = k := (i64_left _).trans hwk
  have HK := hid hk
  have HAL := hid (And.intro hal (And.intro hac hln))
  have HWS := hid hws
  have HHL := hid hhl
  have HWF := hid hwf
  clear hC hmb hO hH hcont hst hg1 ha e1 e2 hkI hac hal hk hws hhl hwf
  cases hany : at_.any (CanB L S (k + 1)) with
  | false =>
    rw [hany] at HC
    have hw0 := wordsAt_none (had := had) hany
    rw [hw0]
    go_enter Try.func29, Try.ntmps29
    go_wp2_with (first | (go_at_call 49; refine HC.out.mono ?_; rintro e w2 ⟨rfl, hg2⟩; have HG2 := hid hg2; clear hg2) | fail)
    go_ret
    exact ⟨rfl, g1, v, vals, HST.out.kids HG2.out⟩
  | true =>
    rw [hany] at HC
    rw [wordsAt_succ]
    clear hany
    go_enter Try.func29, Try.ntmps29
    go_wp2_with (first | (go_at_call 49; refine HC.out.mono ?_; rintro e w2 ⟨rfl, hg2⟩; have HS2 := hid (HST.out.kids hg2); have hf2 := hg2.fut; clear hg2) | fail)
    go_loopg [31] S.length (fun rem i wr => ∃ q g3 v3 vals3 ws3, q + rem = S.length ∧ i = .int .i64 (q : Nat) ∧ Hid (g1.Le g3) ∧ Hid (WSt g w ob v (.slice ha1 had.length hc1) had ws3 g3 wr v3 vals3) ∧ Hid (runW most ((S.take q).flatMap (wordsB L S k at_ had)) ws = (true, ws3)))
    case atStart => exact ⟨0, g1, v, vals, ws, by omega, rfl, G.Le.refl _, HS2, rfl⟩
    case round =>
      obtain ⟨q, g3, v3, vals3, ws3, hq, rfl, HL3, HW3, HRUN⟩ := hrel
      have hf3 := HW3.out.o.fut
      clear HS2 hf2 HC HST
      by_cases hlt : q < S.length
      · obtain ⟨bb, hbb⟩ : ∃ bb, S[q]? = some bb := ⟨_, List.getElem?_eq_getElem hlt⟩
        obtain ⟨sb, so, hsa, hsc⟩ := HWB.out.s.get (i := q) (by simpa using hlt)
        subst hsa
        have hcell := fun w' (h : Fut g3 w') => hsc q (.int .u8 (bb.toNat : Nat)) (by simp [byteV, hbb]) w' (h.le HL3.out)
        have hlg : ∀ w', Fut g3 w' → Fut g1 w' := fun w' h => h.le HL3.out
        have HBB := hid hbb
        have HQ := hid hq
        have HLT := hid hlt
        have hln2 : at_.length ≤ 100000 := by have := HAL.out.2.2; omega
        clear hsc hbb hq
        obtain ⟨nb, hnb⟩ : ∃ nb, nb = wr.heap.size := ⟨_, rfl⟩
        have HNB := hid hnb
        clear hnb
        go_wp2_with fail
        go_loopg [13, 37] at_.length (fun rem tv i wi => ∃ p ta tc, p + rem = at_.length ∧ i = .int .i64 (p : Nat) ∧ tv = .slice ta (toF L (at_.take p) bb).length tc ∧ Hid (Grow g3 wr g3 wi) ∧ Hid (wi.ownsRow nb 3 1 (.slice ta (toF L (at_.take p) bb).length tc) (toF L (at_.take p) bb).length ((toF L (at_.take p) bb).map natV)))
        case atStart => exact ⟨0, none, 0, by omega, rfl, rfl, Grow.refl hf3, World.ownsRow_nil _ _ _ _⟩
        case round =>
          obtain ⟨p, ta, tc, hp, rfl, rfl, HGI, HTO⟩ := hrel
          have hfi := HGI.out.fut
          by_cases hpl : p < at_.length
          · obtain ⟨i, hi⟩ : ∃ i, at_[p]? = some i := ⟨_, List.getElem?_eq_getElem hpl⟩
            obtain ⟨ab, ao, haa, hac2⟩ := HAT.out.get (i := p) (by simpa using hpl)
            subst haa
            have hcelli := fun w' (h : Fut g3 w') => hac2 p (.int .i64 (i : Nat)) (by simp [natV, hi]) w' (h.le HL3.out)
            have hil := HAL.out.1 i (List.mem_of_getElem? hi)
            obtain ⟨x, hx⟩ : ∃ x, L[i]? = some x := ⟨_, List.getElem?_eq_getElem hil⟩
            obtain ⟨r, hnok, n0, n1, n2, n3, n4, n5⟩ := HWB.out.l.nd i x hx
            have hxs := HWF.out.set x (List.mem_of_getElem? hx)
            have hpi : (p : Int) < (at_.length : Int) := by omega
            have hixi : (i : Int) < (L.length : Int) := by omega
            have hstep : toF L (at_.take (p + 1)) bb = toF L (at_.take p) bb ++ (if r.s.has bb.toNat then [r.nx] else []) := by
              obtain ⟨hpl', rfl⟩ := List.getElem?_eq_some_iff.1 hi
              rw [List.take_succ_eq_append_getElem hpl', toF_snoc, hx]
              simp only [hnok.set, hnok.next]
            rw [← hnok.set] at hxs
            have hhas := has_any r.s bb.toNat wr hfi bb.toNat_lt hxs
            have hlenT := toF_len L (at_.take p) bb
            have HSTP := hid hstep
            have HP := hid hp
            have HPL := hid hpl
            have HLT2 := hid hlenT
            clear hac2 hi hx hnok hstep hxs hil hp hlenT
            cases hb : r.s.has bb.toNat with
            | false =>
              rw [hb] at hhas
              have HB := hid hb
              have HHAS := hid hhas
              clear hb hhas
              go_wp2_with (first | (go_at_call 52; refine HHAS.out.mono ?_; rintro e w5 ⟨rfl, hg5⟩; have HG5 := hid hg5; clear hg5) | fail)
              go_roundg (at_.length - (p + 1))
              case measure => have h1 := HPL.out; have h2 := HP.out; omega
              case rel =>
                have e : toF L (at_.take (p + 1)) bb = toF L (at_.take p) bb := by rw [HSTP.out, HB.out]; simp
                refine ⟨p + 1, ta, tc, by have h1 := HPL.out; omega, by go_num, by rw [e], HGI.out.trans HG5.out, hid ?_⟩
                rw [e]
                exact ownsRow_same HTO.out (fun k hk => HG5.out.old k (HTO.out.lt k hk).2)
            | true =>
              rw [hb] at hhas
              have HB := hid hb
              have HHAS := hid hhas
              obtain ⟨i0, hi0, hz0, hz1, hz2⟩ := info_parts Try.info3'
              have hstT : toF L (at_.take (p + 1)) bb = toF L (at_.take p) bb ++ [r.nx] := by rw [HSTP.out, HB.out]; simp
              have HSTT := hid hstT
              clear hb hhas hstT HSTP
              generalize toF L (at_.take p) bb = T at *
              go_wp2_with (first | (go_at_call 52; refine HHAS.out.mono ?_; rintro e w5 ⟨rfl, hg5⟩; have HG5 := hid hg5; have hf5 := hg5.fut; have HT5 := hid (ownsRow_same HTO.out (fun k hk => hg5.old k (HTO.out.lt k hk).2)); clear hg5) | (at_builtin; refine wpList_append_lies _ rfl (.tmp 51) (.tmp 60) 70 rfl nb 3 i0 (.int .i64 0) 1 8 Try.underlying70 hi0 hz0 hz1 hz2 rfl (by decide) (.slice ta T.length tc) T.length (T.map natV) rfl (HT5.out.alloc _) ⟨w5.heap.size, 0, none⟩ 1 1 [.int .i64 (r.nx : Nat)] rfl rfl (cell_one_new w5 _ 3) (by simp [Value.oneCell']) (by decide) (by have h1 := HLT2.out; unfold maxLen; simp at h1; omega) (by have h1 := HLT2.out; simp at h1; omega) (by rw [World.size_alloc]; have h1 := HNB.out; have h2 := HGI.out.size; have h3 := HG5.out.size; omega) _ rfl ?_) | fail)
              intro kb kcap w6 hown6 hgrow6 hat6 hlt6
              have hG6 : Grow g3 _ g3 w6 := ((HGI.out.trans HG5.out).alloc _).grown hgrow6 (fun k hk => ⟨by have h1 := HNB.out; have h2 := (HT5.out.lt k hk).1; omega, hf3.none_of_size (by have h1 := HNB.out; have h2 := (HT5.out.lt k hk).1; omega)⟩)
              have HG6 := hid hG6
              have HO6 := hid hown6
              clear hG6 hown6 hgrow6 hat6 hlt6
              go_wp2_with fail
              go_roundg (at_.length - (p + 1))
              case measure => have h1 := HPL.out; have h2 := HP.out; omega
              case rel =>
                refine ⟨p + 1, some ⟨kb, 0, none⟩, kcap, by have h1 := HPL.out; omega, by go_num, by rw [HSTT.out]; simp, HG6.out, hid ?_⟩
                rw [HSTT.out]
                simpa [natV] using HO6.out
          · obtain rfl : p = at_.length := by omega
            have hto := HTO.out
            rw [List.take_length] at hto
            obtain ⟨g4, hs4, hL4, hsl4, -⟩ := sl_keep (HGI.out.step fun _ => False) hto (fun x hx => ⟨by have h1 := HNB.out; have h2 := (hto.lt x hx).1; omega, hf3.none_of_size (by have h1 := HNB.out; have h2 := (hto.lt x hx).1; omega)⟩)
            have hst4 := HW3.out.kids hs4.grow
            have hf4 := hst4.o.fut
            have hclo := fun w' (h : Fut g4 w') => closed_any (HWB.out.l.le (HL3.out.trans hL4)) HWF.out hL hsl4 (by have h1 := toF_len L at_ bb; omega) (toF_lt HWF.out at_ bb) w' h
            have HCLO := hid hclo
            have HW4 := hid hst4
            have HL4 := hid (HL3.out.trans hL4)
            have hl4 : ∀ w', Fut g4 w' → Fut g1 w' := fun w' h => h.le HL4.out
            have HLIVE := hid (runW_live most _ ws HWS.out (by rw [HRUN.out]))
            have HRUN3 := hid (congrArg Prod.snd HRUN.out)
            have hih := fun (g5 : G) (ca5 : Option Addr) (cc5 : Nat) (out : List Nat) (w6 : World) (hv' : Value) (hL5 : g4.Le g5) (hsl5 : SliceV g5 ca5 out.length cc5 (out.map natV)) (hcl5 : ClosedOf L (toF L at_ bb) out) (ho6 : OS g5 ob ws3 w6 v3 vals3) (hh6 : HS g5 ob w6 v3 hv' (had ++ [bb])) =>
              IH (HWB.out.le (HL4.out.trans hL5)) HWF.out hL hS hm (by have := HK.out; omega) hsl5 (closed_lt HWF.out (toF_lt HWF.out at_ bb) hcl5) (closed_cl hcl5) (hcl5.len HWF.out (toF_lt HWF.out at_ bb)) (hL5.blk _ _ (HL4.out.blk _ _ HMB.out)) hmo ho6 hh6 (by have h1 := HLIVE.out; rw [HRUN3.out] at h1; exact h1) (by have := HHL.out; simp; omega) (k : Int) rfl
            have HIH := hid hih
            clear hto hs4 hL4 hsl4 hst4 hclo HTO HGI hfi hih
            simp only [List.take_length]
            have hfd := hf4.drew
            have hfda := (hf4.alloc (.cells #[.int .u8 (bb.toNat : Int)] 5)).drew
            go_wp2_with fail
            go_region_held3 (fun w' => Fut g4 w') (first | exact Fut.drew (by assumption) | exact Fut.alloc (by assumption) _ | assumption) (first | (go_at_call 30; (with_reducible refine (HCLO.out _ hfd).mono ?_); rintro e w5 ⟨g5, ca5, cc5, out, rfl, hg5, hsl5, hcl5⟩; have HST5 := hid ((HW4.out.kids ((Grow.refl hf4).drew)).kids (hg5.alloc (.cells #[.int .u8 (bb.toNat : Int)] 5))); have HBK := hid (heap_alloc_new w5 (.cells #[.int .u8 (bb.toNat : Int)] 5)); have HL5 := hid hg5.le; have hf5 := hg5.fut.le hg5.le; have HSL5 := hid hsl5; have HCL5 := hid hcl5; clear hg5 hsl5 hcl5 HCLO) | (go_at_call 30; (with_reducible refine (HCLO.out _ hfda).mono ?_); rintro e w5 ⟨g5, ca5, cc5, out, rfl, hg5, hsl5, hcl5⟩; have HST5 := hid ((HW4.out.kids (((Grow.refl hf4).alloc (.cells #[.int .u8 (bb.toNat : Int)] 5)).drew)).kids hg5); have HBK := hid ((hg5.old wr.heap.size (by show wr.heap.size < (wr.alloc _).heap.size; rw [World.size_alloc]; exact Nat.lt_succ_self _)).trans (heap_alloc_new wr (.cells #[.int .u8 (bb.toNat : Int)] 5))); have HL5 := hid hg5.le; have hf5 := hg5.fut.le hg5.le; have HSL5 := hid hsl5; have HCL5 := hid hcl5; clear hg5 hsl5 hcl5 HCLO) | (go_at_call 29; (with_reducible refine (HIH.out g5 ca5 cc5 out w6 hv' HL5.out HSL5.out HCL5.out HAPP.out.o HAPP.out.h).mono ?_); rintro e w7 ⟨rfl, g7, v7, vals7, hst7⟩; have HST7 := hid (HST5.out.app HAPP.out hst7); have hf7 := hst7.step.fut.le (HL5.out.trans hst7.step.le); have HL7 := hid hst7.step.le; clear hst7) | (refine step_append_had _ rfl (.tmp 67) (.tmp 69) rfl rfl rfl rfl HST5.out.o HST5.out.h (by have := HHL.out; omega) HBK.out ?_; intro hv' w6 happ; have HAPP := hid happ; have hf6 := happ.step.fut.le HL5.out; clear happ) | fail)
            all_goals
              have hwb := wordsB_eq (S := S) (k := k) (had := had) HAL.out.2.1 HCL5.out
              have hmore := run_more (f := wordsB L S k at_ had) HBB.out HRUN.out
              rw [← hwb] at hmore
              have HMORE := hid hmore
              clear hwb hmore
              generalize runW most (wordsAt L S k out (had ++ [bb])) ws3 = r at *
              obtain ⟨rb, rws⟩ := r
              cases rb with
              | false =>
                go_wp2_with fail
                go_ret
                have hstop := run_stop (most := most) (S := S) (f := wordsB L S k at_ had) (ws := ws) (q := q + 1) (by rw [HMORE.out])
                rw [hstop, HMORE.out]
                exact ⟨rfl, g7, v7, vals7, HST7.out⟩
              | true =>
                go_wp2_with fail
                go_roundg (S.length - (q + 1))
                case measure => have h1 := HLT.out; have h2 := HQ.out; omega
                case rel => exact ⟨q + 1, g7, v7, vals7, rws, by have h1 := HLT.out; omega, by go_num, HL4.out.trans (HL5.out.trans HL7.out), HST7.out, HMORE.out⟩
      · obtain rfl : q = S.length := by omega
        go_wp2_with fail
        go_ret
        have h := HRUN.out
        rw [List.take_length] at h
        rw [h]
        exact ⟨rfl, g3, v3, vals3, HW3.out⟩

theorem walk_any : ∀ k, WalkSpec k
  | 0 => walk_zero
  | k + 1 => walk_succ (walk_any k)
end Go.Proofs.Ytjodmimnbpgfcaa

/- NewB -/
namespace Go.Proofs.Ytjodmimnbpgfcaa
open Go.RowKit Go.IntWalk

theorem Try.info97 : (Try.prog.info? 97).map (fun i => (i.zero, i.size, i.bytes)) = some (some (.slice none 0 0), 1, 24) := by kernel_rfl
theorem Try.infoB4 : (Try.prog.info? 4).map (fun i => (i.zero, i.size, i.bytes)) = some (some (.bool false), 1, 1) := by kernel_rfl

set_option maxRecDepth 100000 in
set_option maxHeartbeats 8000000 in
theorem newWeb_any {g : G} {r : CRow} {c : Core} (h : CoreV g r c) (hwf : wfC c = true) (hn : nodes c ≤ 50000) (hww : WfW (addR c.re 0 [nd0]).2) {S : List UInt8} {sa : Option Addr} {sc : Nat} (hs : SliceV g sa S.length sc (S.map byteV)) {n : Nat} (hn8 : n ≤ 8) (w : World) (hw : Fut g w) :
    Calls Try.prog 28 #[r.val, .slice sa S.length sc, .int .i64 (n : Nat)] w (NewWP g w c S n) := by
  obtain ⟨g1, hg, c0, c1, c2, c3, c4, c5, c6⟩ := box_core hw r
  have hsp := addw_any h hwf
  have hrn := reN_le _ c (Nat.le_refl _) hwf
  have hal := addR_len c.re 0 [nd0]
  have hf1 := hg.fut
  have HS := hid (hs.le hg.le)
  have HSP := hid hsp
  have HL := hid hg.le
  have HWW := hid hww
  simp only [List.length_cons, List.length_nil] at hal
  unfold CRow.val at *
  generalize hW : w.alloc (.cells #[.int .i64 r.k, .int .u64 r.s.a, .int .u64 r.s.b, .int .u64 r.s.c, .int .u64 r.s.d, .int .i64 r.n, .slice r.a r.len r.cap] 27) = W at hg hf1
  have hfr := WebS.fresh (sv := .slice sa S.length sc) hg
  have hcall := hsp g w g1 (W.heap.size + 1) _ _ _ [nd0] _ 0 hg.le ⟨_, _, hfr⟩ (by simp; omega)
  have fa := fun o => hf1.alloc o
  have fb := fun o o' => (hf1.alloc o).alloc o'
  unfold CRow.val at hcall
  have HC := hid hcall
  clear hcall hfr hg hsp h hs hww
  go_enter Try.func28, Try.ntmps28
  go_wp2_with (first | (go_at_call 47; refine HC.out.mono ?_) | fail)
  rintro e w2 ⟨rfl, g2, hL2, hE2⟩
  obtain ⟨pv, rs, hS2⟩ := hE2
  have q1 := heap_cell hS2.box 1 _ rfl
  have z1 := heap_free hS2.box 1
  have HS3 := hid (NW.start (hS2.setSt (.int .i64 ((addR c.re 0 [nd0]).1 : Nat))))
  have HL2 := hid hL2
  clear hS2 hL2 HC c0 c1 c2 c3 c4 c5 c6
  generalize hLL : (addR c.re 0 [nd0]).2 = L at *
  generalize hst : (addR c.re 0 [nd0]).1 = st at *
  go_wp2_with fail
  have HNB := hid hn8
  go_loopg [24] (n + 1) (fun rem i wr => ∃ q g3 pv rs cv vs, q + rem = n + 1 ∧ i = .int .i64 (q : Nat) ∧ Hid (g2.Le g3) ∧ Hid (NW g w g3 (W.heap.size + 1) (.int .i64 (st : Nat)) (.slice sa S.length sc) L wr pv rs cv ((List.range q).map (canRow L S)) vs))
  case atStart => exact ⟨0, g2, pv, rs, _, [], by omega, rfl, G.Le.refl _, HS3⟩
  case round =>
    obtain ⟨q, g3, pv3, rs3, cv3, vs3, hq, rfl, HL3, HNW⟩ := hrel
    clear HS3 q1 z1
    by_cases hlt : q < n + 1
    · have hL0 : 0 < L.length := by omega
      have hlen : (List.map (canRow L S) (List.range q)).length = q := by simp
      obtain ⟨pb, pc, rfl, -, -⟩ := HNW.out.web.own.form hL0
      obtain ⟨ca3, cc3, rfl⟩ := own_shape HNW.out.co
      have t0 := heap_cell HNW.out.web.box 0 _ rfl
      obtain ⟨i1, hi1, hy0, hy1, hy2⟩ := info_parts Try.infoB4
      have hsz0 := HNW.out.web.grow.size
      have HLT := hid hlt
      have HQ := hid hq
      have hlL : L.length ≤ 60000 := by omega
      go_wp2_with (first | (at_make; refine wpList_make_full wr rfl (.tmp 31) (.tmp 31) 97 rfl w.heap.size 4 i1 (.bool false) 1 Try.underlying97 hi1 hy0 hy1 .i64 .i64 _ _ L.length rfl rfl rfl rfl (by rw [hy2]; omega) (by unfold maxLen; omega) hsz0 ?_) | fail)
      intro w4 hown4 hg4
      have HR4 := hid (RowSt.made (S := S) (k := q) HNW.out hg4 hown4)
      clear hown4 hg4 t0 hi1 hsz0 HNW
      generalize wr.heap.size = rb at HR4 ⊢
      go_wp2_with fail
      go_loopg [35] L.length (fun rem i wr => ∃ p xs, p + rem = L.length ∧ i = .int .i64 (p : Nat) ∧ Hid (RowSt g w g3 (W.heap.size + 1) (.int .i64 (st : Nat)) (.slice sa S.length sc) L S q wr (.slice (some ⟨pb, 0, none⟩) L.length pc) rs3 (.slice ca3 (List.map (canRow L S) (List.range q)).length cc3) ((List.range q).map (canRow L S)) vs3 rb p xs))
      case atStart => exact ⟨0, _, by omega, rfl, HR4⟩
      case round =>
        obtain ⟨p, xs, hp, rfl, HRp⟩ := hrel
        clear HR4
        by_cases hpl : p < L.length
        · have hfi := HRp.out.nw.web.grow.fut
          obtain ⟨b5, lc5, ca5, cc5, -, -, hWC⟩ := HRp.out.nw.webC hfi.le_all (fun b o hb _ => hb) (HS.out.le (HL2.out.trans HL3.out)) hL0
          have hre := reaches_any hWC HWW.out (by omega) hpl (Nat.le_refl q) (by omega) wr (fut_all wr)
          have HRE := hid hre
          have HPL := hid hpl
          have HP := hid hp
          have hpi : (p : Int) < (L.length : Int) := by omega
          clear hWC hre
          go_wp2_with (first | (go_at_call 48; refine HRE.out.mono ?_) | fail)
          rintro e w5 ⟨rfl, hg5⟩
          have hR5 := HRp.out.kids (Grow.of_all hfi hg5)
          have hxl : xs.length = L.length := by have := hR5.own.1; omega
          obtain ⟨xp, r5⟩ : ∃ xp, w5.cell? ⟨rb, p, none⟩ = some xp := by
            rw [hR5.own.cellAt p (by omega), List.getElem?_eq_getElem (by omega)]
            exact ⟨_, rfl⟩
          have z5 := hR5.own.frozenAt p
          have HR5 := hid hR5
          clear hR5 hg5 HRp HRE hxl
          go_wp2_with fail
          go_roundg (L.length - (p + 1))
          case measure => have h1 := HPL.out; have h2 := HP.out; omega
          case rel => exact ⟨p + 1, _, by have h1 := HPL.out; omega, by go_num, HR5.out.put HPL.out⟩
        · obtain rfl : p = L.length := by omega
          obtain ⟨g4, hL4, hN4, hrow⟩ := HRp.out.keep
          have t3 := heap_cell hN4.web.box 3 _ rfl
          have hltw := lt_of_block hN4.web.box
          have hco := hN4.co
          have hcw : some (W.heap.size + 1) ≠ (Value.slice ca3 (List.map (canRow L S) (List.range q)).length cc3).ownBlock := fun e => hN4.cw e.symm
          have hsz := hN4.web.grow.size
          obtain ⟨i2, hi2, hx0, hx1, hx2⟩ := info_parts Try.info97
          have HN4 := hid hN4
          have HL4 := hid hL4
          have HROW := hid hrow
          rw [hlen] at t3 hco hcw
          have hcl : (canRow L S q).length = L.length := by simp [canRow]
          have HCL := hid hcl
          have HLEN := hid hlen
          have HCW := hid hcw
          have HTW := hid hltw
          have f3 := heap_free hN4.web.box 3
          clear hN4 hL4 hrow HRp hcl hlen hcw
          go_wp2_with (first | (at_builtin; refine wpList_append_lies _ rfl (.tmp 50) (.tmp 52) 73 rfl w.heap.size 97 i2 (.slice none 0 0) 1 24 Try.underlying73 hi2 hx0 hx1 hx2 rfl (by decide) (.slice ca3 q cc3) q vs3 rfl (hco.alloc _) ⟨wr.heap.size, 0, none⟩ 1 1 [.slice (some ⟨rb, 0, none⟩) L.length L.length] rfl rfl (cell_one_new wr _ 97) (by simp [Value.oneCell']) (by decide) (by unfold maxLen; omega) (by omega) (by rw [World.size_alloc]; omega) _ rfl ?_) | fail)
          intro kb kcap w6 hown6 hgrow6 hat6 hlt6
          have fz1 : w6.frozen? ⟨W.heap.size + 1, 3, none⟩ = false := (hgrow6.frozen_far _ (by rw [World.size_alloc]; exact Nat.lt_succ_of_lt hltw) HCW.out).trans ((World.frozen?_alloc_old _ _ _ (Nat.ne_of_lt hltw)).trans f3)
          have tz1 : w6.cell? ⟨W.heap.size + 1, 3, none⟩ = some (.slice ca3 (List.map (canRow L S) (List.range q)).length cc3) := (hgrow6.cell_far _ (by rw [World.size_alloc]; exact Nat.lt_succ_of_lt hltw) HCW.out).trans ((World.cell?_alloc_lt _ _ _ hltw).trans (by rw [HLEN.out]; exact t3))
          have hpush := HN4.out.push (row := canRow L S q) (v := .slice (some ⟨rb, 0, none⟩) L.length L.length) (ra := some ⟨rb, 0, none⟩) (rc := L.length) (by rw [HCL.out]) HROW.out (by rw [HLEN.out]; exact hgrow6) (by rw [HLEN.out]; exact hown6) (by rw [HLEN.out, World.size_alloc]; exact hat6)
          rw [HLEN.out] at hpush
          have HPU := hid hpush
          clear hpush hown6 hgrow6 hat6 hlt6 t3 f3 hco HN4
          go_wp2_with fail
          go_roundg (n + 1 - (q + 1))
          case measure => have h1 := HLT.out; have h2 := HQ.out; omega
          case rel =>
            have hfin := HPU.out
            have hcs : List.map (canRow L S) (List.range q) ++ [canRow L S q] = List.map (canRow L S) (List.range (q + 1)) := by rw [List.range_succ, List.map_append]; rfl
            rw [hcs] at hfin
            exact ⟨q + 1, g4, _, rs3, _, _, by have h1 := HLT.out; omega, by go_num, HL3.out.trans HL4.out, hfin⟩
    · obtain rfl : q = n + 1 := by omega
      go_wp2_with fail
      go_ret
      subst hLL hst
      exact HNW.out.fin (HS.out.le (HL2.out.trans HL3.out))
end Go.Proofs.Ytjodmimnbpgfcaa
