/- The reference's Texts, walked. A library text: no claim is stated here. -/
import Derived.Test.YtjodmimnbpgfcaaS46

/- TeB -/
namespace Go.Proofs.Ytjodmimnbpgfcaa
open Go.RowKit Go.IntWalk

/-- A list of texts of the call's own. -/
structure TI (w0 : World) (gq : G) (wr : World) (a : Option Addr) (n c : Nat) (l : List (List UInt8)) (vals : List Value) : Prop where
  own : OwnT w0.heap.size gq wr (.slice a n c) l vals
  len : l.length = n
  nown : ∀ k, (Value.slice a n c).ownBlock = some k → gq.blk k = none

section
variable {w0 : World} {gq g2 : G} {wr w2 w3 : World} {a : Option Addr} {n c kb kcap H : Nat} {l : List (List UInt8)} {vals : List Value} {u : List UInt8} {x : Value}
theorem TI.start : TI w0 gq wr none 0 0 [] [] := ⟨OwnT.start _ _ _, rfl, fun k h => by simp [Value.ownBlock] at h⟩
theorem TI.lt (h : TI w0 gq wr a n c l vals) {k : Nat} (hk : (Value.slice a n c).ownBlock = some k) : w0.heap.size ≤ k ∧ k < wr.heap.size := h.own.own.lt k hk
theorem TI.row (h : TI w0 gq wr a n c l vals) : wr.ownsRow w0.heap.size 28 1 (.slice a n c) n vals := by have := h.own.own; rwa [h.len] at this
theorem TI.go (h : TI w0 gq wr a n c l vals) (hg : Grow gq wr g2 w2) : TI w0 g2 w2 a n c l vals :=
  ⟨h.own.grow hg, h.len, fun k hk => hg.new k (h.nown k hk) (h.lt hk).2⟩
theorem TI.other (h : TI w0 gq wr a n c l vals) {row : Option Nat} (hg : wr.grownBy w3 row) (hne : ∀ k, (Value.slice a n c).ownBlock = some k → row ≠ some k) : TI w0 gq w3 a n c l vals :=
  ⟨h.own.other hg (G.Le.refl _) hne, h.len, h.nown⟩
theorem TI.app (h : TI w0 gq wr a n c l vals) (hx : WordAt gq u x) (ho : w3.ownsRow w0.heap.size 28 1 (.slice (some ⟨kb, 0, none⟩) (n + 1) kcap) (n + 1) (vals ++ [x])) (hat : (Value.slice a n c).ownBlock = some kb ∨ kb = H) (hH : gq.blk H = none) :
    TI w0 gq w3 (some ⟨kb, 0, none⟩) (n + 1) kcap (l ++ [u]) (vals ++ [x]) :=
  ⟨h.own.snoc h.len hx ho, by simp [h.len], fun k hk => by
    simp only [Value.ownBlock, Option.some.injEq] at hk
    subst hk
    rcases hat with h1 | h1
    · exact h.nown _ h1
    · rw [h1]; exact hH⟩
theorem TI.grown {g0 : G} (h : TI w0 gq wr a n c l vals) (hG : Grow g0 w0 gq wr) (hg : wr.grownBy w3 (Value.slice a n c).ownBlock) : Grow g0 w0 gq w3 :=
  hG.grown hg (fun k hk => ⟨(h.lt hk).1, h.nown k hk⟩)
end
theorem dis_app {A B : Option Nat} {kb H : Nat} (hd : ∀ k, A = some k → B ≠ some k) (hat : A = some kb ∨ kb = H) (hB : ∀ k, B = some k → k < H) : ∀ k, some kb = some k → B ≠ some k := by
  intro k hk e
  simp only [Option.some.injEq] at hk
  subst hk
  rcases hat with h | h
  · exact hd _ h e
  · have := hB _ e; omega

theorem wp_append_sl {g : G} {w : World} {ops : Array Oper} {o : Oper} {a : Act} {K : Act → World → Prop} {Q : Exit → Act → World → Prop} {E : Prop} (hgd : o.guard = none) (s x : Operand)
    (ho : o.op = .call { callee := .builtin .append, args := #[s, x], argTypes := #[28, 28] }) (hty : o.type = 28)
    (base : Nat) {v : Value} {n : Nat} {xs : List Value} (hs : a.eval s = v) (hown : w.ownsRow base 5 1 v n xs)
    {b : Option Addr} {m c : Nat} {u : List UInt8} (hx : a.eval x = .slice b m c) (hv : SliceV g b m c (u.map byteV)) (hf : Fut g w)
    (h63 : n + m ≤ maxLen) (hbytes : (n + m) * 1 ≤ 140737488355328) (hbase : base ≤ w.heap.size)
    (h : ∀ ao cap w', w'.ownsRow base 5 1 (.slice ao (n + m) cap) (n + m) (xs ++ u.map byteV) → w.grownBy w' v.ownBlock → K (a.put o.dst (.slice ao (n + m) cap)) w') :
    if Region.wanted o (yielded ops a.tmps) = true then Oper.wp Try.prog o a w K Q else E := by
  have hw : Region.wanted o (yielded ops a.tmps) = true := by simp [Region.wanted, hgd]
  rw [if_pos hw]
  obtain ⟨i, hi, hz, hsize, hby⟩ := info_parts Try.info5
  obtain ⟨v', w', hr, h2, h3, h5⟩ := run_append_sl (P := Try.prog) w base 28 28 5 i _ 1 Try.underlying28 hi hz hsize hby rfl hown hv hf (byteV_one u) h63 hbytes hbase
  obtain ⟨ao, cap, rfl⟩ : ∃ ao cap, v' = .slice ao (n + m) cap := by
    rcases h2.2 with ⟨h1, h2⟩ | ⟨k, cap, cur, h1, -⟩
    · exact ⟨none, 0, by rw [h1, h2]⟩
    · exact ⟨_, _, h1⟩
  unfold Oper.wp execOp
  simp only [ho, hty, resolve, invoke, builtin, Sem.run_bind, Sem.run_pure, Result.andThen_ok, List.map_toArray, List.map_cons, List.map_nil, hs, hx, hr]
  exact h ao cap w' h2 h3

theorem zero5 {w : World} {base : Nat} (hb : base ≤ w.heap.size) : (w.alloc (.cells #[] 5)).drew.ownsRow base 5 1 (.slice (some ⟨w.heap.size, 0, none⟩) 0 0) 0 [] :=
  World.ownsRow_made (base := base) (e := 5) (size := 1) w #[] 0 hb (by unfold maxLen; omega) rfl
theorem zero5B (w : World) (o1 : Obj) : ((w.alloc (.cells #[] 5)).alloc o1).drew.ownsRow w.heap.size 5 1 (.slice (some ⟨w.heap.size, 0, none⟩) 0 0) 0 [] :=
  (zero5 (w := w) (Nat.le_refl _)).alloc o1
theorem zero5C (w : World) (o1 : Obj) : ((w.alloc o1).alloc (.cells #[] 5)).drew.ownsRow w.heap.size 5 1 (.slice (some ⟨w.heap.size + 1, 0, none⟩) 0 0) 0 [] := by
  have := zero5 (w := w.alloc o1) (base := w.heap.size) (by simp)
  rwa [World.size_alloc] at this
theorem grow_apT {g : G} {wk W w4 : World} {v : Value} (hW : Grow g wk g W) (hv : ∀ k, v.ownBlock = some k → wk.heap.size ≤ k) (hf : Fut g wk) (hgr : W.grownBy w4 v.ownBlock) : Grow g wk g w4 :=
  hW.grown hgr (fun k hk => ⟨hv k hk, hf.none_of_size (hv k hk)⟩)
theorem nextW_len (S : List UInt8) (ws : List (List UInt8)) : (nextW S ws).length = ws.length * S.length := by
  induction ws with
  | nil => simp [nextW]
  | cons u r ih => simp only [nextW, List.flatMap_cons, List.length_append, List.length_map] at ih ⊢; rw [ih, List.length_cons, Nat.add_mul]; omega

theorem textsR_succ (c : Core) (S : List UInt8) (k : Nat) : textsR c S (k + 1) = textsR c S k ++ (wordsR S k).filter (saysR c) := by
  simp [textsR, List.range_succ, List.flatMap_append]
theorem nextW_snoc (S : List UInt8) (W : List (List UInt8)) {i : Nat} (hi : i < W.length) : nextW S (W.take (i + 1)) = nextW S (W.take i) ++ S.map fun b => W[i] ++ [b] := by
  unfold nextW
  rw [List.take_add_one, List.getElem?_eq_getElem hi, List.flatMap_append]
  simp

set_option maxRecDepth 100000 in
set_option maxHeartbeats 8000000 in
theorem refTexts_good {g : G} {r : CRow} {c : Core} (h : RefV g r c) (hnc : nodes c ≤ 2000) (hwf : wfC c = true) (hfm : formedF c = true) {S : List UInt8} {sa : Option Addr} {sc : Nat} (hsl : SliceV g sa S.length sc (S.map byteV)) (n : Nat) (most : Int) (hn8 : n ≤ 8) (hS : S.length ≤ 16) (h2 : 0 ≤ most) (h3 : most ≤ 2000)
    (hnd : ∀ i j (hj : j < i) (hi : i < S.length), S[j] ≠ S[i]) (hW : ∀ k, k ≤ n → (wordsR S k).length ≤ 100000 ∧ ∀ u ∈ wordsR S k, u.length ≤ 200) (hL : ∀ k, k ≤ n + 1 → (textsR c S k).length ≤ 100000) (w : World) (hw : Fut g w) :
    Calls Try.prog 24 #[.agg (cellsR r), .slice sa S.length sc, .int .i64 (n : Nat), .int .i64 most] w (TextsP g w (if ((textsR c S (n + 1)).length : Int) ≤ most then (textsR c S (n + 1), 0) else ([], 6))) := by
  obtain ⟨i0, hi, hz0, hz1, hz2⟩ := info_parts Try.info28
  obtain ⟨i5, hi5, hy0, hy1, hy2⟩ := info_parts Try.info5
  obtain ⟨g1, hg1, c0, cs, cn, cl, cv⟩ := box_ref hw r
  have hf1 := hg1.fut
  have HC := hid (rgood_any (h.le hg1.le) hnc _ hf1)
  have HSAY := hid (fun (g' : G) (hle : g1.Le g') (u : List UInt8) (ua : Option Addr) (uc : Nat) (hu : u.length ≤ 256) (hul : SliceV g' ua u.length uc (u.map byteV)) (w' : World) (hw' : Fut g' w') => refSays_any (h.le (hg1.le.trans hle)) hnc hwf hfm hu hul w' hw')
  have H := hid (cv _ hf1)
  have HCV := hid cv
  have HG1 := hid hg1
  have HSL := hid (hsl.le hg1.le)
  have HND := hid hnd
  have HW := hid hW
  have HL := hid hL
  have e1 : decide ((n : Int) < 0) = false := by simp
  have e2 : decide ((n : Int) > 8) = false := by simp; omega
  have e3 : decide ((S.length : Int) > 16) = false := by simp; omega
  have e4 : decide (most < 0) = false := by simpa using h2
  have e5 : decide (most > 2000) = false := by simpa using h3
  generalize hRES : (if ((textsR c S (n + 1)).length : Int) ≤ most then (textsR c S (n + 1), (0 : Int)) else ([], 6)) = RES
  have HRES := hid hRES
  clear c0 cs cn cl cv hg1 hsl hnd hW hL hRES
  rw [hfm] at HC
  go_enter Try.func24, Try.ntmps24
  go_upto_block 0 with (first | (refine wpList_load54 rfl _ rfl rfl H.out ?_) | (go_at_call 39; refine HC.out.mono ?_; rintro e w2 ⟨rfl, hg2⟩; have HG2 := hid hg2; have hf2 := hg2.fut; clear hg2) | fail)
  go_cut [] from 10 to 62 (fun wc => Grow g w g1 wc)
  case first =>
    go_wp2_with fail
    go_loopg [10] S.length (fun rem i wr => ∃ q : Nat, q + rem = S.length ∧ i = .int .i64 q ∧ Grow g w g1 wr)
    case atStart => exact ⟨0, by omega, rfl, HG1.out.trans HG2.out⟩
    case round =>
      obtain ⟨q, hq, rfl, hg⟩ := hrel
      have hfr := hg.fut
      have HG := hid hg
      clear hg hf2
      by_cases hlt : q < S.length
      · have hqi : (q : Int) < S.length := by omega
        go_wp2_with fail
        go_loopg [11] q (fun rem i wr => ∃ p : Nat, p + rem = q ∧ i = .int .i64 p ∧ Grow g w g1 wr)
        case atStart => exact ⟨0, by omega, rfl, HG.out⟩
        case round =>
          clear HG
          obtain ⟨p, hp, rfl, hg⟩ := hrel
          have hfp := hg.fut
          have HG := hid hg
          clear hg hfr
          by_cases hpt : p < q
          · have hpi : (p : Int) < q := by omega
            have hps : (p : Int) < S.length := by omega
            obtain ⟨sb, so, rfl, hsc, ka⟩ := HSL.out.at (i := p) (v := byteV S[p]) (by simp [List.getElem?_eq_getElem (show p < S.length by omega)])
            obtain ⟨sb', so', e, -, kb⟩ := HSL.out.at (i := q) (v := byteV S[q]) (by simp [List.getElem?_eq_getElem hlt])
            simp only [Option.some.injEq, Addr.mk.injEq] at e
            obtain ⟨rfl, rfl, -⟩ := e
            have hne : (((S[p]).toNat : Int) == ((S[q]).toNat : Int)) = false := by
              have := HND.out q p hpt hlt
              have h5 : ¬ (S[p]).toNat = (S[q]).toNat := fun e => this (UInt8.toNat_inj.1 e)
              simp; omega
            unfold byteV at ka kb
            have hx : ∀ x : Wg g1 wr, Fut g1 x.w := fun x => x.h.fut
            have hnn : Nonempty (Wg g1 wr) := ⟨⟨_, Grow.refl hfp⟩⟩
            go_upto_region 9 with fail
            refine wp_region_cls (g := g1) (w0 := wr) (by kernel_rfl) (by kernel_rfl) (Grow.refl hfp) ?_
            repeat (go_big_quiet_step (fail))
            refine wpQuiet_nil ?_
            rintro wa ⟨⟨_, hga⟩, rfl⟩
            have HGA := hid hga
            have hfa := hga.fut
            clear hga hx hnn
            go_wp2_with fail
            go_roundg (q - (p + 1))
            case measure => omega
            case rel => exact ⟨p + 1, by omega, by go_num, HG.out.trans HGA.out⟩
          · obtain rfl : p = q := by omega
            go_wp2_with fail
            go_roundg (S.length - (p + 1))
            case measure => omega
            case rel => exact ⟨p + 1, by omega, by go_num, HG.out⟩
      · go_wp2_with fail
        go_meet
        case rel => exact HG.out
  case rest =>
    have HGC := hid hcut
    clear hcut HG1 HG2 H HC HND hf1 hf2
    obtain ⟨g2, hg2, eb1, eb2⟩ := box2 HGC.out.fut (.cells #[] 5) (.cells #[.slice (some ⟨wc.heap.size, 0, none⟩) 0 0] 28)
    have hw0 : SliceW g2 (some ⟨wc.heap.size + 1, 0, none⟩) 1 1 [[]] := by
      refine ⟨[.slice (some ⟨wc.heap.size, 0, none⟩) 0 0], ?_, rfl, rfl, fun i u x h1 h2 => ?_⟩
      · exact SliceV.row (wc.heap.size + 1) 0 1 [.slice (some ⟨wc.heap.size, 0, none⟩) 0 0] (by simp) (by omega) (fun w' hw' i v hv => by rw [Nat.zero_add]; exact fut_cell eb2 i v (by simpa using hv) w' hw')
      · rcases i with _ | i
        · simp at h1 h2
          subst h1 h2
          exact ⟨_, _, rfl, SliceV.row wc.heap.size 0 0 [] (by simp) (by omega) (fun w' hw' i v hv => by simp at hv)⟩
        · simp at h1
    have HW0 := hid hw0
    have hle12 : g1.Le g2 := hg2.le
    have HGW := hid (HGC.out.trans hg2)
    clear hw0 hg2 eb1 eb2
    go_upto_block 4 with fail
    go_wp2_with fail
    go_loopg [12, 13, 14] (n + 1) (fun rem s12 s13 i wr => ∃ (q m l1 : Nat) (gq : G) (la : Option Addr) (lc : Nat) (lv : List Value) (wa : Option Addr) (wn : Nat), q + rem = n + 1 ∧ s12 = .slice la l1 lc ∧ s13 = .slice wa m wn ∧ i = .int .i64 q ∧ g1.Le gq ∧ Grow g w gq wr ∧ Hid (TI w gq wr la l1 lc (textsR c S q) lv) ∧ Hid (q ≤ n → SliceW gq wa m wn (wordsR S q)))
    case atStart => exact ⟨0, 1, 0, g2, none, 0, [], _, _, by omega, rfl, rfl, rfl, hle12, HGW.out, TI.start, fun _ => HW0.out⟩
    case round =>
      obtain ⟨q, m, l1, gq, la, lc, lv, wa, wn, hq, rfl, rfl, rfl, hle, hg, HTL, HWQ⟩ := hrel
      have hfq := hg.fut
      have HG := hid hg
      clear hg HW0 HGW HGC
      by_cases hlt : q ≤ n
      · have HWS := hid (HWQ.out hlt)
        obtain ⟨hWl, hWu⟩ := HW.out q hlt
        have hLl := HL.out (q + 1) (by omega)
        have hwm : m = (wordsR S q).length := by obtain ⟨_, _, h, _⟩ := HWS.out; exact h
        have htx := textsR_succ c S q
        generalize hA : textsR c S q = A at HTL htx
        generalize hWW : wordsR S q = W at HWS hWl hWu hwm htx
        have HTX := hid htx
        have HWU := hid hWu
        have HWW := hid hWW
        subst hwm
        clear HWQ htx hWu hWW
        go_wp2_with fail
        go_loopg [12, 15, 16] W.length (fun rem s12 s15 i wr => ∃ (p l1 n1 : Nat) (gp : G) (la : Option Addr) (lc : Nat) (lv : List Value) (na : Option Addr) (nc : Nat) (nv : List Value), p + rem = W.length ∧ s12 = .slice la l1 lc ∧ s15 = .slice na n1 nc ∧ i = .int .i64 p ∧ gq.Le gp ∧ Grow g w gp wr ∧ Hid (TI w gp wr la l1 lc (A ++ (W.take p).filter (saysR c)) lv) ∧ Hid (TI w gp wr na n1 nc (if q < n then nextW S (W.take p) else []) nv) ∧ Hid (∀ k, (Value.slice la l1 lc).ownBlock = some k → (Value.slice na n1 nc).ownBlock ≠ some k))
        case atStart => exact ⟨0, l1, 0, gq, la, lc, lv, none, 0, [], by omega, rfl, rfl, rfl, G.Le.refl _, HG.out, hid (by simpa using HTL.out), hid (by simpa [nextW] using TI.start), fun k hk e => by simp [Value.ownBlock] at e⟩
        case round =>
          clear HTL HG hfq
          obtain ⟨p, l2, n2, gp, la2, lc2, lv2, na, nc, nv, hp, rfl, rfl, rfl, hle2, hg, HTA, HTN, HD⟩ := hrel
          have hfp := hg.fut
          have HG := hid hg
          clear hg
          by_cases hpt : p < W.length
          · obtain ⟨wb, wo, ua, uc, rfl, hwn, kcell, hsu⟩ := HWS.out.at hpt
            have hul := HWU.out W[p] (List.getElem_mem _)
            have kc := fun w' (hw' : Fut gp w') => kcell w' (hw'.le hle2)
            have HSU := hid (hsu.le hle2)
            have HSY := hid (fun w' (hw' : Fut gp w') => HSAY.out gp (hle.trans hle2) W[p] ua uc (by omega) (hsu.le hle2) w' hw')
            have HCW := hid (fun w' (hw' : Fut gp w') => HCV.out w' (hw'.le (hle.trans hle2)))
            have hpi : (p : Int) < W.length := by omega
            have hsay : endsR W[p] c.re (fun t => t == 0) W[p].length = saysR c W[p] := rfl
            rw [hsay] at HSY
            have hl2 : l2 ≤ 100000 := by
              have h5 := HTA.out.len
              have h6 : (A ++ (W.take p).filter (saysR c)).length ≤ (A ++ W.filter (saysR c)).length := by
                have h8 := ((List.take_sublist p W).filter (saysR c)).length_le
                simp only [List.length_append]; omega
              have h7 := HTX.out
              rw [h7] at hLl
              omega
            clear kcell hsu hsay
            go_upto_region 20 with fail
            refine wp_region_held_drew (S := (fun w' => Fut gp w')) (by kernel_rfl) hfp.drew ?_
            intro hS0
            refine wpAnyH_take (i := 0) (oi := { dst := some 75, op := Go.Op.load 54 (Go.Operand.tmp 4), type := 54, pos := "ref.go:840", after := #[], guard := none }) (v := ?_) rfl (by kernel_rfl) (by kernel_rfl) (by kernel_rfl) (fun _ _ _ h => h) (Or.inl ⟨by rfl, ?_⟩) (by assumption) ?_
            rotate_left
            · intro w hSw; refine exec_load54 (x := .tmp 4) (r := r) ?_ ?_ (HCW.out _ hSw) <;> rfl
            try simp only [Act.put, List.setIfInBounds_toArray, List.set_cons_zero, List.set_cons_succ]
            refine wpAnyH_take (i := 1) (oi := { dst := some 76, op := Go.Op.move (Go.Operand.tmp 13), type := 33, pos := "ref.go:840", after := #[], guard := none }) (v := ?_) rfl (by kernel_rfl) (by kernel_rfl) (by kernel_rfl) (fun _ _ _ h => h) (Or.inl ⟨by rfl, ?_⟩) (by assumption) ?_
            rotate_left
            · intro w hSw; go_simp; all_goals with_reducible rfl
            try simp only [Act.put, List.setIfInBounds_toArray, List.set_cons_zero, List.set_cons_succ]
            refine wpAnyH_take (i := 2) (oi := { dst := some 77, op := Go.Op.move (Go.Operand.tmp 16), type := 3, pos := "ref.go:840", after := #[], guard := none }) (v := ?_) rfl (by kernel_rfl) (by kernel_rfl) (by kernel_rfl) (fun _ _ _ h => h) (Or.inl ⟨by rfl, ?_⟩) (by assumption) ?_
            rotate_left
            · intro w hSw; go_simp; all_goals with_reducible rfl
            try simp only [Act.put, List.setIfInBounds_toArray, List.set_cons_zero, List.set_cons_succ]
            refine wpAnyH_take (i := 3) (oi := { dst := some 78, op := Go.Op.indexAddr 33 (Go.Operand.tmp 76) (Go.Operand.tmp 77), type := 0, pos := "ref.go:840", after := #[{ on := 1, ground := Go.Ground.data }, { on := 2, ground := Go.Ground.data }], guard := none }) (v := ?_) rfl (by kernel_rfl) (by kernel_rfl) (by kernel_rfl) (fun _ _ _ h => h) (Or.inl ⟨by rfl, ?_⟩) (by assumption) ?_
            rotate_left
            · intro w hSw; go_simp; all_goals with_reducible rfl
            try simp only [Act.put, List.setIfInBounds_toArray, List.set_cons_zero, List.set_cons_succ]
            refine wpAnyH_take (i := 4) (oi := { dst := some 79, op := Go.Op.load 28 (Go.Operand.tmp 78), type := 28, pos := "ref.go:840", after := #[{ on := 3, ground := Go.Ground.data }], guard := none }) (v := ?_) rfl (by kernel_rfl) (by kernel_rfl) (by kernel_rfl) (fun _ _ _ h => h) (Or.inl ⟨by rfl, ?_⟩) (by assumption) ?_
            rotate_left
            · intro w hSw; go_simp; all_goals with_reducible rfl
            try simp only [Act.put, List.setIfInBounds_toArray, List.set_cons_zero, List.set_cons_succ]
            refine wpAnyH_ready (rs := [5]) (by kernel_rfl) (by simp) ?_
            refine (AllReadyH.cons (o := { dst := some 80, op := Go.Op.call { callee := Go.Callee.value (Go.Operand.func 42), args := #[Go.Operand.tmp 75, Go.Operand.tmp 79], argTypes := #[54, 28] }, type := 4, pos := "ref.go:840", after := #[{ on := 0, ground := Go.Ground.data }, { on := 4, ground := Go.Ground.data }], guard := none }) rfl (fun K hK => ?_) AllReadyH.nil)
            · go_simp
              refine (HSY.out _ (by assumption)).mono ?_
              rintro e w3 ⟨rfl, hg3⟩
              have HG3 := hid ((Grow.refl hfp).drew.trans hg3)
              have hf3 := hg3.fut
              clear hg3
              try go_wp2_with fail
              refine hK.out _ _ ?_ (fun hHeld => ?_)
              · first | exact Fut.drew (by assumption) | exact Fut.alloc (by assumption) _ | assumption
              clear hK K
              try simp only [Act.put, List.setIfInBounds_toArray, List.set_cons_zero, List.set_cons_succ]
              refine wpAnyH_done (by kernel_rfl) ?_ _
              have HTA3 := hid (HTA.out.go HG3.out)
              have HTN3 := hid (HTN.out.go HG3.out)
              have HG4 := hid (HG.out.trans HG3.out)
              have hwat : WordAt gp W[p] (.slice ua W[p].length uc) := ⟨ua, uc, rfl, HSU.out⟩
              have HWA := hid hwat
              clear HTA HTN HG HG3 HSY HCW hwat
              go_upto_if 80 with fail
              go_cut [12] from 80 to 88 (fun s12 wd => ∃ (l3 : Nat) (la3 : Option Addr) (lc3 : Nat) (lv3 : List Value), s12 = .slice la3 l3 lc3 ∧ Hid (Grow g w gp wd) ∧ Hid (TI w gp wd la3 l3 lc3 (A ++ (W.take (p + 1)).filter (saysR c)) lv3) ∧ Hid (TI w gp wd na n2 nc (if q < n then nextW S (W.take p) else []) nv) ∧ Hid (∀ k, (Value.slice la3 l3 lc3).ownBlock = some k → (Value.slice na n2 nc).ownBlock ≠ some k))
              case first =>
                have htk : W.take (p + 1) = W.take p ++ [W[p]] := by rw [List.take_add_one, List.getElem?_eq_getElem hpt]; rfl
                cases hsy : saysR c W[p] with
                | true =>
                  have hfl : (A ++ (W.take (p + 1)).filter (saysR c)) = (A ++ (W.take p).filter (saysR c)) ++ [W[p]] := by rw [htk, List.filter_append, List.append_assoc]; simp [hsy]
                  have HFL := hid hfl
                  have HTA4 := hid (HTA3.out.go ((Grow.refl hf3).alloc (.cells #[.slice ua W[p].length uc] 28)))
                  have HTN4 := hid (HTN3.out.go ((Grow.refl hf3).alloc (.cells #[.slice ua W[p].length uc] 28)))
                  have HG5 := hid (HG4.out.alloc (.cells #[.slice ua W[p].length uc] 28))
                  have hbase := HG5.out.size
                  clear hfl htk hsy
                  go_wp2_with (first | (at_builtin; refine wpList_append_lies _ rfl (.tmp 81) (.tmp 86) 33 rfl w.heap.size 28 i0 (.slice none 0 0) 1 24 Try.underlying33 hi hz0 hz1 hz2 rfl (by decide) _ l2 lv2 rfl HTA4.out.row ⟨w3.heap.size, 0, none⟩ 1 1 [.slice ua W[p].length uc] rfl rfl (World.news_of_block (heap_alloc_new _ _)) (by simp [Value.oneCell']) (by decide) (by unfold maxLen; omega) (by omega) hbase _ rfl ?_; intro kb kcap w5 ho5 hgr5 hat5 hlt5; have HTA5 := hid (HTA4.out.app HWA.out ho5 hat5 (HG5.out.fut.none_of_size (Nat.le_refl _))); have HTN5 := hid (HTN4.out.other hgr5 (fun k hk e => HD.out k e hk)); have HG6 := hid (HTA4.out.grown HG5.out hgr5); have HD5 := hid (dis_app HD.out hat5 (fun k hk => (HTN4.out.lt hk).2)); clear ho5 hgr5 hat5 hlt5) | fail)
                  go_meet
                  case rel => exact ⟨_, _, _, _, rfl, HG6.out, hid (by rw [HFL.out]; exact HTA5.out), HTN5.out, fun k hk => HD5.out k hk⟩
                | false =>
                  have hfl : (A ++ (W.take (p + 1)).filter (saysR c)) = (A ++ (W.take p).filter (saysR c)) := by rw [htk, List.filter_append]; simp [hsy]
                  have HFL := hid hfl
                  clear hfl htk hsy
                  go_wp2_with fail
                  go_meet
                  case rel => exact ⟨_, _, _, _, rfl, HG4.out, hid (by rw [HFL.out]; exact HTA3.out), HTN3.out, HD.out⟩
              case rest =>
                obtain ⟨l3, la3, lc3, lv3, rfl, HGd, HTAd, HTNd, HDd⟩ := hcut
                clear HTA3 HTN3 HG4 HD hf3
                have hfd := HGd.out.fut
                have hpS : p * S.length ≤ 100000 * 16 := Nat.mul_le_mul (by omega) hS
                have hsucc : ∀ Y, (if q < n then nextW S (W.take p) else []) ++ (if q < n then S.map fun b => W[p] ++ [b] else []) = Y → (if q < n then nextW S (W.take (p + 1)) else []) = Y := by
                  intro Y hY
                  rw [← hY]
                  by_cases hqn : q < n
                  · rw [if_pos hqn, if_pos hqn, if_pos hqn, nextW_snoc S W hpt]
                  · rw [if_neg hqn, if_neg hqn, if_neg hqn]; rfl
                have HSUCC := hid hsucc
                clear hsucc
                go_wp2_with fail
                go_loopg [15, 17] S.length (fun rem s15 i wr => ∃ (j n3 : Nat) (gj : G) (na : Option Addr) (nc : Nat) (nv : List Value), j + rem = S.length ∧ s15 = .slice na n3 nc ∧ i = .int .i64 j ∧ gp.Le gj ∧ Grow g w gj wr ∧ Hid (TI w gj wr la3 l3 lc3 (A ++ (W.take (p + 1)).filter (saysR c)) lv3) ∧ Hid (TI w gj wr na n3 nc ((if q < n then nextW S (W.take p) else []) ++ (if q < n then (S.take j).map fun b => W[p] ++ [b] else [])) nv) ∧ Hid (∀ k, (Value.slice la3 l3 lc3).ownBlock = some k → (Value.slice na n3 nc).ownBlock ≠ some k))
                case atStart => exact ⟨0, n2, gp, na, nc, nv, by omega, rfl, rfl, G.Le.refl _, HGd.out, HTAd.out, hid (by simpa using HTNd.out), HDd.out⟩
                case round =>
                  clear HTAd HTNd HDd HGd hfd
                  obtain ⟨j, n3, gj, na2, nc2, nv2, hj, rfl, rfl, hle3, hg, HTA, HTN, HD⟩ := hrel
                  have hfj := hg.fut
                  have HG := hid hg
                  clear hg
                  by_cases hjt : j < S.length
                  · have hjs : (j : Int) < S.length := by omega
                    by_cases hqn : q < n
                    · have hqni : (q : Int) < n := by omega
                      have hn3 : n3 ≤ 100000 * 16 + 16 := by
                        have h5 := HTN.out.len
                        rw [if_pos hqn, if_pos hqn, List.length_append, nextW_len, List.length_map, List.length_take, List.length_take] at h5
                        have h6 : min p W.length * S.length ≤ p * S.length := Nat.mul_le_mul (Nat.min_le_left _ _) (Nat.le_refl _)
                        omega
                      obtain ⟨sb, so, rfl, hsc, kS⟩ := HSL.out.at (i := j) (v := byteV S[j]) (by simp [List.getElem?_eq_getElem hjt])
                      have ks := fun w' (hw' : Fut gj w') => kS w' (hw'.le ((hle.trans hle2).trans hle3))
                      have kw := fun w' (hw' : Fut gj w') => kc w' (hw'.le hle3)
                      have HSUJ := hid (HSU.out.le hle3)
                      unfold byteV at ks
                      rw [if_pos hqn, if_pos hqn] at HTN
                      clear kS kc
                      go_upto_region 25 with fail
                      refine wp_region_held_drew (S := (fun w' => Fut gj w')) (by kernel_rfl) hfj.drew ?_
                      intro hS0
                      refine wpAnyH_take (i := 0) (oi := { dst := some 99, op := Go.Op.move (Go.Operand.tmp 15), type := 33, pos := "ref.go:844", after := #[], guard := none }) (v := ?_) rfl (by kernel_rfl) (by kernel_rfl) (by kernel_rfl) (fun _ _ _ h => h) (Or.inl ⟨by rfl, ?_⟩) (by assumption) ?_
                      rotate_left
                      · intro w hSw; go_simp; all_goals with_reducible rfl
                      try simp only [Act.put, List.setIfInBounds_toArray, List.set_cons_zero, List.set_cons_succ]
                      refine wpAnyH_take (i := 2) (oi := { dst := some 101, op := Go.Op.move (Go.Operand.tmp 13), type := 33, pos := "ref.go:844", after := #[], guard := none }) (v := ?_) rfl (by kernel_rfl) (by kernel_rfl) (by kernel_rfl) (fun _ _ _ h => h) (Or.inl ⟨by rfl, ?_⟩) (by assumption) ?_
                      rotate_left
                      · intro w hSw; go_simp; all_goals with_reducible rfl
                      try simp only [Act.put, List.setIfInBounds_toArray, List.set_cons_zero, List.set_cons_succ]
                      refine wpAnyH_take (i := 3) (oi := { dst := some 102, op := Go.Op.move (Go.Operand.tmp 16), type := 3, pos := "ref.go:844", after := #[], guard := none }) (v := ?_) rfl (by kernel_rfl) (by kernel_rfl) (by kernel_rfl) (fun _ _ _ h => h) (Or.inl ⟨by rfl, ?_⟩) (by assumption) ?_
                      rotate_left
                      · intro w hSw; go_simp; all_goals with_reducible rfl
                      try simp only [Act.put, List.setIfInBounds_toArray, List.set_cons_zero, List.set_cons_succ]
                      refine wpAnyH_take (i := 4) (oi := { dst := some 103, op := Go.Op.indexAddr 33 (Go.Operand.tmp 101) (Go.Operand.tmp 102), type := 0, pos := "ref.go:844", after := #[{ on := 2, ground := Go.Ground.data }, { on := 3, ground := Go.Ground.data }], guard := none }) (v := ?_) rfl (by kernel_rfl) (by kernel_rfl) (by kernel_rfl) (fun _ _ _ h => h) (Or.inl ⟨by rfl, ?_⟩) (by assumption) ?_
                      rotate_left
                      · intro w hSw; go_simp; all_goals with_reducible rfl
                      try simp only [Act.put, List.setIfInBounds_toArray, List.set_cons_zero, List.set_cons_succ]
                      refine wpAnyH_take (i := 5) (oi := { dst := some 104, op := Go.Op.load 28 (Go.Operand.tmp 103), type := 28, pos := "ref.go:844", after := #[{ on := 4, ground := Go.Ground.data }], guard := none }) (v := ?_) rfl (by kernel_rfl) (by kernel_rfl) (by kernel_rfl) (fun _ _ _ h => h) (Or.inl ⟨by rfl, ?_⟩) (by assumption) ?_
                      rotate_left
                      · intro w hSw; go_simp; all_goals with_reducible rfl
                      try simp only [Act.put, List.setIfInBounds_toArray, List.set_cons_zero, List.set_cons_succ]
                      refine wpAnyH_take (i := 7) (oi := { dst := some 106, op := Go.Op.move (Go.Operand.tmp 1), type := 28, pos := "ref.go:844", after := #[], guard := none }) (v := ?_) rfl (by kernel_rfl) (by kernel_rfl) (by kernel_rfl) (fun _ _ _ h => h) (Or.inl ⟨by rfl, ?_⟩) (by assumption) ?_
                      rotate_left
                      · intro w hSw; go_simp; all_goals with_reducible rfl
                      try simp only [Act.put, List.setIfInBounds_toArray, List.set_cons_zero, List.set_cons_succ]
                      refine wpAnyH_take (i := 8) (oi := { dst := some 107, op := Go.Op.move (Go.Operand.tmp 17), type := 3, pos := "ref.go:844", after := #[], guard := none }) (v := ?_) rfl (by kernel_rfl) (by kernel_rfl) (by kernel_rfl) (fun _ _ _ h => h) (Or.inl ⟨by rfl, ?_⟩) (by assumption) ?_
                      rotate_left
                      · intro w hSw; go_simp; all_goals with_reducible rfl
                      try simp only [Act.put, List.setIfInBounds_toArray, List.set_cons_zero, List.set_cons_succ]
                      refine wpAnyH_take (i := 9) (oi := { dst := some 108, op := Go.Op.indexAddr 28 (Go.Operand.tmp 106) (Go.Operand.tmp 107), type := 0, pos := "ref.go:844", after := #[{ on := 7, ground := Go.Ground.data }, { on := 8, ground := Go.Ground.data }], guard := none }) (v := ?_) rfl (by kernel_rfl) (by kernel_rfl) (by kernel_rfl) (fun _ _ _ h => h) (Or.inl ⟨by rfl, ?_⟩) (by assumption) ?_
                      rotate_left
                      · intro w hSw; go_simp; all_goals with_reducible rfl
                      try simp only [Act.put, List.setIfInBounds_toArray, List.set_cons_zero, List.set_cons_succ]
                      refine wpAnyH_take (i := 10) (oi := { dst := some 109, op := Go.Op.load 5 (Go.Operand.tmp 108), type := 5, pos := "ref.go:844", after := #[{ on := 9, ground := Go.Ground.data }], guard := none }) (v := ?_) rfl (by kernel_rfl) (by kernel_rfl) (by kernel_rfl) (fun _ _ _ h => h) (Or.inl ⟨by rfl, ?_⟩) (by assumption) ?_
                      rotate_left
                      · intro w hSw; go_simp; all_goals with_reducible rfl
                      try simp only [Act.put, List.setIfInBounds_toArray, List.set_cons_zero, List.set_cons_succ]
                      refine wpAnyH_ready (rs := [1,11]) (by kernel_rfl) (by simp) ?_
                      refine (AllReadyH.cons (o := { dst := some 100, op := Go.Op.buildSlice 28 0 #[], type := 28, pos := "ref.go:844", after := #[], guard := none }) rfl (fun K hK => ?_) (AllReadyH.cons (o := { dst := some 110, op := Go.Op.buildSlice 28 1 #[(0, Go.Operand.tmp 109)], type := 28, pos := "ref.go:844", after := #[{ on := 10, ground := Go.Ground.data }], guard := none }) rfl (fun K hK => ?_) AllReadyH.nil))
                      · go_simp
                        refine hK.out _ _ ?_ (fun hHeld => ?_)
                        · first | exact Fut.drew (by assumption) | exact Fut.alloc (by assumption) _ | assumption
                        clear hK K
                        try simp only [Act.put, List.setIfInBounds_toArray, List.set_cons_zero, List.set_cons_succ]
                        refine wpAnyH_ready (rs := [6,11]) (by kernel_rfl) (by simp) ?_
                        refine (AllReadyH.cons (o := { dst := some 105, op := Go.Op.call { callee := Go.Callee.builtin Go.Builtin.append, args := #[Go.Operand.tmp 100, Go.Operand.tmp 104], argTypes := #[28, 28] }, type := 28, pos := "ref.go:844", after := #[{ on := 1, ground := Go.Ground.data }, { on := 5, ground := Go.Ground.data }], guard := none }) rfl (fun K hK => ?_) (AllReadyH.cons (o := { dst := some 110, op := Go.Op.buildSlice 28 1 #[(0, Go.Operand.tmp 109)], type := 28, pos := "ref.go:844", after := #[{ on := 10, ground := Go.Ground.data }], guard := none }) rfl (fun K hK => ?_) AllReadyH.nil))
                        · refine wp_append_sl rfl (.tmp 100) (.tmp 104) rfl rfl wr.heap.size rfl (by first | exact zero5 (w := wr) (Nat.le_refl _) | exact zero5B wr _ | exact zero5C wr _) rfl HSUJ.out (by assumption) (by unfold maxLen; omega) (by omega) (by simp <;> omega) ?_
                          intro qa qc w4 ho4 hgr4
                          simp only [Nat.zero_add, List.nil_append] at ho4 ⊢
                          have hG4 : Grow gj wr gj w4 := by first | exact grow_apT (((Grow.refl hfj).alloc (.cells #[] 5)).drew) (fun b hb => by cases hb; exact Nat.le_refl _) hfj hgr4 | exact grow_apT ((((Grow.refl hfj).alloc (.cells #[] 5)).alloc (.cells #[.int .u8 (S[j].toNat : Int)] 5)).drew) (fun b hb => by cases hb; exact Nat.le_refl _) hfj hgr4 | exact grow_apT ((((Grow.refl hfj).alloc (.cells #[.int .u8 (S[j].toNat : Int)] 5)).alloc (.cells #[] 5)).drew) (fun b hb => by cases hb; exact Nat.le_succ _) hfj hgr4
                          have HG4 := hid hG4
                          have HO4 := hid ho4
                          have HGR4 := hid hgr4
                          have hf4 := hG4.fut
                          clear hG4 ho4 hgr4
                          refine hK.out _ _ ?_ (fun hHeld => ?_)
                          · first | exact Fut.drew (by assumption) | exact Fut.alloc (by assumption) _ | assumption
                          clear hK K
                          try simp only [Act.put, List.setIfInBounds_toArray, List.set_cons_zero, List.set_cons_succ]
                          refine wpAnyH_ready (rs := [11]) (by kernel_rfl) (by simp) ?_
                          refine (AllReadyH.cons (o := { dst := some 110, op := Go.Op.buildSlice 28 1 #[(0, Go.Operand.tmp 109)], type := 28, pos := "ref.go:844", after := #[{ on := 10, ground := Go.Ground.data }], guard := none }) rfl (fun K hK => ?_) AllReadyH.nil)
                          · go_simp
                            refine hK.out _ _ ?_ (fun hHeld => ?_)
                            · first | exact Fut.drew (by assumption) | exact Fut.alloc (by assumption) _ | assumption
                            clear hK K
                            try simp only [Act.put, List.setIfInBounds_toArray, List.set_cons_zero, List.set_cons_succ]
                            refine wpAnyH_ready (rs := [12]) (by kernel_rfl) (by simp) ?_
                            refine (AllReadyH.cons (o := { dst := some 111, op := Go.Op.call { callee := Go.Callee.builtin Go.Builtin.append, args := #[Go.Operand.tmp 105, Go.Operand.tmp 110], argTypes := #[28, 28] }, type := 28, pos := "ref.go:844", after := #[{ on := 6, ground := Go.Ground.data }, { on := 11, ground := Go.Ground.data }, { on := 6, ground := Go.Ground.chain }], guard := none }) rfl (fun K hK => ?_) AllReadyH.nil)
                            · refine step_append_lies _ rfl (.tmp 105) (.tmp 110) 28 rfl wr.heap.size 5 i5 (.int .u8 0) 1 1 Try.underlying28 hi5 hy0 hy1 hy2 rfl (by decide) _ W[p].length (W[p].map byteV) rfl (by first | exact HO4.out | exact HO4.out.alloc _) ⟨_, 0, none⟩ 1 1 [byteV S[j]] rfl rfl (by first | exact World.news_of_block (heap_alloc_new w4 _) | exact World.news_of_block ((HGR4.out.block (wr.heap.size + 1) (by simp) (show some (wr.heap.size + 1) ≠ some wr.heap.size by simp)).trans (heap_drew_new2 wr (.cells #[] 5) (.cells #[.int .u8 (S[j].toNat : Int)] 5))) | exact World.news_of_block ((HGR4.out.block wr.heap.size (by simp <;> omega) (show some wr.heap.size ≠ some (wr.heap.size + 1) by simp)).trans (heap_drew_old2 wr (.cells #[.int .u8 (S[j].toNat : Int)] 5) (.cells #[] 5)))) (by simp [byteV, Value.oneCell']) (by decide) (by unfold maxLen; omega) (by omega) (by have := HG4.out.size; first | exact this | (rw [World.size_alloc]; omega)) _ rfl ?_
                              intro kb kcap w5 ho5 hgr5 hat5 hlt5
                              have hG5 : Grow gj wr gj w5 := by first | exact grow_apT HG4.out (fun b hb => (HO4.out.lt b hb).1) hfj hgr5 | exact grow_apT (HG4.out.alloc _) (fun b hb => (HO4.out.lt b hb).1) hfj hgr5
                              obtain ⟨g7, hG7, -, hs7, -⟩ := sl_keep (hG5.step (fun _ => False)) ho5 (fun k hk => ⟨(ho5.lt k hk).1, hfj.none_of_size (ho5.lt k hk).1⟩)
                              have HG7 := hid hG7.grow
                              have hwa7 : WordAt g7 (W[p] ++ [S[j]]) (.slice (some ⟨kb, 0, none⟩) (W[p].length + 1) kcap) := ⟨some ⟨kb, 0, none⟩, kcap, by simp, by simpa using hs7⟩
                              have HWA7 := hid hwa7
                              have HTN7 := hid ((HTN.out.go HG7.out).go ((Grow.refl HG7.out.fut).alloc (.cells #[.slice (some ⟨kb, 0, none⟩) (W[p].length + 1) kcap] 28)))
                              have HTA7 := hid ((HTA.out.go HG7.out).go ((Grow.refl HG7.out.fut).alloc (.cells #[.slice (some ⟨kb, 0, none⟩) (W[p].length + 1) kcap] 28)))
                              have HGB := hid ((HG.out.trans HG7.out).alloc (.cells #[.slice (some ⟨kb, 0, none⟩) (W[p].length + 1) kcap] 28))
                              have hf5 := hG5.fut
                              clear hG5 hG7 hs7 hwa7 ho5 hgr5 hat5 hlt5
                              refine hK.out _ _ ?_ (fun hHeld => ?_)
                              · first | exact Fut.drew (by assumption) | exact Fut.alloc (by assumption) _ | assumption
                              clear hK K
                              try simp only [Act.put, List.setIfInBounds_toArray, List.set_cons_zero, List.set_cons_succ]
                              refine wpAnyH_ready (rs := [13]) (by kernel_rfl) (by simp) ?_
                              refine (AllReadyH.cons (o := { dst := some 112, op := Go.Op.buildSlice 33 1 #[(0, Go.Operand.tmp 111)], type := 33, pos := "ref.go:844", after := #[{ on := 12, ground := Go.Ground.data }], guard := none }) rfl (fun K hK => ?_) AllReadyH.nil)
                              · go_simp
                                refine hK.out _ _ ?_ (fun hHeld => ?_)
                                · first | exact Fut.drew (by assumption) | exact Fut.alloc (by assumption) _ | assumption
                                clear hK K
                                try simp only [Act.put, List.setIfInBounds_toArray, List.set_cons_zero, List.set_cons_succ]
                                refine wpAnyH_ready (rs := [14]) (by kernel_rfl) (by simp) ?_
                                refine (AllReadyH.cons (o := { dst := some 113, op := Go.Op.call { callee := Go.Callee.builtin Go.Builtin.append, args := #[Go.Operand.tmp 99, Go.Operand.tmp 112], argTypes := #[33, 33] }, type := 33, pos := "ref.go:844", after := #[{ on := 0, ground := Go.Ground.data }, { on := 13, ground := Go.Ground.data }, { on := 12, ground := Go.Ground.chain }], guard := none }) rfl (fun K hK => ?_) AllReadyH.nil)
                                · refine step_append_lies _ rfl (.tmp 99) (.tmp 112) 33 rfl w.heap.size 28 i0 (.slice none 0 0) 1 24 Try.underlying33 hi hz0 hz1 hz2 rfl (by decide) _ n3 nv2 rfl HTN7.out.row ⟨w5.heap.size, 0, none⟩ 1 1 [.slice (some ⟨kb, 0, none⟩) (W[p].length + 1) kcap] rfl rfl (World.news_of_block (heap_alloc_new _ _)) (by simp [Value.oneCell']) (by decide) (by unfold maxLen; omega) (by omega) HGB.out.size _ rfl ?_
                                  intro kb2 kcap2 w6 ho6 hgr6 hat6 hlt6
                                  have HTN8 := hid (HTN7.out.app HWA7.out ho6 hat6 (HGB.out.fut.none_of_size (Nat.le_refl _)))
                                  have HTA8 := hid (HTA7.out.other hgr6 (fun k hk e => HD.out k hk e))
                                  have HG8 := hid (HTN7.out.grown HGB.out hgr6)
                                  have HD8 := hid (dis_app (fun k hk e => HD.out k e hk) hat6 (fun k hk => (HTA7.out.lt hk).2))
                                  have hf6 := HG8.out.fut.le HG7.out.le
                                  clear ho6 hgr6 hat6 hlt6
                                  refine hK.out _ _ ?_ (fun hHeld => ?_)
                                  · first | exact Fut.drew (by assumption) | exact Fut.alloc (by assumption) _ | assumption
                                  clear hK K
                                  try simp only [Act.put, List.setIfInBounds_toArray, List.set_cons_zero, List.set_cons_succ]
                                  refine wpAnyH_take (i := 15) (oi := { dst := some 15, op := Go.Op.assign (Go.Operand.tmp 113), type := 33, pos := "ref.go:844", after := #[{ on := 14, ground := Go.Ground.data }, { on := 14, ground := Go.Ground.chain }, { on := 0, ground := Go.Ground.phase }, { on := 1, ground := Go.Ground.phase }, { on := 2, ground := Go.Ground.phase }, { on := 3, ground := Go.Ground.phase }, { on := 4, ground := Go.Ground.phase }, { on := 5, ground := Go.Ground.phase }, { on := 6, ground := Go.Ground.phase }, { on := 7, ground := Go.Ground.phase }, { on := 8, ground := Go.Ground.phase }, { on := 9, ground := Go.Ground.phase }, { on := 10, ground := Go.Ground.phase }, { on := 11, ground := Go.Ground.phase }, { on := 12, ground := Go.Ground.phase }, { on := 13, ground := Go.Ground.phase }, { on := 14, ground := Go.Ground.phase }], guard := none }) (v := ?_) rfl (by kernel_rfl) (by kernel_rfl) (by kernel_rfl) (fun _ _ _ h => h) (Or.inl ⟨by rfl, ?_⟩) (by assumption) ?_
                                  rotate_left
                                  · intro w hSw; go_simp; all_goals with_reducible rfl
                                  try simp only [Act.put, List.setIfInBounds_toArray, List.set_cons_zero, List.set_cons_succ]
                                  refine wpAnyH_done (by kernel_rfl) ?_ _
                                  go_wp2_with fail
                                  go_roundg (S.length - (j + 1))
                                  case measure => omega
                                  case rel =>
                                    have e : nextW S (W.take p) ++ (S.take (j + 1)).map (fun b => W[p] ++ [b]) = (nextW S (W.take p) ++ (S.take j).map (fun b => W[p] ++ [b])) ++ [W[p] ++ [S[j]]] := by rw [List.take_add_one, List.getElem?_eq_getElem hjt, List.map_append, ← List.append_assoc]; rfl
                                    exact ⟨j + 1, n3 + 1, g7, _, _, _, by omega, rfl, by go_num, hle3.trans HG7.out.le, HG8.out, HTA8.out, hid (by rw [if_pos hqn, if_pos hqn, e]; exact HTN8.out), fun k hk e => HD8.out k e hk⟩
                        · go_simp
                          refine hK.out _ _ ?_ (fun hHeld => ?_)
                          · first | exact Fut.drew (by assumption) | exact Fut.alloc (by assumption) _ | assumption
                          clear hK K
                          try simp only [Act.put, List.setIfInBounds_toArray, List.set_cons_zero, List.set_cons_succ]
                          refine wpAnyH_ready (rs := [6]) (by kernel_rfl) (by simp) ?_
                          refine (AllReadyH.cons (o := { dst := some 105, op := Go.Op.call { callee := Go.Callee.builtin Go.Builtin.append, args := #[Go.Operand.tmp 100, Go.Operand.tmp 104], argTypes := #[28, 28] }, type := 28, pos := "ref.go:844", after := #[{ on := 1, ground := Go.Ground.data }, { on := 5, ground := Go.Ground.data }], guard := none }) rfl (fun K hK => ?_) AllReadyH.nil)
                          · refine wp_append_sl rfl (.tmp 100) (.tmp 104) rfl rfl wr.heap.size rfl (by first | exact zero5 (w := wr) (Nat.le_refl _) | exact zero5B wr _ | exact zero5C wr _) rfl HSUJ.out (by assumption) (by unfold maxLen; omega) (by omega) (by simp <;> omega) ?_
                            intro qa qc w4 ho4 hgr4
                            simp only [Nat.zero_add, List.nil_append] at ho4 ⊢
                            have hG4 : Grow gj wr gj w4 := by first | exact grow_apT (((Grow.refl hfj).alloc (.cells #[] 5)).drew) (fun b hb => by cases hb; exact Nat.le_refl _) hfj hgr4 | exact grow_apT ((((Grow.refl hfj).alloc (.cells #[] 5)).alloc (.cells #[.int .u8 (S[j].toNat : Int)] 5)).drew) (fun b hb => by cases hb; exact Nat.le_refl _) hfj hgr4 | exact grow_apT ((((Grow.refl hfj).alloc (.cells #[.int .u8 (S[j].toNat : Int)] 5)).alloc (.cells #[] 5)).drew) (fun b hb => by cases hb; exact Nat.le_succ _) hfj hgr4
                            have HG4 := hid hG4
                            have HO4 := hid ho4
                            have HGR4 := hid hgr4
                            have hf4 := hG4.fut
                            clear hG4 ho4 hgr4
                            refine hK.out _ _ ?_ (fun hHeld => ?_)
                            · first | exact Fut.drew (by assumption) | exact Fut.alloc (by assumption) _ | assumption
                            clear hK K
                            try simp only [Act.put, List.setIfInBounds_toArray, List.set_cons_zero, List.set_cons_succ]
                            refine wpAnyH_ready (rs := [12]) (by kernel_rfl) (by simp) ?_
                            refine (AllReadyH.cons (o := { dst := some 111, op := Go.Op.call { callee := Go.Callee.builtin Go.Builtin.append, args := #[Go.Operand.tmp 105, Go.Operand.tmp 110], argTypes := #[28, 28] }, type := 28, pos := "ref.go:844", after := #[{ on := 6, ground := Go.Ground.data }, { on := 11, ground := Go.Ground.data }, { on := 6, ground := Go.Ground.chain }], guard := none }) rfl (fun K hK => ?_) AllReadyH.nil)
                            · refine step_append_lies _ rfl (.tmp 105) (.tmp 110) 28 rfl wr.heap.size 5 i5 (.int .u8 0) 1 1 Try.underlying28 hi5 hy0 hy1 hy2 rfl (by decide) _ W[p].length (W[p].map byteV) rfl (by first | exact HO4.out | exact HO4.out.alloc _) ⟨_, 0, none⟩ 1 1 [byteV S[j]] rfl rfl (by first | exact World.news_of_block (heap_alloc_new w4 _) | exact World.news_of_block ((HGR4.out.block (wr.heap.size + 1) (by simp) (show some (wr.heap.size + 1) ≠ some wr.heap.size by simp)).trans (heap_drew_new2 wr (.cells #[] 5) (.cells #[.int .u8 (S[j].toNat : Int)] 5))) | exact World.news_of_block ((HGR4.out.block wr.heap.size (by simp <;> omega) (show some wr.heap.size ≠ some (wr.heap.size + 1) by simp)).trans (heap_drew_old2 wr (.cells #[.int .u8 (S[j].toNat : Int)] 5) (.cells #[] 5)))) (by simp [byteV, Value.oneCell']) (by decide) (by unfold maxLen; omega) (by omega) (by have := HG4.out.size; first | exact this | (rw [World.size_alloc]; omega)) _ rfl ?_
                              intro kb kcap w5 ho5 hgr5 hat5 hlt5
                              have hG5 : Grow gj wr gj w5 := by first | exact grow_apT HG4.out (fun b hb => (HO4.out.lt b hb).1) hfj hgr5 | exact grow_apT (HG4.out.alloc _) (fun b hb => (HO4.out.lt b hb).1) hfj hgr5
                              obtain ⟨g7, hG7, -, hs7, -⟩ := sl_keep (hG5.step (fun _ => False)) ho5 (fun k hk => ⟨(ho5.lt k hk).1, hfj.none_of_size (ho5.lt k hk).1⟩)
                              have HG7 := hid hG7.grow
                              have hwa7 : WordAt g7 (W[p] ++ [S[j]]) (.slice (some ⟨kb, 0, none⟩) (W[p].length + 1) kcap) := ⟨some ⟨kb, 0, none⟩, kcap, by simp, by simpa using hs7⟩
                              have HWA7 := hid hwa7
                              have HTN7 := hid ((HTN.out.go HG7.out).go ((Grow.refl HG7.out.fut).alloc (.cells #[.slice (some ⟨kb, 0, none⟩) (W[p].length + 1) kcap] 28)))
                              have HTA7 := hid ((HTA.out.go HG7.out).go ((Grow.refl HG7.out.fut).alloc (.cells #[.slice (some ⟨kb, 0, none⟩) (W[p].length + 1) kcap] 28)))
                              have HGB := hid ((HG.out.trans HG7.out).alloc (.cells #[.slice (some ⟨kb, 0, none⟩) (W[p].length + 1) kcap] 28))
                              have hf5 := hG5.fut
                              clear hG5 hG7 hs7 hwa7 ho5 hgr5 hat5 hlt5
                              refine hK.out _ _ ?_ (fun hHeld => ?_)
                              · first | exact Fut.drew (by assumption) | exact Fut.alloc (by assumption) _ | assumption
                              clear hK K
                              try simp only [Act.put, List.setIfInBounds_toArray, List.set_cons_zero, List.set_cons_succ]
                              refine wpAnyH_ready (rs := [13]) (by kernel_rfl) (by simp) ?_
                              refine (AllReadyH.cons (o := { dst := some 112, op := Go.Op.buildSlice 33 1 #[(0, Go.Operand.tmp 111)], type := 33, pos := "ref.go:844", after := #[{ on := 12, ground := Go.Ground.data }], guard := none }) rfl (fun K hK => ?_) AllReadyH.nil)
                              · go_simp
                                refine hK.out _ _ ?_ (fun hHeld => ?_)
                                · first | exact Fut.drew (by assumption) | exact Fut.alloc (by assumption) _ | assumption
                                clear hK K
                                try simp only [Act.put, List.setIfInBounds_toArray, List.set_cons_zero, List.set_cons_succ]
                                refine wpAnyH_ready (rs := [14]) (by kernel_rfl) (by simp) ?_
                                refine (AllReadyH.cons (o := { dst := some 113, op := Go.Op.call { callee := Go.Callee.builtin Go.Builtin.append, args := #[Go.Operand.tmp 99, Go.Operand.tmp 112], argTypes := #[33, 33] }, type := 33, pos := "ref.go:844", after := #[{ on := 0, ground := Go.Ground.data }, { on := 13, ground := Go.Ground.data }, { on := 12, ground := Go.Ground.chain }], guard := none }) rfl (fun K hK => ?_) AllReadyH.nil)
                                · refine step_append_lies _ rfl (.tmp 99) (.tmp 112) 33 rfl w.heap.size 28 i0 (.slice none 0 0) 1 24 Try.underlying33 hi hz0 hz1 hz2 rfl (by decide) _ n3 nv2 rfl HTN7.out.row ⟨w5.heap.size, 0, none⟩ 1 1 [.slice (some ⟨kb, 0, none⟩) (W[p].length + 1) kcap] rfl rfl (World.news_of_block (heap_alloc_new _ _)) (by simp [Value.oneCell']) (by decide) (by unfold maxLen; omega) (by omega) HGB.out.size _ rfl ?_
                                  intro kb2 kcap2 w6 ho6 hgr6 hat6 hlt6
                                  have HTN8 := hid (HTN7.out.app HWA7.out ho6 hat6 (HGB.out.fut.none_of_size (Nat.le_refl _)))
                                  have HTA8 := hid (HTA7.out.other hgr6 (fun k hk e => HD.out k hk e))
                                  have HG8 := hid (HTN7.out.grown HGB.out hgr6)
                                  have HD8 := hid (dis_app (fun k hk e => HD.out k e hk) hat6 (fun k hk => (HTA7.out.lt hk).2))
                                  have hf6 := HG8.out.fut.le HG7.out.le
                                  clear ho6 hgr6 hat6 hlt6
                                  refine hK.out _ _ ?_ (fun hHeld => ?_)
                                  · first | exact Fut.drew (by assumption) | exact Fut.alloc (by assumption) _ | assumption
                                  clear hK K
                                  try simp only [Act.put, List.setIfInBounds_toArray, List.set_cons_zero, List.set_cons_succ]
                                  refine wpAnyH_take (i := 15) (oi := { dst := some 15, op := Go.Op.assign (Go.Operand.tmp 113), type := 33, pos := "ref.go:844", after := #[{ on := 14, ground := Go.Ground.data }, { on := 14, ground := Go.Ground.chain }, { on := 0, ground := Go.Ground.phase }, { on := 1, ground := Go.Ground.phase }, { on := 2, ground := Go.Ground.phase }, { on := 3, ground := Go.Ground.phase }, { on := 4, ground := Go.Ground.phase }, { on := 5, ground := Go.Ground.phase }, { on := 6, ground := Go.Ground.phase }, { on := 7, ground := Go.Ground.phase }, { on := 8, ground := Go.Ground.phase }, { on := 9, ground := Go.Ground.phase }, { on := 10, ground := Go.Ground.phase }, { on := 11, ground := Go.Ground.phase }, { on := 12, ground := Go.Ground.phase }, { on := 13, ground := Go.Ground.phase }, { on := 14, ground := Go.Ground.phase }], guard := none }) (v := ?_) rfl (by kernel_rfl) (by kernel_rfl) (by kernel_rfl) (fun _ _ _ h => h) (Or.inl ⟨by rfl, ?_⟩) (by assumption) ?_
                                  rotate_left
                                  · intro w hSw; go_simp; all_goals with_reducible rfl
                                  try simp only [Act.put, List.setIfInBounds_toArray, List.set_cons_zero, List.set_cons_succ]
                                  refine wpAnyH_done (by kernel_rfl) ?_ _
                                  go_wp2_with fail
                                  go_roundg (S.length - (j + 1))
                                  case measure => omega
                                  case rel =>
                                    have e : nextW S (W.take p) ++ (S.take (j + 1)).map (fun b => W[p] ++ [b]) = (nextW S (W.take p) ++ (S.take j).map (fun b => W[p] ++ [b])) ++ [W[p] ++ [S[j]]] := by rw [List.take_add_one, List.getElem?_eq_getElem hjt, List.map_append, ← List.append_assoc]; rfl
                                    exact ⟨j + 1, n3 + 1, g7, _, _, _, by omega, rfl, by go_num, hle3.trans HG7.out.le, HG8.out, HTA8.out, hid (by rw [if_pos hqn, if_pos hqn, e]; exact HTN8.out), fun k hk e => HD8.out k e hk⟩
                      · go_simp
                        refine hK.out _ _ ?_ (fun hHeld => ?_)
                        · first | exact Fut.drew (by assumption) | exact Fut.alloc (by assumption) _ | assumption
                        clear hK K
                        try simp only [Act.put, List.setIfInBounds_toArray, List.set_cons_zero, List.set_cons_succ]
                        refine wpAnyH_ready (rs := [1]) (by kernel_rfl) (by simp) ?_
                        refine (AllReadyH.cons (o := { dst := some 100, op := Go.Op.buildSlice 28 0 #[], type := 28, pos := "ref.go:844", after := #[], guard := none }) rfl (fun K hK => ?_) AllReadyH.nil)
                        · go_simp
                          refine hK.out _ _ ?_ (fun hHeld => ?_)
                          · first | exact Fut.drew (by assumption) | exact Fut.alloc (by assumption) _ | assumption
                          clear hK K
                          try simp only [Act.put, List.setIfInBounds_toArray, List.set_cons_zero, List.set_cons_succ]
                          refine wpAnyH_ready (rs := [6]) (by kernel_rfl) (by simp) ?_
                          refine (AllReadyH.cons (o := { dst := some 105, op := Go.Op.call { callee := Go.Callee.builtin Go.Builtin.append, args := #[Go.Operand.tmp 100, Go.Operand.tmp 104], argTypes := #[28, 28] }, type := 28, pos := "ref.go:844", after := #[{ on := 1, ground := Go.Ground.data }, { on := 5, ground := Go.Ground.data }], guard := none }) rfl (fun K hK => ?_) AllReadyH.nil)
                          · refine wp_append_sl rfl (.tmp 100) (.tmp 104) rfl rfl wr.heap.size rfl (by first | exact zero5 (w := wr) (Nat.le_refl _) | exact zero5B wr _ | exact zero5C wr _) rfl HSUJ.out (by assumption) (by unfold maxLen; omega) (by omega) (by simp <;> omega) ?_
                            intro qa qc w4 ho4 hgr4
                            simp only [Nat.zero_add, List.nil_append] at ho4 ⊢
                            have hG4 : Grow gj wr gj w4 := by first | exact grow_apT (((Grow.refl hfj).alloc (.cells #[] 5)).drew) (fun b hb => by cases hb; exact Nat.le_refl _) hfj hgr4 | exact grow_apT ((((Grow.refl hfj).alloc (.cells #[] 5)).alloc (.cells #[.int .u8 (S[j].toNat : Int)] 5)).drew) (fun b hb => by cases hb; exact Nat.le_refl _) hfj hgr4 | exact grow_apT ((((Grow.refl hfj).alloc (.cells #[.int .u8 (S[j].toNat : Int)] 5)).alloc (.cells #[] 5)).drew) (fun b hb => by cases hb; exact Nat.le_succ _) hfj hgr4
                            have HG4 := hid hG4
                            have HO4 := hid ho4
                            have HGR4 := hid hgr4
                            have hf4 := hG4.fut
                            clear hG4 ho4 hgr4
                            refine hK.out _ _ ?_ (fun hHeld => ?_)
                            · first | exact Fut.drew (by assumption) | exact Fut.alloc (by assumption) _ | assumption
                            clear hK K
                            try simp only [Act.put, List.setIfInBounds_toArray, List.set_cons_zero, List.set_cons_succ]
                            refine wpAnyH_ready (rs := [12]) (by kernel_rfl) (by simp) ?_
                            refine (AllReadyH.cons (o := { dst := some 111, op := Go.Op.call { callee := Go.Callee.builtin Go.Builtin.append, args := #[Go.Operand.tmp 105, Go.Operand.tmp 110], argTypes := #[28, 28] }, type := 28, pos := "ref.go:844", after := #[{ on := 6, ground := Go.Ground.data }, { on := 11, ground := Go.Ground.data }, { on := 6, ground := Go.Ground.chain }], guard := none }) rfl (fun K hK => ?_) AllReadyH.nil)
                            · refine step_append_lies _ rfl (.tmp 105) (.tmp 110) 28 rfl wr.heap.size 5 i5 (.int .u8 0) 1 1 Try.underlying28 hi5 hy0 hy1 hy2 rfl (by decide) _ W[p].length (W[p].map byteV) rfl (by first | exact HO4.out | exact HO4.out.alloc _) ⟨_, 0, none⟩ 1 1 [byteV S[j]] rfl rfl (by first | exact World.news_of_block (heap_alloc_new w4 _) | exact World.news_of_block ((HGR4.out.block (wr.heap.size + 1) (by simp) (show some (wr.heap.size + 1) ≠ some wr.heap.size by simp)).trans (heap_drew_new2 wr (.cells #[] 5) (.cells #[.int .u8 (S[j].toNat : Int)] 5))) | exact World.news_of_block ((HGR4.out.block wr.heap.size (by simp <;> omega) (show some wr.heap.size ≠ some (wr.heap.size + 1) by simp)).trans (heap_drew_old2 wr (.cells #[.int .u8 (S[j].toNat : Int)] 5) (.cells #[] 5)))) (by simp [byteV, Value.oneCell']) (by decide) (by unfold maxLen; omega) (by omega) (by have := HG4.out.size; first | exact this | (rw [World.size_alloc]; omega)) _ rfl ?_
                              intro kb kcap w5 ho5 hgr5 hat5 hlt5
                              have hG5 : Grow gj wr gj w5 := by first | exact grow_apT HG4.out (fun b hb => (HO4.out.lt b hb).1) hfj hgr5 | exact grow_apT (HG4.out.alloc _) (fun b hb => (HO4.out.lt b hb).1) hfj hgr5
                              obtain ⟨g7, hG7, -, hs7, -⟩ := sl_keep (hG5.step (fun _ => False)) ho5 (fun k hk => ⟨(ho5.lt k hk).1, hfj.none_of_size (ho5.lt k hk).1⟩)
                              have HG7 := hid hG7.grow
                              have hwa7 : WordAt g7 (W[p] ++ [S[j]]) (.slice (some ⟨kb, 0, none⟩) (W[p].length + 1) kcap) := ⟨some ⟨kb, 0, none⟩, kcap, by simp, by simpa using hs7⟩
                              have HWA7 := hid hwa7
                              have HTN7 := hid ((HTN.out.go HG7.out).go ((Grow.refl HG7.out.fut).alloc (.cells #[.slice (some ⟨kb, 0, none⟩) (W[p].length + 1) kcap] 28)))
                              have HTA7 := hid ((HTA.out.go HG7.out).go ((Grow.refl HG7.out.fut).alloc (.cells #[.slice (some ⟨kb, 0, none⟩) (W[p].length + 1) kcap] 28)))
                              have HGB := hid ((HG.out.trans HG7.out).alloc (.cells #[.slice (some ⟨kb, 0, none⟩) (W[p].length + 1) kcap] 28))
                              have hf5 := hG5.fut
                              clear hG5 hG7 hs7 hwa7 ho5 hgr5 hat5 hlt5
                              refine hK.out _ _ ?_ (fun hHeld => ?_)
                              · first | exact Fut.drew (by assumption) | exact Fut.alloc (by assumption) _ | assumption
                              clear hK K
                              try simp only [Act.put, List.setIfInBounds_toArray, List.set_cons_zero, List.set_cons_succ]
                              refine wpAnyH_ready (rs := [13]) (by kernel_rfl) (by simp) ?_
                              refine (AllReadyH.cons (o := { dst := some 112, op := Go.Op.buildSlice 33 1 #[(0, Go.Operand.tmp 111)], type := 33, pos := "ref.go:844", after := #[{ on := 12, ground := Go.Ground.data }], guard := none }) rfl (fun K hK => ?_) AllReadyH.nil)
                              · go_simp
                                refine hK.out _ _ ?_ (fun hHeld => ?_)
                                · first | exact Fut.drew (by assumption) | exact Fut.alloc (by assumption) _ | assumption
                                clear hK K
                                try simp only [Act.put, List.setIfInBounds_toArray, List.set_cons_zero, List.set_cons_succ]
                                refine wpAnyH_ready (rs := [14]) (by kernel_rfl) (by simp) ?_
                                refine (AllReadyH.cons (o := { dst := some 113, op := Go.Op.call { callee := Go.Callee.builtin Go.Builtin.append, args := #[Go.Operand.tmp 99, Go.Operand.tmp 112], argTypes := #[33, 33] }, type := 33, pos := "ref.go:844", after := #[{ on := 0, ground := Go.Ground.data }, { on := 13, ground := Go.Ground.data }, { on := 12, ground := Go.Ground.chain }], guard := none }) rfl (fun K hK => ?_) AllReadyH.nil)
                                · refine step_append_lies _ rfl (.tmp 99) (.tmp 112) 33 rfl w.heap.size 28 i0 (.slice none 0 0) 1 24 Try.underlying33 hi hz0 hz1 hz2 rfl (by decide) _ n3 nv2 rfl HTN7.out.row ⟨w5.heap.size, 0, none⟩ 1 1 [.slice (some ⟨kb, 0, none⟩) (W[p].length + 1) kcap] rfl rfl (World.news_of_block (heap_alloc_new _ _)) (by simp [Value.oneCell']) (by decide) (by unfold maxLen; omega) (by omega) HGB.out.size _ rfl ?_
                                  intro kb2 kcap2 w6 ho6 hgr6 hat6 hlt6
                                  have HTN8 := hid (HTN7.out.app HWA7.out ho6 hat6 (HGB.out.fut.none_of_size (Nat.le_refl _)))
                                  have HTA8 := hid (HTA7.out.other hgr6 (fun k hk e => HD.out k hk e))
                                  have HG8 := hid (HTN7.out.grown HGB.out hgr6)
                                  have HD8 := hid (dis_app (fun k hk e => HD.out k e hk) hat6 (fun k hk => (HTA7.out.lt hk).2))
                                  have hf6 := HG8.out.fut.le HG7.out.le
                                  clear ho6 hgr6 hat6 hlt6
                                  refine hK.out _ _ ?_ (fun hHeld => ?_)
                                  · first | exact Fut.drew (by assumption) | exact Fut.alloc (by assumption) _ | assumption
                                  clear hK K
                                  try simp only [Act.put, List.setIfInBounds_toArray, List.set_cons_zero, List.set_cons_succ]
                                  refine wpAnyH_take (i := 15) (oi := { dst := some 15, op := Go.Op.assign (Go.Operand.tmp 113), type := 33, pos := "ref.go:844", after := #[{ on := 14, ground := Go.Ground.data }, { on := 14, ground := Go.Ground.chain }, { on := 0, ground := Go.Ground.phase }, { on := 1, ground := Go.Ground.phase }, { on := 2, ground := Go.Ground.phase }, { on := 3, ground := Go.Ground.phase }, { on := 4, ground := Go.Ground.phase }, { on := 5, ground := Go.Ground.phase }, { on := 6, ground := Go.Ground.phase }, { on := 7, ground := Go.Ground.phase }, { on := 8, ground := Go.Ground.phase }, { on := 9, ground := Go.Ground.phase }, { on := 10, ground := Go.Ground.phase }, { on := 11, ground := Go.Ground.phase }, { on := 12, ground := Go.Ground.phase }, { on := 13, ground := Go.Ground.phase }, { on := 14, ground := Go.Ground.phase }], guard := none }) (v := ?_) rfl (by kernel_rfl) (by kernel_rfl) (by kernel_rfl) (fun _ _ _ h => h) (Or.inl ⟨by rfl, ?_⟩) (by assumption) ?_
                                  rotate_left
                                  · intro w hSw; go_simp; all_goals with_reducible rfl
                                  try simp only [Act.put, List.setIfInBounds_toArray, List.set_cons_zero, List.set_cons_succ]
                                  refine wpAnyH_done (by kernel_rfl) ?_ _
                                  go_wp2_with fail
                                  go_roundg (S.length - (j + 1))
                                  case measure => omega
                                  case rel =>
                                    have e : nextW S (W.take p) ++ (S.take (j + 1)).map (fun b => W[p] ++ [b]) = (nextW S (W.take p) ++ (S.take j).map (fun b => W[p] ++ [b])) ++ [W[p] ++ [S[j]]] := by rw [List.take_add_one, List.getElem?_eq_getElem hjt, List.map_append, ← List.append_assoc]; rfl
                                    exact ⟨j + 1, n3 + 1, g7, _, _, _, by omega, rfl, by go_num, hle3.trans HG7.out.le, HG8.out, HTA8.out, hid (by rw [if_pos hqn, if_pos hqn, e]; exact HTN8.out), fun k hk e => HD8.out k e hk⟩
                    · have hqni : ¬ (q : Int) < n := by omega
                      rw [if_neg hqn, if_neg hqn] at HTN
                      have HTN2 : Hid (TI w gj wr na2 n3 nc2 (if q < n then nextW S (W.take (p + 1)) else []) nv2) := hid (by rw [if_neg hqn]; exact HTN.out)
                      go_wp2_with fail
                      go_roundg (W.length - (p + 1))
                      case measure => omega
                      case rel => exact ⟨p + 1, l3, n3, gj, la3, lc3, lv3, na2, nc2, nv2, by omega, rfl, rfl, by go_num, hle2.trans hle3, HG.out, HTA.out, HTN2.out, HD.out⟩
                  · obtain rfl : j = S.length := by omega
                    have HTN2 : Hid (TI w gj wr na2 n3 nc2 (if q < n then nextW S (W.take (p + 1)) else []) nv2) := hid (by
                      rw [HSUCC.out _ rfl]
                      have h5 := HTN.out
                      rw [List.take_length] at h5
                      exact h5)
                    go_wp2_with fail
                    go_roundg (W.length - (p + 1))
                    case measure => omega
                    case rel => exact ⟨p + 1, l3, n3, gj, la3, lc3, lv3, na2, nc2, nv2, by omega, rfl, rfl, by go_num, hle2.trans hle3, HG.out, HTA.out, HTN2.out, HD.out⟩
          · obtain rfl : p = W.length := by omega
            rw [List.take_length] at HTA HTN
            go_wp2_with fail
            go_roundg (n + 1 - (q + 1))
            case measure => omega
            case rel =>
              by_cases hqn : q < n
              · rw [if_pos hqn] at HTN
                obtain ⟨g6, hg6, hle6, hw6, hno6⟩ := HTN.out.own.keep HTN.out.len HG.out (Nat.le_refl _) HTN.out.nown
                refine ⟨q + 1, n2, l2, g6, la2, lc2, lv2, na, nc, by omega, rfl, rfl, by go_num, (hle.trans hle2).trans hle6, hg6, hid ?_, hid (fun _ => ?_)⟩
                · rw [HTX.out]
                  exact ⟨⟨HTA.out.own.own, HTA.out.own.rel.le hle6⟩, HTA.out.len, fun k hk => hno6 k (HTA.out.nown k hk) (fun e => HD.out k hk e)⟩
                · have e : wordsR S (q + 1) = nextW S W := by rw [← HWW.out]; rfl
                  rw [e]; exact hw6
              · exact ⟨q + 1, n2, l2, gp, la2, lc2, lv2, na, nc, by omega, rfl, rfl, by go_num, hle.trans hle2, HG.out, hid (by rw [HTX.out]; exact HTA.out), hid (fun h => absurd h (by omega))⟩
      · obtain rfl : q = n + 1 := by omega
        have hlen := HTL.out.len
        by_cases hfew : (l1 : Int) ≤ most
        · have hfew' : decide ((l1 : Int) > most) = false := by simpa using hfew
          go_wp2_with fail
          go_ret2
          rw [← HRES.out, hlen, if_pos hfew]
          obtain ⟨g6, hg6, hle6, hw6, hno6⟩ := HTL.out.own.keep HTL.out.len HG.out (Nat.le_refl _) HTL.out.nown
          obtain ⟨vals, hv1, hv2, hv3⟩ := hw6
          subst hlen
          exact ⟨g6, la, lc, vals, rfl, hg6, hv1, hv3.1, hv3.2⟩
        · have hfew' : decide ((l1 : Int) > most) = true := by simpa using hfew
          go_wp2_with fail
          go_ret2
          rw [← HRES.out, hlen, if_neg (by omega)]
          exact textsP_nil 6 HG.out
end Go.Proofs.Ytjodmimnbpgfcaa
