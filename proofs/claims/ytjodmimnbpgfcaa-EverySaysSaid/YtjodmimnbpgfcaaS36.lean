/- each, walked: nothing, one byte. A library text: no claim is stated here. each, walked: one byte. A library text: no claim is stated here. each, walked: one behind the other. A library text: no claim is stated here. -/
import Derived.Test.YtjodmimnbpgfcaaS20

/- Each0 -/
namespace Go.Proofs.Ytjodmimnbpgfcaa
open Go.RowKit Go.IntWalk

theorem box4 {g : G} {w : World} (hw : Fut g w) (o1 o2 o3 o4 : Obj) : ∃ g1, Grow g w g1 ((((w.alloc o1).alloc o2).alloc o3).alloc o4) ∧ g1.blk w.heap.size = some o1 ∧ g1.blk (w.heap.size + 1) = some o2 ∧ g1.blk (w.heap.size + 1 + 1) = some o3 ∧
    g1.blk (w.heap.size + 1 + 1 + 1) = some o4 := by
  obtain ⟨g1, h1, e1, e2⟩ := box2 hw o1 o2
  obtain ⟨g2, h2, f1, f2⟩ := box2 h1.fut o3 o4
  simp only [World.size_alloc] at f1 f2
  exact ⟨g2, h1.trans h2, h2.le.blk _ _ e1, h2.le.blk _ _ e2, f1, f2⟩

set_option maxRecDepth 100000 in
set_option maxHeartbeats 4000000 in
theorem each_0 {σ : Type} {I : Inv σ} {live : σ → Prop} {T : Tab} {g0 : G} {mb i : Nat} {x : Core} (hS : Sys T g0 mb I) (hx : (flatC T.c)[i]? = some x) (hk : x.kind = 0) (hre : x.re = .none) : EachSpec I live T mb g0 i x.re := by
  intro g M s w f okv tkv ok tk D hle0 hI hlive hf ho h hD
  have hw := hS.fut hI
  have ho0 := ho
  have h0 := h
  obtain ⟨Fo, co, rfl, hFo, hoc⟩ := ho
  obtain ⟨Ft, ct, rfl, hFt, htc⟩ := h
  obtain ⟨r, ka, kn, kcap, hpm⟩ := hS.tab.parts i x hx
  obtain ⟨g1, hg1, e1, e2, e3, e4⟩ := box4 hw (.cells #[.pointer (some ⟨mb, 0, none⟩)] 111) (.cells #[.func (.func Fo) #[] co] 140) (.cells #[.func (.func Ft) #[] ct] 141) (.cells #[.int .i64 0, .int .u64 r.s.a, .int .u64 r.s.b, .int .u64 r.s.c, .int .u64 r.s.d, .int .i64 r.n, .slice r.a r.len r.cap, .slice ka kn kcap] 133)
  have k1 := fut_cell e1 0 _ rfl
  have k2 := fut_cell e2 0 _ rfl
  have k3 := fut_cell e3 0 _ rfl
  have k5 := fut_cell e4 7 _ rfl
  have m1 := fut_cell (hle0.blk _ _ hS.maker) 0 _ rfl
  have m2 := fut_cell (hle0.blk _ _ hS.maker) 1 _ rfl
  have t0 := fut_cell (hle0.blk _ _ hS.tab.tab) 0 _ rfl
  have hfew := hS.tab.few
  have hshort := hS.tab.short
  have hin := flat_lt hx
  have hii : (i : Int) < (nodes T.c : Int) := by omega
  have hpc := hpm.c.le hle0
  obtain ⟨q0, q1, q2, q3, q4, q5, q6⟩ := hpc
  have q7 := fun w (hw : Fut g w) => hpm.c7 w (hw.le hle0)
  rw [hpm.k, hk] at q0
  have fa := fun o => hw.alloc o
  have fa2 := fun o o2 => (hw.alloc o).alloc o2
  have fa3 := fun o o2 o3 => ((hw.alloc o).alloc o2).alloc o3
  have fa4 := fun o o2 o3 o4 => (((hw.alloc o).alloc o2).alloc o3).alloc o4
  have HPM := hid hpm
  have HG1 := hid hg1
  have HI := hid hI
  have HI1 := hid (hS.grow hI hg1)
  have HOC := hid hoc
  have HTC := hid htc
  have HX := hid hx
  have HRE := hid hre
  have HD := hid hD
  have HO0 := hid (ho0.le hg1.le)
  have HT0 := hid (h0.le hg1.le)
  have HLE0 := hid (hle0.trans hg1.le)
  have HE := hid (And.intro e1 (And.intro e2 (And.intro e3 e4)))
  have hf1 := hg1.fut
  have hlg : ∀ w', Fut g1 w' → Fut g w' := fun w' h => h.le hg1.le
  clear hpm hI hoc htc hx hg1 e1 e2 e3 e4 hre hD hk ho0 h0 hle0
  unfold Callable at hFo hFt
  go_enter Try.func57, Try.ntmps57
  go_wp2_with fail
  go_ret
  have hr := HRE.out
  rw [hr]
  exact ⟨rfl, g1, M, HG1.out.istep M, HI1.out, fun _ => hlive⟩

set_option maxRecDepth 100000 in
set_option maxHeartbeats 4000000 in
theorem each_1 {σ : Type} {I : Inv σ} {live : σ → Prop} {T : Tab} {g0 : G} {mb i : Nat} {x : Core} (hS : Sys T g0 mb I) (hx : (flatC T.c)[i]? = some x) (hk : x.kind = 1) (hre : x.re = .empty) : EachSpec I live T mb g0 i x.re := by
  intro g M s w f okv tkv ok tk D hle0 hI hlive hf ho h hD
  have hw := hS.fut hI
  have ho0 := ho
  have h0 := h
  obtain ⟨Fo, co, rfl, hFo, hoc⟩ := ho
  obtain ⟨Ft, ct, rfl, hFt, htc⟩ := h
  obtain ⟨r, ka, kn, kcap, hpm⟩ := hS.tab.parts i x hx
  obtain ⟨g1, hg1, e1, e2, e3, e4⟩ := box4 hw (.cells #[.pointer (some ⟨mb, 0, none⟩)] 111) (.cells #[.func (.func Fo) #[] co] 140) (.cells #[.func (.func Ft) #[] ct] 141) (.cells #[.int .i64 1, .int .u64 r.s.a, .int .u64 r.s.b, .int .u64 r.s.c, .int .u64 r.s.d, .int .i64 r.n, .slice r.a r.len r.cap, .slice ka kn kcap] 133)
  have k1 := fut_cell e1 0 _ rfl
  have k2 := fut_cell e2 0 _ rfl
  have k3 := fut_cell e3 0 _ rfl
  have k5 := fut_cell e4 7 _ rfl
  have m1 := fut_cell (hle0.blk _ _ hS.maker) 0 _ rfl
  have m2 := fut_cell (hle0.blk _ _ hS.maker) 1 _ rfl
  have t0 := fut_cell (hle0.blk _ _ hS.tab.tab) 0 _ rfl
  have hfew := hS.tab.few
  have hshort := hS.tab.short
  have hin := flat_lt hx
  have hii : (i : Int) < (nodes T.c : Int) := by omega
  have hpc := hpm.c.le hle0
  obtain ⟨q0, q1, q2, q3, q4, q5, q6⟩ := hpc
  have q7 := fun w (hw : Fut g w) => hpm.c7 w (hw.le hle0)
  rw [hpm.k, hk] at q0
  have fa := fun o => hw.alloc o
  have fa2 := fun o o2 => (hw.alloc o).alloc o2
  have fa3 := fun o o2 o3 => ((hw.alloc o).alloc o2).alloc o3
  have fa4 := fun o o2 o3 o4 => (((hw.alloc o).alloc o2).alloc o3).alloc o4
  have HPM := hid hpm
  have HG1 := hid hg1
  have HI := hid hI
  have HI1 := hid (hS.grow hI hg1)
  have HOC := hid hoc
  have HTC := hid htc
  have HX := hid hx
  have HRE := hid hre
  have HD := hid hD
  have HO0 := hid (ho0.le hg1.le)
  have HT0 := hid (h0.le hg1.le)
  have HLE0 := hid (hle0.trans hg1.le)
  have HE := hid (And.intro e1 (And.intro e2 (And.intro e3 e4)))
  have hf1 := hg1.fut
  have hlg : ∀ w', Fut g1 w' → Fut g w' := fun w' h => h.le hg1.le
  clear hpm hI hoc htc hx hg1 e1 e2 e3 e4 hre hD hk ho0 h0 hle0
  unfold Callable at hFo hFt
  cases hok : ok f with
  | false =>
    have hoc2 := HOC.out g1 M s _ f HG1.out.le HI1.out hf
    rw [hok] at hoc2
    go_enter Try.func57, Try.ntmps57
    go_wp2_with fail
    refine hoc2.mono ?_
    rintro e w3 hp
    have HP := hid hp
    obtain ⟨rfl, -⟩ := hp
    go_wp2_with fail
    go_ret
    have hr := HRE.out
    rw [hr, ways, hok]
    obtain ⟨-, g3, M3, h3, h4⟩ := HP.out
    exact ⟨rfl, g3, M3, (HG1.out.istep M).trans h3, h4, fun _ => hlive⟩
  | true =>
    have hoc2 := HOC.out g1 M s _ f HG1.out.le HI1.out hf
    rw [hok] at hoc2
    go_enter Try.func57, Try.ntmps57
    go_wp2_with fail
    refine hoc2.mono ?_
    rintro e w3 hp
    obtain ⟨rfl, g3, M3, h3, h4⟩ := hp
    have hf3 := h3.step.fut.le h3.le
    have htc2 := HTC.out g3 M3 s w3 ⟨1, 0, none, 0, 0⟩ (.mk 1 0 []) f (HG1.out.le.trans h3.le) h4 hlive (.nil 1 0) (HD.out f hf hok)
    have H3 := hid h3
    clear h3 h4 hoc2
    go_wp2_with fail
    refine htc2.mono ?_
    rintro e w4 hp
    have HP := hid hp
    obtain ⟨rfl, -⟩ := hp
    go_wp2_with fail
    go_ret
    have hr := HRE.out
    rw [hr, ways, hok, if_pos rfl, runT_single]
    exact HP.out.pre ((HG1.out.istep M).trans H3.out)

end Go.Proofs.Ytjodmimnbpgfcaa

/- Each2 -/
namespace Go.Proofs.Ytjodmimnbpgfcaa
open Go.RowKit Go.IntWalk

set_option maxRecDepth 100000 in
set_option maxHeartbeats 4000000 in
theorem each_2 {σ : Type} {I : Inv σ} {live : σ → Prop} {T : Tab} {g0 : G} {mb i : Nat} {x : Core} (hS : Sys T g0 mb I) (hx : (flatC T.c)[i]? = some x) (hk : x.kind = 2) (hre : x.re = .byte x.set) : EachSpec I live T mb g0 i x.re := by
  intro g M s w f okv tkv ok tk D hle0 hI hlive hf ho h hD
  have hw := hS.fut hI
  have ho0 := ho
  have h0 := h
  obtain ⟨Fo, co, rfl, hFo, hoc⟩ := ho
  obtain ⟨Ft, ct, rfl, hFt, htc⟩ := h
  obtain ⟨r, ka, kn, kcap, hpm⟩ := hS.tab.parts i x hx
  obtain ⟨g1, hg1, e1, e2, e3, e4⟩ := box4 hw (.cells #[.pointer (some ⟨mb, 0, none⟩)] 111) (.cells #[.func (.func Fo) #[] co] 140) (.cells #[.func (.func Ft) #[] ct] 141) (.cells #[.int .i64 2, .int .u64 r.s.a, .int .u64 r.s.b, .int .u64 r.s.c, .int .u64 r.s.d, .int .i64 r.n, .slice r.a r.len r.cap, .slice ka kn kcap] 133)
  have k1 := fut_cell e1 0 _ rfl
  have k2 := fut_cell e2 0 _ rfl
  have k3 := fut_cell e3 0 _ rfl
  have k5 := fut_cell e4 7 _ rfl
  have m1 := fut_cell (hle0.blk _ _ hS.maker) 0 _ rfl
  have m2 := fut_cell (hle0.blk _ _ hS.maker) 1 _ rfl
  have t0 := fut_cell (hle0.blk _ _ hS.tab.tab) 0 _ rfl
  have hfew := hS.tab.few
  have hshort := hS.tab.short
  have hin := flat_lt hx
  have hii : (i : Int) < (nodes T.c : Int) := by omega
  have hpc := hpm.c.le hle0
  obtain ⟨q0, q1, q2, q3, q4, q5, q6⟩ := hpc
  have q7 := fun w (hw : Fut g w) => hpm.c7 w (hw.le hle0)
  rw [hpm.k, hk] at q0
  have fa := fun o => hw.alloc o
  have fa2 := fun o o2 => (hw.alloc o).alloc o2
  have fa3 := fun o o2 o3 => ((hw.alloc o).alloc o2).alloc o3
  have fa4 := fun o o2 o3 o4 => (((hw.alloc o).alloc o2).alloc o3).alloc o4
  have HPM := hid hpm
  have HG1 := hid hg1
  have HI := hid hI
  have HI1 := hid (hS.grow hI hg1)
  have HOC := hid hoc
  have HTC := hid htc
  have HX := hid hx
  have HRE := hid hre
  have HD := hid hD
  have HO0 := hid (ho0.le hg1.le)
  have HT0 := hid (h0.le hg1.le)
  have HLE0 := hid (hle0.trans hg1.le)
  have HE := hid (And.intro e1 (And.intro e2 (And.intro e3 e4)))
  have hf1 := hg1.fut
  have hlg : ∀ w', Fut g1 w' → Fut g w' := fun w' h => h.le hg1.le
  clear hpm hI hoc htc hx hg1 e1 e2 e3 e4 hre hD hk ho0 h0 hle0
  unfold Callable at hFo hFt
  have hsum : IntKind.i64.wrap ((f : Int) + 1) = (f : Int) + 1 := IntWalk.i64_in _ (by omega)
  have hsays := fun (t : Nat) (ht : t ≤ T.s.length) (y : Ig I s g1 M ((((w.alloc (.cells #[.pointer (some ⟨mb, 0, none⟩)] 111)).alloc (.cells #[.func (.func Fo) #[] co] 140)).alloc (.cells #[.func (.func Ft) #[] ct] 141)).alloc (.cells #[.int .i64 2, .int .u64 r.s.a, .int .u64 r.s.b, .int .u64 r.s.c, .int .u64 r.s.d, .int .i64 r.n, .slice r.a r.len r.cap, .slice ka kn kcap] 133))) => hS.says (f := f) (t := t) (HLE0.out.trans y.h.le) y.i HX.out hf ht
  by_cases hlt : f < T.s.length
  · have hs1 := hsays (f + 1) (by omega)
    have hok1 := fun (y : Ig I s g1 M ((((w.alloc (.cells #[.pointer (some ⟨mb, 0, none⟩)] 111)).alloc (.cells #[.func (.func Fo) #[] co] 140)).alloc (.cells #[.func (.func Ft) #[] ct] 141)).alloc (.cells #[.int .i64 2, .int .u64 r.s.a, .int .u64 r.s.b, .int .u64 r.s.c, .int .u64 r.s.d, .int .i64 r.n, .slice r.a r.len r.cap, .slice ka kn kcap] 133))) => HOC.out y.g' y.M' s y.w (f + 1) (HG1.out.le.trans y.h.le) y.i (by omega)
    have hsf : T.s[f]? = some T.s[f] := List.getElem?_eq_getElem hlt
    have hen : endsF T.s x.re f (f + 1) = x.set.has (T.s[f]).toNat := by rw [HRE.out, endsF, hsf]; simp
    have hwy : ways T.s x.re f ok = if x.set.has (T.s[f]).toNat && ok (f + 1) then [(.mk 2 ((T.s[f]).toNat : Int) [], f + 1)] else [] := by rw [HRE.out, ways, hsf]
    rw [hen] at hs1
    clear hsays hen hsf
    have hmin : (f : Int) + 1 ≤ (T.s.length : Int) := by omega
    cases hh : x.set.has (T.s[f]).toNat with
    | false =>
      rw [hh] at hs1 hwy
      simp only [Bool.false_and, Bool.false_eq_true, if_false] at hwy
      have HS1 := hid hs1
      have HOK1 := hid hok1
      have HW := hid hwy
      clear hs1 hwy hh hok1
      go_enter Try.func57, Try.ntmps57
      go_wp2_with fail
      refine wp_region_i (s := s) (g := g1) (M := M) (I := I) (w0 := (((w.alloc (.cells #[.pointer (some ⟨mb, 0, none⟩)] 111)).alloc (.cells #[.func (.func Fo) #[] co] 140)).alloc (.cells #[.func (.func Ft) #[] ct] 141)).alloc (.cells #[.int .i64 2, .int .u64 r.s.a, .int .u64 r.s.b, .int .u64 r.s.c, .int .u64 r.s.d, .int .i64 r.n, .slice r.a r.len r.cap, .slice ka kn kcap] 133)) (by kernel_rfl) (by kernel_rfl) ⟨⟨_, g1, M, (Grow.refl hf1).drew.istep M, hS.grow HI1.out (Grow.refl hf1).drew⟩, rfl⟩ ?_
      have hx : ∀ y : Ig I s g1 M ((((w.alloc (.cells #[.pointer (some ⟨mb, 0, none⟩)] 111)).alloc (.cells #[.func (.func Fo) #[] co] 140)).alloc (.cells #[.func (.func Ft) #[] ct] 141)).alloc (.cells #[.int .i64 2, .int .u64 r.s.a, .int .u64 r.s.b, .int .u64 r.s.c, .int .u64 r.s.d, .int .i64 r.n, .slice r.a r.len r.cap, .slice ka kn kcap] 133)), Fut g1 y.w := fun y => y.h.step.fut.le y.h.le
      have hne : Nonempty (Ig I s g1 M ((((w.alloc (.cells #[.pointer (some ⟨mb, 0, none⟩)] 111)).alloc (.cells #[.func (.func Fo) #[] co] 140)).alloc (.cells #[.func (.func Ft) #[] ct] 141)).alloc (.cells #[.int .i64 2, .int .u64 r.s.a, .int .u64 r.s.b, .int .u64 r.s.c, .int .u64 r.s.d, .int .i64 r.n, .slice r.a r.len r.cap, .slice ka kn kcap] 133))) := ⟨⟨_, g1, M, (Grow.refl hf1).istep M, HI1.out⟩⟩
      repeat (go_big_quiet_step ((first | (go_at_call 33; exact quiet_i rfl (HS1.out _)) | (exact quiet_i rfl (HOK1.out _)))))
      refine wpQuiet_nil ?_
      rintro w2 ⟨⟨_, g5, M5, h5, i5⟩, rfl⟩
      have H5 := hid h5
      have I5 := hid i5
      clear h5 i5 hx hne
      go_wp2_with fail
      go_ret
      rw [HW.out]
      exact ⟨rfl, g5, M5, (HG1.out.istep M).trans H5.out, I5.out, fun _ => hlive⟩
    | true =>
      rw [hh] at hs1 hwy
      cases hok : ok (f + 1) with
      | false =>
        rw [hok] at hwy hok1
        simp only [Bool.and_false, Bool.false_eq_true, if_false] at hwy
        have HS1 := hid hs1
        have HOK1 := hid hok1
        have HW := hid hwy
        clear hs1 hwy hh hok1 hok
        go_enter Try.func57, Try.ntmps57
        go_wp2_with fail
        refine wp_region_i (s := s) (g := g1) (M := M) (I := I) (w0 := (((w.alloc (.cells #[.pointer (some ⟨mb, 0, none⟩)] 111)).alloc (.cells #[.func (.func Fo) #[] co] 140)).alloc (.cells #[.func (.func Ft) #[] ct] 141)).alloc (.cells #[.int .i64 2, .int .u64 r.s.a, .int .u64 r.s.b, .int .u64 r.s.c, .int .u64 r.s.d, .int .i64 r.n, .slice r.a r.len r.cap, .slice ka kn kcap] 133)) (by kernel_rfl) (by kernel_rfl) ⟨⟨_, g1, M, (Grow.refl hf1).drew.istep M, hS.grow HI1.out (Grow.refl hf1).drew⟩, rfl⟩ ?_
        have hx : ∀ y : Ig I s g1 M ((((w.alloc (.cells #[.pointer (some ⟨mb, 0, none⟩)] 111)).alloc (.cells #[.func (.func Fo) #[] co] 140)).alloc (.cells #[.func (.func Ft) #[] ct] 141)).alloc (.cells #[.int .i64 2, .int .u64 r.s.a, .int .u64 r.s.b, .int .u64 r.s.c, .int .u64 r.s.d, .int .i64 r.n, .slice r.a r.len r.cap, .slice ka kn kcap] 133)), Fut g1 y.w := fun y => y.h.step.fut.le y.h.le
        have hne : Nonempty (Ig I s g1 M ((((w.alloc (.cells #[.pointer (some ⟨mb, 0, none⟩)] 111)).alloc (.cells #[.func (.func Fo) #[] co] 140)).alloc (.cells #[.func (.func Ft) #[] ct] 141)).alloc (.cells #[.int .i64 2, .int .u64 r.s.a, .int .u64 r.s.b, .int .u64 r.s.c, .int .u64 r.s.d, .int .i64 r.n, .slice r.a r.len r.cap, .slice ka kn kcap] 133))) := ⟨⟨_, g1, M, (Grow.refl hf1).istep M, HI1.out⟩⟩
        repeat (go_big_quiet_step ((first | (go_at_call 33; exact quiet_i rfl (HS1.out _)) | (exact quiet_i rfl (HOK1.out _)))))
        refine wpQuiet_nil ?_
        rintro w2 ⟨⟨_, g5, M5, h5, i5⟩, rfl⟩
        have H5 := hid h5
        have I5 := hid i5
        clear h5 i5 hx hne
        go_wp2_with fail
        go_ret
        rw [HW.out]
        exact ⟨rfl, g5, M5, (HG1.out.istep M).trans H5.out, I5.out, fun _ => hlive⟩
      | true =>
        rw [hok] at hwy hok1
        simp only [Bool.and_true, if_true] at hwy
        have HS1 := hid hs1
        have HOK1 := hid hok1
        have HD1 := hid (HD.out (f + 1) (by omega) hok)
        have hby := fun w hw => tbyte_any (g := g1) hlt (hS.tab.le HLE0.out) w hw
        unfold byteV at hby
        obtain ⟨ch, hch⟩ : ∃ ch, ch = T.s[f] := ⟨_, rfl⟩
        rw [← hch] at hby hwy
        have HBY := hid hby
        clear hby hch
        have HW := hid hwy
        clear hs1 hwy hh hok1 hok
        go_enter Try.func57, Try.ntmps57
        go_wp2_with fail
        refine wp_region_i (s := s) (g := g1) (M := M) (I := I) (w0 := (((w.alloc (.cells #[.pointer (some ⟨mb, 0, none⟩)] 111)).alloc (.cells #[.func (.func Fo) #[] co] 140)).alloc (.cells #[.func (.func Ft) #[] ct] 141)).alloc (.cells #[.int .i64 2, .int .u64 r.s.a, .int .u64 r.s.b, .int .u64 r.s.c, .int .u64 r.s.d, .int .i64 r.n, .slice r.a r.len r.cap, .slice ka kn kcap] 133)) (by kernel_rfl) (by kernel_rfl) ⟨⟨_, g1, M, (Grow.refl hf1).drew.istep M, hS.grow HI1.out (Grow.refl hf1).drew⟩, rfl⟩ ?_
        have hx : ∀ y : Ig I s g1 M ((((w.alloc (.cells #[.pointer (some ⟨mb, 0, none⟩)] 111)).alloc (.cells #[.func (.func Fo) #[] co] 140)).alloc (.cells #[.func (.func Ft) #[] ct] 141)).alloc (.cells #[.int .i64 2, .int .u64 r.s.a, .int .u64 r.s.b, .int .u64 r.s.c, .int .u64 r.s.d, .int .i64 r.n, .slice r.a r.len r.cap, .slice ka kn kcap] 133)), Fut g1 y.w := fun y => y.h.step.fut.le y.h.le
        have hne : Nonempty (Ig I s g1 M ((((w.alloc (.cells #[.pointer (some ⟨mb, 0, none⟩)] 111)).alloc (.cells #[.func (.func Fo) #[] co] 140)).alloc (.cells #[.func (.func Ft) #[] ct] 141)).alloc (.cells #[.int .i64 2, .int .u64 r.s.a, .int .u64 r.s.b, .int .u64 r.s.c, .int .u64 r.s.d, .int .i64 r.n, .slice r.a r.len r.cap, .slice ka kn kcap] 133))) := ⟨⟨_, g1, M, (Grow.refl hf1).istep M, HI1.out⟩⟩
        repeat (go_big_quiet_step ((first | (go_at_call 33; exact quiet_i rfl (HS1.out _)) | (exact quiet_i rfl (HOK1.out _)))))
        refine wpQuiet_nil ?_
        rintro w2 ⟨⟨_, g5, M5, h5, i5⟩, rfl⟩
        have H5 := hid h5
        have I5 := hid i5
        have hf5 := h5.step.fut.le h5.le
        clear h5 i5 hx hne
        go_wp2_with fail
        go_region_held3 (fun w' => Fut g1 w') (first | exact Fut.drew (by assumption) | exact Fut.alloc (by assumption) _ | assumption) (first | (go_at_call 75; refine (HBY.out w2.drew hf5.drew).mono ?_; rintro e w' ⟨rfl, rfl⟩) | (refine (HTC.out g5 M5 s w2.drew ⟨2, ((ch).toNat : Int), none, 0, 0⟩ (.mk 2 ((ch).toNat : Int) []) (f + 1) (HG1.out.le.trans H5.out.le) (hS.grow I5.out (Grow.refl (hS.fut I5.out)).drew) hlive (.nil 2 _) HD1.out).mono ?_; rintro e w6 hp; have HP := hid hp; have hf6 : Fut g1 w6 := (by obtain ⟨-, g6, M6, h6, -⟩ := hp; exact h6.step.fut.le (H5.out.le.trans h6.le)); obtain ⟨rfl, -⟩ := hp) | fail)
        all_goals go_wp2_with fail
        all_goals go_ret
        all_goals have hw2 := HW.out
        all_goals rw [hw2, runT_single]
        all_goals exact HP.out.pre ((HG1.out.istep M).trans (H5.out.trans ((Grow.refl (hS.fut I5.out)).drew.istep M5)))
  · have hs1 := hsays f (by omega)
    have hok1 : True := trivial
    have hsf : T.s[f]? = none := List.getElem?_eq_none (by omega)
    have hen : endsF T.s x.re f f = false := by rw [HRE.out, endsF, hsf]
    have hwy : ways T.s x.re f ok = [] := by rw [HRE.out, ways, hsf]
    obtain rfl : f = T.s.length := by omega
    rw [hen] at hs1
    have HS1 := hid hs1
    have HOK1 := hid hok1
    have HW := hid hwy
    have hmin : (T.s.length : Int) < (T.s.length : Int) + 1 := by omega
    clear hsays hen hsf hs1 hwy hok1
    go_enter Try.func57, Try.ntmps57
    go_wp2_with fail
    refine wp_region_i (s := s) (g := g1) (M := M) (I := I) (w0 := (((w.alloc (.cells #[.pointer (some ⟨mb, 0, none⟩)] 111)).alloc (.cells #[.func (.func Fo) #[] co] 140)).alloc (.cells #[.func (.func Ft) #[] ct] 141)).alloc (.cells #[.int .i64 2, .int .u64 r.s.a, .int .u64 r.s.b, .int .u64 r.s.c, .int .u64 r.s.d, .int .i64 r.n, .slice r.a r.len r.cap, .slice ka kn kcap] 133)) (by kernel_rfl) (by kernel_rfl) ⟨⟨_, g1, M, (Grow.refl hf1).drew.istep M, hS.grow HI1.out (Grow.refl hf1).drew⟩, rfl⟩ ?_
    have hx : ∀ y : Ig I s g1 M ((((w.alloc (.cells #[.pointer (some ⟨mb, 0, none⟩)] 111)).alloc (.cells #[.func (.func Fo) #[] co] 140)).alloc (.cells #[.func (.func Ft) #[] ct] 141)).alloc (.cells #[.int .i64 2, .int .u64 r.s.a, .int .u64 r.s.b, .int .u64 r.s.c, .int .u64 r.s.d, .int .i64 r.n, .slice r.a r.len r.cap, .slice ka kn kcap] 133)), Fut g1 y.w := fun y => y.h.step.fut.le y.h.le
    have hne : Nonempty (Ig I s g1 M ((((w.alloc (.cells #[.pointer (some ⟨mb, 0, none⟩)] 111)).alloc (.cells #[.func (.func Fo) #[] co] 140)).alloc (.cells #[.func (.func Ft) #[] ct] 141)).alloc (.cells #[.int .i64 2, .int .u64 r.s.a, .int .u64 r.s.b, .int .u64 r.s.c, .int .u64 r.s.d, .int .i64 r.n, .slice r.a r.len r.cap, .slice ka kn kcap] 133))) := ⟨⟨_, g1, M, (Grow.refl hf1).istep M, HI1.out⟩⟩
    repeat (go_big_quiet_step ((first | (go_at_call 33; exact quiet_i rfl (HS1.out _)) | (exact quiet_i rfl (HOK1.out _)))))
    refine wpQuiet_nil ?_
    rintro w2 ⟨⟨_, g5, M5, h5, i5⟩, rfl⟩
    have H5 := hid h5
    have I5 := hid i5
    clear h5 i5 hx hne
    go_wp2_with fail
    go_ret
    rw [HW.out]
    exact ⟨rfl, g5, M5, (HG1.out.istep M).trans H5.out, I5.out, fun _ => hlive⟩
end Go.Proofs.Ytjodmimnbpgfcaa

/- Each3 -/
namespace Go.Proofs.Ytjodmimnbpgfcaa
open Go.RowKit Go.IntWalk

set_option maxRecDepth 100000 in
set_option maxHeartbeats 4000000 in
theorem each_3 {σ : Type} {I : Inv σ} {live : σ → Prop} {T : Tab} {g0 : G} {mb i : Nat} {x y z : Core} (hS : Sys T g0 mb I) (hx : (flatC T.c)[i]? = some x) (hk : x.kind = 3) (hl : x.l = [y, z]) (hre : x.re = .both y.re z.re) (IH : ∀ (y : Core) (j : Nat), nodes y < nodes x → (flatC T.c)[j]? = some y → EachSpec I live T mb g0 j y.re) : EachSpec I live T mb g0 i x.re := by
  intro g M s w f okv tkv ok tk D hle0 hI hlive hf ho h hD
  have hw := hS.fut hI
  have ho0 := ho
  have h0 := h
  obtain ⟨Fo, co, rfl, hFo, hoc⟩ := ho
  obtain ⟨Ft, ct, rfl, hFt, htc⟩ := h
  obtain ⟨r, ka, kn, kcap, hpm⟩ := hS.tab.parts i x hx
  obtain ⟨g1, hg1, e1, e2, e3, e4⟩ := box4 hw (.cells #[.pointer (some ⟨mb, 0, none⟩)] 111) (.cells #[.func (.func Fo) #[] co] 140) (.cells #[.func (.func Ft) #[] ct] 141) (.cells #[.int .i64 3, .int .u64 r.s.a, .int .u64 r.s.b, .int .u64 r.s.c, .int .u64 r.s.d, .int .i64 r.n, .slice r.a r.len r.cap, .slice ka kn kcap] 133)
  have k1 := fut_cell e1 0 _ rfl
  have k2 := fut_cell e2 0 _ rfl
  have k3 := fut_cell e3 0 _ rfl
  have k5 := fut_cell e4 7 _ rfl
  have m1 := fut_cell (hle0.blk _ _ hS.maker) 0 _ rfl
  have m2 := fut_cell (hle0.blk _ _ hS.maker) 1 _ rfl
  have t0 := fut_cell (hle0.blk _ _ hS.tab.tab) 0 _ rfl
  have hfew := hS.tab.few
  have hshort := hS.tab.short
  have hin := flat_lt hx
  have hii : (i : Int) < (nodes T.c : Int) := by omega
  have hpc := hpm.c.le hle0
  obtain ⟨q0, q1, q2, q3, q4, q5, q6⟩ := hpc
  have q7 := fun w (hw : Fut g w) => hpm.c7 w (hw.le hle0)
  rw [hpm.k, hk] at q0
  have fa := fun o => hw.alloc o
  have fa2 := fun o o2 => (hw.alloc o).alloc o2
  have fa3 := fun o o2 o3 => ((hw.alloc o).alloc o2).alloc o3
  have fa4 := fun o o2 o3 o4 => (((hw.alloc o).alloc o2).alloc o3).alloc o4
  have HPM := hid hpm
  have HG1 := hid hg1
  have HI := hid hI
  have HI1 := hid (hS.grow hI hg1)
  have HOC := hid hoc
  have HTC := hid htc
  have HX := hid hx
  have HRE := hid hre
  have HD := hid hD
  have HO0 := hid (ho0.le hg1.le)
  have HT0 := hid (h0.le hg1.le)
  have HLE0 := hid (hle0.trans hg1.le)
  have HE := hid (And.intro e1 (And.intro e2 (And.intro e3 e4)))
  have hf1 := hg1.fut
  have hlg : ∀ w', Fut g1 w' → Fut g w' := fun w' h => h.le hg1.le
  clear hpm hI hoc htc hx hg1 e1 e2 e3 e4 hre hD hk ho0 h0 hle0
  unfold Callable at hFo hFt
  have hny : nodes y < nodes x ∧ nodes z < nodes x := by
    cases x with
    | mk k s n l =>
      have := hl
      simp only [Core.l] at this
      subst this
      simp only [nodes, nodesL]; omega
  have hkids := HPM.out.kids.le HLE0.out
  rw [hl] at hkids
  obtain ⟨kb, koff, hka, hkc⟩ := hkids.get (i := 0) (by simp [kidIdx])
  have hkn := hkids.length
  simp only [List.length_map, kidIdx_len, List.length_cons, List.length_nil, Nat.zero_add, Nat.reduceAdd] at hkn
  obtain ⟨rfl, hkn2, hkn3⟩ := hkn
  have hk0 : ∀ w, Fut g1 w → w.cell? ⟨kb, koff, none⟩ = some (.int .i64 ((i + 1 : Nat) : Int)) := hkc 0 (natV (i + 1)) rfl
  have hk1 : ∀ w, Fut g1 w → w.cell? ⟨kb, koff + 1, none⟩ = some (.int .i64 ((i + 1 + nodes y : Nat) : Int)) := hkc 1 (natV (i + 1 + nodes y)) rfl
  obtain ⟨j, hj1, hj2, -⟩ := flat_kid HX.out (j := 0) (y := y) (by rw [hl]; rfl)
  rw [hl] at hj1
  simp only [kidIdx, List.getElem?_cons_zero, Option.some.injEq] at hj1
  subst hj1
  obtain ⟨j, hj1, hj3, -⟩ := flat_kid HX.out (j := 1) (y := z) (by rw [hl]; rfl)
  rw [hl] at hj1
  simp only [kidIdx, List.getElem?_cons_succ, List.getElem?_cons_zero, Option.some.injEq] at hj1
  subst hj1
  obtain ⟨ki0, hki0⟩ : ∃ ki0, ki0 = i + 1 := ⟨_, rfl⟩
  obtain ⟨ki1, hki1⟩ : ∃ ki1, ki1 = i + 1 + nodes y := ⟨_, rfl⟩
  rw [← hki0] at hk0 hj2
  rw [← hki1] at hk1 hj3
  have IHy := IH y ki0 hny.1 hj2
  have IHz := IH z ki1 hny.2 hj3
  have HJ2 := hid hj2
  have HJ3 := hid hj3
  subst hka
  clear hkids hkc hny hj2 hj3 hkn2 hkn3 hki0 hki1 IH hl
  obtain ⟨g2, hg2, hle, eb⟩ : ∃ g2, Grow g w g2 (((((w.alloc (.cells #[.pointer (some ⟨mb, 0, none⟩)] 111)).alloc (.cells #[.func (.func Fo) #[] co] 140)).alloc (.cells #[.func (.func Ft) #[] ct] 141)).alloc (.cells #[.int .i64 3, .int .u64 r.s.a, .int .u64 r.s.b, .int .u64 r.s.c, .int .u64 r.s.d, .int .i64 r.n, .slice r.a r.len r.cap, .slice (some ⟨kb, koff, none⟩) 2 kcap] 133)).alloc (.cells #[.int .i64 (ki1 : Nat)] 3)) ∧ g1.Le g2 ∧ g2.blk (w.heap.size + 1 + 1 + 1 + 1) = some (.cells #[.int .i64 (ki1 : Nat)] 3) := by
    have h1 := HG1.out.box (.cells #[.int .i64 (ki1 : Nat)] 3)
    have h2 := G.add_same g1 ((((w.alloc (.cells #[.pointer (some ⟨mb, 0, none⟩)] 111)).alloc (.cells #[.func (.func Fo) #[] co] 140)).alloc (.cells #[.func (.func Ft) #[] ct] 141)).alloc (.cells #[.int .i64 3, .int .u64 r.s.a, .int .u64 r.s.b, .int .u64 r.s.c, .int .u64 r.s.d, .int .i64 r.n, .slice r.a r.len r.cap, .slice (some ⟨kb, koff, none⟩) 2 kcap] 133)).heap.size (.cells #[.int .i64 (ki1 : Nat)] 3)
    simp only [World.size_alloc] at h1 h2
    exact ⟨_, h1, G.le_add (hf1.none_of_size (by simp)), h2⟩
  have i1 := each1_impl hS (HLE0.out.trans hle) HJ3.out (by omega) (HO0.out.le hle) (hle.blk _ _ HE.out.1) (hle.blk _ _ HE.out.2.1) eb
  have i2 := each2_impl hS (HLE0.out.trans hle) IHz (HO0.out.le hle) (HT0.out.le hle) HD.out (hle.blk _ _ HE.out.1) eb (hle.blk _ _ HE.out.2.1) (hle.blk _ _ HE.out.2.2.1)
  have hcall := IHy g2 M s _ f _ _ _ _ _ (HLE0.out.trans hle) (hS.grow HI.out hg2.drew) hlive hf i1 i2 (fun t h _ => h)
  have fin : runT tk (ways T.s x.re f ok) s = runT (fun v k s => runT (fun w t s => tk (.mk 3 0 [v, w]) t s) (ways T.s z.re k ok) s) (ways T.s y.re f (mayF (endsF T.s z.re) ok T.s.length)) s := by
    rw [HRE.out, ways, runT_flatMap]
    simp only [runT_map]
  have HF := hid fin
  have HG2 := hid hg2
  have HLE := hid hle
  have hf5 := fun o => hf1.alloc o
  clear hg2 eb i1 i2 IHy IHz fin hle
  go_enter Try.func57, Try.ntmps57
  go_wp2_with fail
  go_region
  have hf6 := HG2.out.drew.fut.le HLE.out
  go_wp2_with (first | (go_at_call 57; refine hcall.mono ?_; rintro e w2 hp; have HP := hid hp; obtain ⟨rfl, -⟩ := hp) | fail)
  go_ret
  rw [HF.out]
  exact HP.out.pre (HG2.out.drew.istep M)

end Go.Proofs.Ytjodmimnbpgfcaa
