/- often, walked. A library text: no claim is stated here. reach, walked. A library text: no claim is stated here. Each full value of a text is among the ways. Plain Lean, no program. A library text: no claim is stated here. -/
import Derived.Test.YtjodmimnbpgfcaaS19

/- Often -/
namespace Go.Proofs.Ytjodmimnbpgfcaa
open Go.RowKit Go.IntWalk

theorem box7 {g : G} {w : World} (hw : Fut g w) (o1 o2 o3 o4 o5 o6 o7 : Obj) : ∃ g1, Grow g w g1 (((((((w.alloc o1).alloc o2).alloc o3).alloc o4).alloc o5).alloc o6).alloc o7) ∧ g1.blk w.heap.size = some o1 ∧ g1.blk (w.heap.size + 1) = some o2 ∧ g1.blk (w.heap.size + 1 + 1) = some o3 ∧
    g1.blk (w.heap.size + 1 + 1 + 1) = some o4 ∧ g1.blk (w.heap.size + 1 + 1 + 1 + 1) = some o5 ∧ g1.blk (w.heap.size + 1 + 1 + 1 + 1 + 1) = some o6 ∧ g1.blk (w.heap.size + 1 + 1 + 1 + 1 + 1 + 1) = some o7 := by
  obtain ⟨g1, h1, e1, e2⟩ := box2 hw o1 o2
  obtain ⟨g2, h2, f1, f2⟩ := box2 h1.fut o3 o4
  obtain ⟨g3, h3, d1, d2, d3⟩ := box3 h2.fut o5 o6 o7
  simp only [World.size_alloc] at f1 f2 d1 d2 d3
  exact ⟨g3, (h1.trans h2).trans h3, h3.le.blk _ _ (h2.le.blk _ _ e1), h3.le.blk _ _ (h2.le.blk _ _ e2), h3.le.blk _ _ f1, h3.le.blk _ _ f2, d1, d2, d3⟩

set_option maxHeartbeats 1000000 in
theorem often_step {σ : Type} {I : Inv σ} {live : σ → Prop} {T : Tab} {g0 : G} {mb p d : Nat} {x : Re} {may : Nat → Bool} (hS : Sys T g0 mb I) (hshort : T.s.length ≤ 65536) (hE : EachSpec I live T mb g0 p x) (IH : OftenSpec I live T mb g0 p x may d) : OftenSpec I live T mb g0 p x may (d + 1) := by
  intro g M s w f had a c okv tkv ok tk D ma mc hle0 hI hlive hf hd hl hv hm ho h hD
  have hw := hS.fut hI
  have ho' := ho
  have h' := h
  obtain ⟨Fo, co, rfl, hFo, hoc⟩ := ho'
  obtain ⟨Ft, ct, rfl, hFt, htc⟩ := h'
  obtain ⟨g1, hg1, e1, e2, e3, e4, e5, e6, e7⟩ := box7 hw (.cells #[.pointer (some ⟨mb, 0, none⟩)] 111) (.cells #[.int .i64 (p : Nat)] 3) (.cells #[.int .i64 (f : Nat)] 3) (.cells #[.slice a had.length c] 41) (.cells #[.slice ma (T.s.length + 1) mc] 97) (.cells #[.func (.func Fo) #[] co] 140) (.cells #[.func (.func Ft) #[] ct] 141)
  have k1 := fut_cell e1 0 _ rfl
  have k2 := fut_cell e2 0 _ rfl
  have k3 := fut_cell e3 0 _ rfl
  have k4 := fut_cell e4 0 _ rfl
  have k5 := fut_cell e5 0 _ rfl
  have k6 := fut_cell e6 0 _ rfl
  have k7 := fut_cell e7 0 _ rfl
  have i1 := often1_impl hS (hm.le hg1.le) e3 e5
  have i2 := often2_impl hS (hle0.trans hg1.le) hshort IH (by omega) hl hf (hv.le hg1.le) (hm.le hg1.le) (ho.le hg1.le) (h.le hg1.le) hD e1 e2 e4 e5 e6 e7
  have hcall := hE g1 M s _ f _ _ _ _ _ (hle0.trans hg1.le) (hS.grow hI hg1) hlive hf i1 i2 (fun t h1 h2 => by simp at h2; exact ⟨h2.1, h1⟩)
  have hW1 := hg1.fut
  have fin : runT tk (oftenW (ways T.s x) may ok (d + 1) f had) s = if (runT (fun v t s => runT tk (oftenW (ways T.s x) may ok d t (had ++ [v])) s) (ways T.s x f fun t => decide (f < t) && may t) s).1 = true then runT tk (if ok f = true then [(.mk 6 0 had, f)] else []) (runT (fun v t s => runT tk (oftenW (ways T.s x) may ok d t (had ++ [v])) s) (ways T.s x f fun t => decide (f < t) && may t) s).2 else runT (fun v t s => runT tk (oftenW (ways T.s x) may ok d t (had ++ [v])) s) (ways T.s x f fun t => decide (f < t) && may t) s := by
    rw [oftenW, runT_append, runT_flatMap]
  generalize runT (fun v t s => runT tk (oftenW (ways T.s x) may ok d t (had ++ [v])) s) (ways T.s x f fun t => decide (f < t) && may t) s = R at hcall fin
  have HG1 := hid hg1
  have HI := hid hI
  have HOC := hid hoc
  have HTC := hid htc
  have HV := hid (hv.le hg1.le)
  have HF := hid fin
  have HD := hid hD
  clear hI hg1 e1 e2 e3 e4 e5 e6 e7 i1 i2 ho h hv hm hE IH fin hoc htc hD
  have hs5 : had.length ≤ 100000 := by omega
  obtain ⟨b, s1⟩ := R
  unfold Callable at hFo hFt
  cases b with
  | false =>
    go_enter Try.func80, Try.ntmps80
    go_wp2_with (first | (go_at_call 57; refine hcall.mono ?_; rintro e w2 hp; have HP := hid hp; obtain ⟨rfl, -⟩ := hp; clear hcall))
    go_ret
    have := HF.out
    rw [this]
    exact HP.out.pre (HG1.out.istep M)
  | true =>
    cases hok : ok f with
    | false =>
      go_enter Try.func80, Try.ntmps80
      go_wp2_with (first | (go_at_call 57; refine hcall.mono ?_; rintro e w2 hp; obtain ⟨rfl, g2, M2, h2, h3, h4⟩ := hp; have hf2 : Fut g1 w2 := h2.step.fut.le h2.le; have H2 := hid h2; have H3 := hid h3; have H4 := hid h4; clear h2 h3 h4 hcall))
      have hoc2 := HOC.out g2 M2 s1 w2 f (HG1.out.le.trans H2.out.le) H3.out hf
      rw [hok] at hoc2
      refine hoc2.mono ?_
      rintro e w3 hp
      have HP := hid hp
      obtain ⟨rfl, -⟩ := hp
      clear hoc2
      go_wp2_with fail
      go_ret
      obtain ⟨-, g3, M3, h3, h4⟩ := HP.out
      have := HF.out
      rw [this, hok]
      exact ⟨rfl, g3, M3, (HG1.out.istep M).trans (H2.out.trans h3), h4, fun _ => H4.out trivial⟩
    | true =>
      go_enter Try.func80, Try.ntmps80
      go_wp2_with (first | (go_at_call 57; refine hcall.mono ?_; rintro e w2 hp; obtain ⟨rfl, g2, M2, h2, h3, h4⟩ := hp; have hf2 : Fut g1 w2 := h2.step.fut.le h2.le; have H2 := hid h2; have H3 := hid h3; have H4 := hid h4; clear h2 h3 h4 hcall))
      have hoc2 := HOC.out g2 M2 s1 w2 f (HG1.out.le.trans H2.out.le) H3.out hf
      rw [hok] at hoc2
      refine hoc2.mono ?_
      rintro e w3 hp
      obtain ⟨rfl, g3, M3, h3, h4⟩ := hp
      have hf3 := h3.step.fut
      have hf3' := hf3.le (H2.out.le.trans h3.le)
      have hv3 := (HV.out.le (H2.out.le.trans h3.le))
      have HG3 := hid h3
      have HI3 := hid h4
      clear hoc2 h3 h4 hf2
      go_wp2_with fail
      go_region_held3 (fun w' => Fut g1 w') (first | exact Fut.drew (by assumption) | exact Fut.alloc (by assumption) _ | assumption) (first | (go_at_call 90; refine (clone_vals hv3 hs5 _ hf3.drew).mono ?_; rintro e w4 ⟨cv, crs, rfl, hg4, ho4, hr4, hz4⟩; obtain ⟨g5, a5, c5, rfl, h5, hle5, hv5, -⟩ := vals_keep (hg4.step fun _ => False) ho4 (fun k hk => ⟨(ho4.lt k hk).1, hf3.drew.none_of_size (ho4.lt k hk).1⟩) hr4 hz4; have H5 := hid ((Grow.refl hf3).drew.trans h5.grow); have HV5 := hid hv5; have hf5 := h5.fut.le (((H2.out.le.trans HG3.out.le)).trans h5.le); clear hg4 ho4 hr4 hz4 h5 hle5 hv5) | (refine (HTC.out g5 M3 s1 w4 ⟨6, 0, a5, had.length, c5⟩ (.mk 6 0 had) f (HG1.out.le.trans (H2.out.le.trans (HG3.out.le.trans H5.out.le))) (hS.grow HI3.out H5.out) (H4.out trivial) (ValV.head HV5.out) (HD.out f hf hok)).mono ?_; rintro e w6 hp; have HP := hid hp; have hf6 : Fut g1 w6 := (by obtain ⟨-, g6, M6, h6, -⟩ := hp; exact h6.step.fut.le ((H2.out.le.trans (HG3.out.le.trans H5.out.le)).trans h6.le)); obtain ⟨rfl, -⟩ := hp))
      all_goals go_wp2_with fail
      all_goals go_ret
      all_goals have hfin := HF.out
      all_goals rw [hfin, hok]
      all_goals simp only [if_true, runT_single]
      all_goals exact HP.out.pre ((HG1.out.istep M).trans (H2.out.trans (HG3.out.trans (H5.out.istep M3))))

theorem often_any {σ : Type} {I : Inv σ} {live : σ → Prop} {T : Tab} {g0 : G} {mb p : Nat} {x : Re} {may : Nat → Bool} (hS : Sys T g0 mb I) (hshort : T.s.length ≤ 65536) (hE : EachSpec I live T mb g0 p x) : ∀ d, OftenSpec I live T mb g0 p x may d
  | 0 => by
    intro g M s w f had a c okv tkv ok tk D ma mc hle0 hI hlive hf hd
    omega
  | d + 1 => often_step hS hshort hE (often_any hS hshort hE d)
end Go.Proofs.Ytjodmimnbpgfcaa

/- Reach -/
namespace Go.Proofs.Ytjodmimnbpgfcaa
open Go.RowKit Go.IntWalk

theorem reachL_drop (E : Nat → Nat → Bool) (ok : Nat → Bool) (n : Nat) : ∀ (m j : Nat), j ≤ m → (reachL E ok n m).drop (m - j) = reachL E ok n j
  | 0, j, h => by obtain rfl : j = 0 := by omega
                  rfl
  | m + 1, j, h => by
    by_cases hj : j = m + 1
    · subst hj; simp
    · rw [show m + 1 - j = (m - j) + 1 by omega, reachL, List.drop_succ_cons]
      exact reachL_drop E ok n m j (by omega)

theorem reachL_get (E : Nat → Nat → Bool) (ok : Nat → Bool) (n j i : Nat) (hj : j ≤ n) : (reachL E ok n j).getD i false = reachF E ok n (n - j + i) := by
  unfold reachF
  rw [← reachL_drop E ok n n j hj, List.getD_eq_getElem?_getD, List.getD_eq_getElem?_getD, List.getElem?_drop]

theorem reachF_eq (E : Nat → Nat → Bool) (ok : Nat → Bool) (n k : Nat) (hk : k ≤ n) : reachF E ok n k = (ok k || (List.range (n - k)).any fun i => reachF E ok n (k + 1 + i) && E k (k + 1 + i)) := by
  have h := reachL_get E ok n (n - k) 0 (by omega)
  rw [show n - (n - k) + 0 = k by omega] at h
  rw [← h]
  by_cases e : n = k
  · subst e; simp [reachL]
  · obtain ⟨j, hj⟩ : ∃ j, n - k = j + 1 := ⟨n - k - 1, by omega⟩
    rw [hj, reachL]
    simp only [List.getD_cons_zero]
    rw [show n - (j + 1) = k by omega]
    congr 2
    funext i
    rw [reachL_get E ok n j i (by omega), show n - j + i = k + 1 + i by omega]

/-- Where to is behind k: what the inner loop has found so far. -/
def reachU (E : Nat → Nat → Bool) (ok : Nat → Bool) (n k t : Nat) : Bool := ok k || (List.range (t - (k + 1))).any fun i => reachF E ok n (k + 1 + i) && E k (k + 1 + i)

theorem reachU_start (E : Nat → Nat → Bool) (ok : Nat → Bool) (n k : Nat) : reachU E ok n k (k + 1) = ok k := by simp [reachU]
theorem reachU_end (E : Nat → Nat → Bool) (ok : Nat → Bool) (n k : Nat) (hk : k ≤ n) : reachU E ok n k (n + 1) = reachF E ok n k := by
  rw [reachF_eq E ok n k hk, reachU, show n + 1 - (k + 1) = n - k by omega]
theorem reachU_succ (E : Nat → Nat → Bool) (ok : Nat → Bool) (n k t : Nat) (h : k < t) : reachU E ok n k (t + 1) = (reachU E ok n k t || (reachF E ok n t && E k t)) := by
  unfold reachU
  rw [show t + 1 - (k + 1) = (t - (k + 1)) + 1 by omega, List.range_succ, List.any_append, ← Bool.or_assoc]
  simp only [List.any_cons, List.any_nil, Bool.or_false]
  rw [show k + 1 + (t - (k + 1)) = t by omega]
theorem reachU_hit (E : Nat → Nat → Bool) (ok : Nat → Bool) (n k t : Nat) (hk : k ≤ n) (hkt : k < t) (ht : t ≤ n + 1) (h : reachU E ok n k t = true) : reachF E ok n k = true := by
  rw [← reachU_end E ok n k hk]
  unfold reachU at h ⊢
  rcases (Bool.or_eq_true _ _).mp h with h | h
  · rw [h, Bool.true_or]
  · rw [List.any_eq_true] at h
    obtain ⟨i, hi, h⟩ := h
    rw [Bool.or_eq_true, List.any_eq_true]
    simp only [List.mem_range] at hi ⊢
    exact .inr ⟨i, by omega, h⟩

def boolUpd (P : Nat → Bool) (k : Nat) (b : Bool) : Nat → Bool := fun i => if i = k then b else P i

theorem boolsV_get (n : Nat) (P : Nat → Bool) {i : Nat} (hi : i < n) : (boolsV n P).toArray[i]? = some (.bool (P i)) := by
  simp [boolsV, List.getElem?_range hi]
theorem boolsV_set (n : Nat) (P : Nat → Bool) (k : Nat) (b : Bool) : (boolsV n P).toArray.setIfInBounds k (.bool b) = (boolsV n (boolUpd P k b)).toArray := by
  apply Array.ext
  · simp [boolsV]
  · intro i h1 h2
    simp only [boolsV, List.setIfInBounds_toArray, List.getElem_toArray, List.getElem_set, List.getElem_map, List.getElem_range, boolUpd]
    by_cases e : k = i
    · subst e; simp
    · simp only [e, if_false]
      rw [if_neg fun h => e h.symm]

/-- What is known while reach runs: the private row's block B. -/
structure RI {σ : Type} (I : Inv σ) (s : σ) (g : G) (M : Nat → Prop) (w : World) (B n : Nat) (g4 : G) (M4 : Nat → Prop) (P : Nat → Bool) (wr : World) : Prop where
  st : IStep g M w g4 M4 wr
  i : I g4 M4 s wr
  row : wr.heap[B]? = some (.cells (boolsV (n + 1) P).toArray 4)
  notM : ¬ M4 B
  notG : g4.blk B = none
  new : w.heap.size ≤ B

section
variable {σ : Type} {I : Inv σ} {s : σ} {g : G} {M : Nat → Prop} {w : World} {B n : Nat} {g4 : G} {M4 : Nat → Prop} {P : Nat → Bool} {wr : World} {T : Tab} {g0 : G} {mb : Nat}

theorem RI.lt (h : RI I s g M w B n g4 M4 P wr) : B < wr.heap.size := by
  have := h.row
  exact (Array.getElem?_eq_some_iff.1 this).1

theorem RI.call {b : Bool} {e : Ending} {w' : World} (h : RI I s g M w B n g4 M4 P wr) (hp : IPost I g4 M4 wr b s e w') : ∃ g5 M5, e = .returned (.bool b) ∧ RI I s g M w B n g5 M5 P w' ∧ g4.Le g5 := by
  obtain ⟨he, g5, M5, h1, h2⟩ := hp
  exact ⟨g5, M5, he, ⟨h.st.trans h1, h2, (h1.step.old B h.lt h.notM).trans h.row, fun hb => by rcases h1.sub B hb with h3 | h3; exact h.notM h3; have := h.lt; omega, h1.step.new B h.notG h.lt, h.new⟩, h1.le⟩

theorem RI.store (hS : Sys T g0 mb I) (h : RI I s g M w B n g4 M4 P wr) (k : Nat) (b : Bool) : RI I s g M w B n g4 M4 (boolUpd P k b) (wr.setCell ⟨B, k, none⟩ (.bool b)) := by
  have hf := hS.fut h.i
  refine ⟨⟨h.st.step.setCell h.notG (.inr h.new) _, h.st.sub⟩, ?_, ?_, h.notM, h.notG, h.new⟩
  · exact hS.step (N := fun x => x = B) h.i ((Step.refl (fun x => x = B) hf).setCell (a := ⟨B, k, none⟩) h.notG (.inl rfl) _) (fun x hx e => h.notM (e ▸ hx))
  · have := heap_setCell_same h.row (i := k) (.bool b)
    rw [boolsV_set] at this
    exact this

theorem RI.done (hS : Sys T g0 mb I) (h : RI I s g M w B n g4 M4 P wr) (hn : n ≤ 65536) : ∃ g5, IStep g M w g5 M4 wr ∧ I g5 M4 s wr ∧ SliceV g5 (some ⟨B, 0, none⟩) (n + 1) (n + 1) (boolsV (n + 1) P) := by
  refine ⟨g4.add B _, ⟨h.st.step.keep h.row h.new h.notG, h.st.sub⟩, hS.keep h.i h.row h.notG h.notM, ?_⟩
  have hl : (boolsV (n + 1) P).length = n + 1 := by simp [boolsV]
  have := SliceV.row (g := g4.add B (.cells (boolsV (n + 1) P).toArray 4)) B 0 (n + 1) (boolsV (n + 1) P) (by omega) (by omega) (fun W hW i v hv => by
    rw [Nat.zero_add]
    exact fut_cell (G.add_same _ _ _) i v (by simpa using hv) W hW)
  rwa [hl] at this
end

theorem boolsV_congr {n : Nat} {P Q : Nat → Bool} (h : ∀ i, i < n → P i = Q i) : boolsV n P = boolsV n Q := by
  unfold boolsV
  refine List.map_congr_left fun i hi => ?_
  rw [h i (by simpa using hi)]

theorem Try.info4 : (Try.prog.info? 4).map (fun i => (i.zero, i.size, i.bytes)) = some (some (.bool false), 1, 1) := by kernel_rfl

theorem make_bools (n : Nat) (h : n ≤ 65536) (W : World) : (Instr.makeSlice 97 (.int .i64 ((n : Int) + 1)) (.int .i64 ((n : Int) + 1))).run Try.prog W = .ok (.slice (some ⟨W.heap.size, 0, none⟩) (n + 1) (n + 1)) (W.alloc (.cells (boolsV (n + 1) fun _ => false).toArray 4)) := by
  obtain ⟨i1, hi1, hy0, hy1, hy2⟩ := info_parts Try.info4
  have := run_make (P := Try.prog) W 97 4 i1 (.bool false) Try.underlying97 hi1 hy0 .i64 .i64 ((n : Int) + 1) ((n : Int) + 1) (by omega) (by omega) (by rw [hy2]; omega) (by omega)
  rw [hy1, show ((n : Int) + 1).toNat = n + 1 by omega, Nat.mul_one] at this
  rw [this]
  have e : madeCells (Value.cells (.bool false)) (n + 1) = (boolsV (n + 1) fun _ => false).toArray := by
    apply Array.ext
    · simp [madeCells, boolsV]
    · intro i h1 h2
      simp [madeCells, boolsV, Value.cells, Nat.mod_one]
  rw [e]

def RPost {σ : Type} (I : Inv σ) (g : G) (M : Nat → Prop) (w : World) (s : σ) (n : Nat) (P : Nat → Bool) (e : Ending) (w' : World) : Prop :=
  ∃ g' M' a, e = .returned (.slice a (n + 1) (n + 1)) ∧ IStep g M w g' M' w' ∧ I g' M' s w' ∧ SliceV g' a (n + 1) (n + 1) (boolsV (n + 1) P)

set_option maxHeartbeats 2000000 in
theorem reach_any {σ : Type} {I : Inv σ} {T : Tab} {g0 g : G} {mb p : Nat} {x : Core} (hS : Sys T g0 mb I) (hle0 : g0.Le g) (hx : (flatC T.c)[p]? = some x) (hshort : T.s.length ≤ 65536) {okv : Value} {ok : Nat → Bool} (ho : ImplOk I T.s.length g okv ok) {M : Nat → Prop} {s : σ} {w : World} (hI : I g M s w) :
    Calls Try.prog 81 #[.pointer (some ⟨mb, 0, none⟩), .int .i64 (p : Nat), okv] w (RPost I g M w s T.s.length (reachF (endsF T.s x.re) ok T.s.length)) := by
  obtain ⟨F, caps, rfl, hF, hcall⟩ := ho
  have hw := hS.fut hI
  have m1 := fut_cell (hle0.blk _ _ hS.maker) 0 _ rfl
  have m2 := fut_cell (hle0.blk _ _ hS.maker) 1 _ rfl
  have hsum : IntKind.i64.wrap ((T.s.length : Int) + 1) = (T.s.length : Int) + 1 := IntWalk.i64_in _ (by omega)
  have hmk := make_bools T.s.length hshort
  have hstart : RI I s g M w w.heap.size T.s.length g M (fun _ => false) (w.alloc (.cells (boolsV (T.s.length + 1) fun _ => false).toArray 4)) :=
    ⟨((Grow.refl hw).alloc _).istep M, hS.grow hI ((Grow.refl hw).alloc _), heap_alloc_new w _, fun h => by have := (hS.foot hI _ h).2; omega, hw.none_of_size (Nat.le_refl _), Nat.le_refl _⟩
  have HST := hid hstart
  have HX := hid hx
  have HCALL := hid hcall
  have HLE0 := hid hle0
  have hf0 := hS.fut hstart.i
  clear hI hcall hx hle0 hstart
  unfold Callable at hF
  go_enter Try.func81, Try.ntmps81
  go_wp2_with fail
  go_loopg [8] (T.s.length + 1) (fun rem iv wr => ∃ g4 M4 P, rem ≤ T.s.length + 1 ∧ ((∃ k : Nat, rem = k + 1 ∧ iv = .int .i64 (k : Nat)) ∨ (rem = 0 ∧ iv = .int .i64 (-1))) ∧ Hid (RI I s g M w w.heap.size T.s.length g4 M4 P wr) ∧ Hid (∀ i, rem ≤ i → i ≤ T.s.length → P i = reachF (endsF T.s x.re) ok T.s.length i))
  case atStart => exact ⟨g, M, _, Nat.le_refl _, .inl ⟨T.s.length, rfl, rfl⟩, HST.out, fun i h1 h2 => by omega⟩
  case round =>
    obtain ⟨g4, M4, P, hrem, hiv, HRI, HP⟩ := hrel
    have hf4 := (hS.fut HRI.out.i).le HRI.out.st.le
    clear hw hf0
    rcases hiv with ⟨k, rfl, rfl⟩ | ⟨rfl, rfl⟩
    · have hk : k ≤ T.s.length := by omega
      have hc1 := HCALL.out g4 M4 s wr k HRI.out.st.le HRI.out.i hk
      go_wp2_with fail
      refine hc1.mono ?_
      rintro e w3 hp
      clear hc1
      obtain ⟨g5, M5, rfl, hri5, hle5⟩ := HRI.out.call hp
      have HRI5 := hid (hri5.store hS k (ok k))
      have hc5 := heap_cell hri5.row k _ (boolsV_get _ P (by omega))
      have hz5 := heap_free hri5.row k
      have HP5 : Hid ((boolUpd P k (ok k)) k = reachU (endsF T.s x.re) ok T.s.length k (k + 1) ∧ ∀ i, k < i → i ≤ T.s.length → (boolUpd P k (ok k)) i = reachF (endsF T.s x.re) ok T.s.length i) := ⟨by rw [reachU_start]; simp [boolUpd], fun i h1 h2 => by simp only [boolUpd]; rw [if_neg (by omega)]; exact HP.out i h1 h2⟩
      have hf5 := (hS.fut HRI5.out.i).le HRI5.out.st.le
      clear hp hri5 hle5 hf4
      go_wp2_with fail
      generalize w3.setCell ⟨w.heap.size, k, none⟩ (.bool (ok k)) = W3 at HRI5 hf5 ⊢
      clear hc5 hz5
      generalize boolUpd P k (ok k) = P5 at HRI5 HP5
      go_loopg [9] (T.s.length - k) (fun rem iv wr => ∃ t g6 M6 P6, k + 1 ≤ t ∧ t + rem = T.s.length + 1 ∧ iv = .int .i64 (t : Nat) ∧ Hid (RI I s g M w w.heap.size T.s.length g6 M6 P6 wr) ∧ Hid (P6 k = reachU (endsF T.s x.re) ok T.s.length k t ∧ ∀ i, k < i → i ≤ T.s.length → P6 i = reachF (endsF T.s x.re) ok T.s.length i))
      case atStart => exact ⟨k + 1, g5, M5, P5, Nat.le_refl _, by omega, by go_num, HRI5.out, HP5.out⟩
      case round =>
        obtain ⟨t, g6, M6, P6, hkt, htr, rfl, HRI6, HP6⟩ := hrel
        have hf6 := (hS.fut HRI6.out.i).le HRI6.out.st.le
        clear hf5
        have hck := heap_cell HRI6.out.row k _ (boolsV_get _ P6 (by omega))
        have hzk := heap_free HRI6.out.row k
        by_cases hlt : t ≤ T.s.length
        · have hct := heap_cell HRI6.out.row t _ (boolsV_get _ P6 (by omega))
          have hPt := HP6.out.2 t (by omega) hlt
          cases hcur : P6 k with
          | true =>
            rw [hcur] at hck
            have HC := hid hcur
            clear hcur hPt
            go_wp2_with fail
            go_roundg k
            case measure => omega
            case rel =>
              refine ⟨g6, M6, P6, by omega, ?_, HRI6.out, ?_⟩
              · rcases k with _ | k
                · exact .inr ⟨rfl, rfl⟩
                · exact .inl ⟨k, rfl, by go_num⟩
              · intro i h1 h2
                rcases Nat.lt_or_ge k i with h3 | h3
                · exact HP6.out.2 i h3 h2
                · obtain rfl : i = k := by omega
                  exact (HC.out.trans (reachU_hit (endsF T.s x.re) ok T.s.length i t hk hkt (by omega) (HP6.out.1.symm.trans HC.out)).symm)
          | false =>
            rw [hcur] at hck
            have HC := hid hcur
            have hsu := reachU_succ (endsF T.s x.re) ok T.s.length k t hkt
            rw [← HP6.out.1, hcur, Bool.false_or, ← hPt] at hsu
            clear hcur
            cases hpt : P6 t with
            | false =>
              rw [hpt] at hct hsu
              rw [Bool.false_and] at hsu
              have HSU := hid hsu
              have HPT := hid hPt
              clear hpt hPt hsu
              have HRI7 := hid (HRI6.out.store hS k false)
              go_wp2_with fail
              go_roundg (T.s.length - t)
              case measure => omega
              case rel =>
                refine ⟨t + 1, g6, M6, _, by omega, by omega, by go_num, HRI7.out, ?_, ?_⟩
                · simp only [boolUpd, if_true]
                  exact HSU.out.symm
                · intro i h1 h2
                  simp only [boolUpd]
                  rw [if_neg (by omega)]
                  exact HP6.out.2 i h1 h2
            | true =>
              rw [hpt] at hct hsu
              rw [Bool.true_and] at hsu
              have HSU := hid hsu
              have HPT := hid hPt
              clear hpt hPt hsu
              go_wp2_with (first | (go_at_call 33; refine (hS.says (HLE0.out.trans HRI6.out.st.le) HRI6.out.i HX.out hk hlt).mono ?_; rintro e w7 hp; obtain ⟨g7, M7, rfl, hri7, hle7⟩ := HRI6.out.call hp; have HRI7 := hid (hri7.store hS k (endsF T.s x.re k t)); have hc7 := heap_cell hri7.row k _ (boolsV_get _ P6 (by omega)); have hz7 := heap_free hri7.row k; clear hp hri7 hle7))
              go_roundg (T.s.length - t)
              case measure => omega
              case rel =>
                refine ⟨t + 1, g7, M7, _, by omega, by omega, by go_num, HRI7.out, ?_, ?_⟩
                · simp only [boolUpd, if_true]
                  exact HSU.out.symm
                · intro i h1 h2
                  simp only [boolUpd]
                  rw [if_neg (by omega)]
                  exact HP6.out.2 i h1 h2
        · obtain rfl : t = T.s.length + 1 := by omega
          have hue := reachU_end (endsF T.s x.re) ok T.s.length k hk
          have HUE := hid hue
          clear hue
          go_wp2_with fail
          go_roundg k
          case measure => omega
          case rel =>
            refine ⟨g6, M6, P6, by omega, ?_, HRI6.out, ?_⟩
            · rcases k with _ | k
              · exact .inr ⟨rfl, rfl⟩
              · exact .inl ⟨k, rfl, by go_num⟩
            · intro i h1 h2
              rcases Nat.lt_or_ge k i with h3 | h3
              · exact HP6.out.2 i h3 h2
              · obtain rfl : i = k := by omega
                exact HP6.out.1.trans HUE.out
    · go_wp2_with fail
      go_ret
      obtain ⟨g5, h1, h2, h3⟩ := HRI.out.done hS hshort
      refine ⟨g5, M4, _, rfl, h1, h2, ?_⟩
      rwa [boolsV_congr (Q := reachF (endsF T.s x.re) ok T.s.length) (fun i hi => HP.out i (Nat.zero_le _) (by omega))] at h3

end Go.Proofs.Ytjodmimnbpgfcaa

/- PlA -/
namespace Go.Proofs.Ytjodmimnbpgfcaa

theorem seg_nil {s : List UInt8} {f t : Nat} (h1 : f ≤ t) (h2 : t ≤ s.length) (h : seg s f t = []) : t = f := by
  have := seg_len (s := s) (f := f) h2
  rw [h] at this
  simp at this
  omega
theorem seg_more {s : List UInt8} {f t : Nat} (h2 : t ≤ s.length) (h : seg s f t ≠ []) : f < t := by
  have h1 := seg_len (s := s) (f := f) h2
  have := List.length_pos_iff.2 h
  omega

theorem reach_star {s : List UInt8} {a : Re} {ok : Nat → Bool} : ∀ (l : List Val) (k t : Nat), k ≤ t → t ≤ s.length → ok t = true → Full (.star a) (.mk 6 0 l) (seg s k t) → reachF (endsF s a) ok s.length k = true
  | [], k, t, hkt, ht, hok, h => by
    rw [reachF_eq _ _ _ _ (by omega)]
    generalize hu : seg s k t = u at h
    cases h with
    | snil =>
      have := seg_nil hkt ht hu
      subst this
      rw [hok, Bool.true_or]
  | x :: l', k, t, hkt, ht, hok, h => by
    rw [reachF_eq _ _ _ _ (by omega)]
    generalize hu : seg s k t = u at h
    cases h with
    | @scons _ _ _ u v hx hne hl =>
      obtain ⟨j, h1, h2, h3, h4⟩ := seg_split hkt ht hu
      rw [← h3] at hx hne
      rw [← h4] at hl
      have hj := seg_more (show j ≤ s.length by omega) hne
      have hr := reach_star l' j t h2 ht hok hl
      rw [Bool.or_eq_true, List.any_eq_true]
      refine .inr ⟨j - (k + 1), by simp; omega, ?_⟩
      rw [show k + 1 + (j - (k + 1)) = j by omega, hr, Bool.true_and]
      exact (endsF_iff s a k j (by omega)).2 ⟨by omega, by omega, hx.mt⟩

theorem often_complete {s : List UInt8} {a : Re} {ok : Nat → Bool}
    (hW : ∀ (f t : Nat) (P : Nat → Bool) (v : Val), f ≤ t → t ≤ s.length → P t = true → Full a v (seg s f t) → (v, t) ∈ ways s a f P) :
    ∀ (d f : Nat) (had l : List Val) (t : Nat), f ≤ t → t ≤ s.length → s.length + 1 - f ≤ d → ok t = true → Full (.star a) (.mk 6 0 l) (seg s f t) → (.mk 6 0 (had ++ l), t) ∈ oftenW (ways s a) (reachF (endsF s a) ok s.length) ok d f had
  | 0, f, had, l, t, h1, h2, hd, _, _ => by omega
  | d + 1, f, had, l, t, h1, h2, hd, hok, h => by
    rw [oftenW, List.mem_append, List.mem_flatMap]
    generalize hu : seg s f t = u at h
    cases h with
    | snil =>
      have := seg_nil h1 h2 hu
      subst this
      right
      rw [if_pos hok]
      simp
    | @scons a x l' u v hx hne hl =>
      obtain ⟨j, k1, k2, k3, k4⟩ := seg_split h1 h2 hu
      rw [← k3] at hx hne
      rw [← k4] at hl
      have hj := seg_more (show j ≤ s.length by omega) hne
      left
      refine ⟨(x, j), hW f j _ x (by omega) (by omega) ?_ hx, ?_⟩
      · rw [reach_star l' j t k2 h2 hok hl]
        simp [hj]
      · have := often_complete hW d j (had ++ [x]) l' t k2 h2 (by omega) hok hl
        rwa [List.append_assoc] at this

theorem ways_complete (s : List UInt8) : ∀ (r : Re) (f t : Nat) (P : Nat → Bool) (v : Val), f ≤ t → t ≤ s.length → P t = true → Full r v (seg s f t) → (v, t) ∈ ways s r f P
  | .none, f, t, P, v, h1, h2, hP, h => by cases h
  | .empty, f, t, P, v, h1, h2, hP, h => by
    generalize hu : seg s f t = u at h
    cases h
    have := seg_nil h1 h2 hu
    subst this
    rw [ways, if_pos hP]
    simp
  | .byte S, f, t, P, v, h1, h2, hP, h => by
    generalize hu : seg s f t = u at h
    cases h with
    | @byte S b hb =>
      have hl := seg_len (s := s) (f := f) h2
      rw [hu] at hl
      simp at hl
      obtain rfl : t = f + 1 := by omega
      have hs : s[f]? = some s[f] := List.getElem?_eq_getElem (by omega)
      have e := seg_one hs
      rw [hu] at e
      simp at e
      rw [ways, hs]
      simp only [← e, hb, hP, Bool.and_self, if_true]
      simp
  | .both a b, f, t, P, v, h1, h2, hP, h => by
    generalize hu : seg s f t = u at h
    cases h with
    | @both a b x y u w hx hy =>
      obtain ⟨j, k1, k2, k3, k4⟩ := seg_split h1 h2 hu
      rw [← k3] at hx
      rw [← k4] at hy
      rw [ways, List.mem_flatMap]
      refine ⟨(x, j), ways_complete s a f j _ x k1 (by omega) ?_ hx, List.mem_map.2 ⟨(y, t), ways_complete s b j t P y k2 h2 hP hy, rfl⟩⟩
      unfold mayF
      rw [List.any_eq_true]
      refine ⟨t, by rw [List.mem_range']; exact ⟨t - j, by omega, by omega⟩, ?_⟩
      rw [hP, Bool.true_and]
      exact (endsF_iff s b j t (by omega)).2 ⟨k2, h2, hy.mt⟩
  | .or a b, f, t, P, v, h1, h2, hP, h => by
    rw [ways, List.mem_append]
    cases h with
    | orl hx => exact .inl (List.mem_map.2 ⟨(_, t), ways_complete s a f t P _ h1 h2 hP hx, rfl⟩)
    | orr hx => exact .inr (List.mem_map.2 ⟨(_, t), ways_complete s b f t P _ h1 h2 hP hx, rfl⟩)
  | .star a, f, t, P, v, h1, h2, hP, h => by
    obtain ⟨l, rfl⟩ := h.star_form
    rw [ways]
    have := often_complete (fun f t P v => ways_complete s a f t P v) (s.length + 1 - f) f [] l t h1 h2 (Nat.le_refl _) hP h
    simpa using this
  | .group a, f, t, P, v, h1, h2, hP, h => by
    rw [ways]
    cases h with
    | group hx => exact List.mem_map.2 ⟨(_, t), ways_complete s a f t P _ h1 h2 hP hx, rfl⟩
  | .anew a, f, t, P, v, h1, h2, hP, h => by
    rw [ways]
    cases h with
    | anew hx => exact ways_complete s a f t P _ h1 h2 hP hx

/-- All ways of saying the whole text. -/
def allW (r : Re) (s : List UInt8) : List Val := (ways s r 0 (fun t => t == s.length)).map Prod.fst
theorem allW_mem (r : Re) (s : List UInt8) (v : Val) : v ∈ allW r s ↔ Full r v s := by
  have hseg : seg s 0 s.length = s := by unfold seg; simp
  unfold allW
  rw [List.mem_map]
  constructor
  · rintro ⟨x, hx, rfl⟩
    obtain ⟨-, h2, h3, h4⟩ := ways_sound s r 0 _ x (Nat.zero_le _) hx
    simp at h3
    rw [h3, hseg] at h4
    exact h4
  · intro h
    refine ⟨(v, s.length), ways_complete s r 0 s.length _ v (Nat.zero_le _) (Nat.le_refl _) (by simp) (by rw [hseg]; exact h), rfl⟩
theorem allW_sorted (r : Re) (s : List UInt8) : (allW r s).Pairwise fun x y => LexS (bitsV x) (bitsV y) := by
  unfold allW
  rw [List.pairwise_map]
  exact ways_sorted s r 0 _
end Go.Proofs.Ytjodmimnbpgfcaa
