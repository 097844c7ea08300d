/- reach, walked. A library text: no claim is stated here. each, walked: nothing, one byte. A library text: no claim is stated here. -/
import Derived.Test.YtjodmimnbpgfcaaM24

/- Reach -/
namespace Go.Proofs.Ytjodmimnbpgfcaa
open Go.RowKit Go.IntWalk

theorem reachL_drop (E : Nat → Nat → Bool) (ok : Nat → Bool) (n : Nat) : ∀ (m j : Nat), j ≤ m → (reachL E ok n m).drop (m - j) = reachL E ok n j
  | 0, j, h => by obtain rfl : j = 0 := by omega
                  rfl
  | m + 1, j, h => by
    by_cases hj : j = m + 1
    · subst hj; simp
    · rw [show m + 1 - j = (m - j) + 1 by omega, reachL, List.drop_succ_cons]
      exact reachL_drop E ok n m j (by omega)

theorem reachL_get (E : Nat → Nat → Bool) (ok : Nat → Bool) (n j i : Nat) (hj : j ≤ n) : (reachL E ok n j).getD i false = reachF E ok n (n - j + i) := by
  unfold reachF
  rw [← reachL_drop E ok n n j hj, List.getD_eq_getElem?_getD, List.getD_eq_getElem?_getD, List.getElem?_drop]

theorem reachF_eq (E : Nat → Nat → Bool) (ok : Nat → Bool) (n k : Nat) (hk : k ≤ n) : reachF E ok n k = (ok k || (List.range (n - k)).any fun i => reachF E ok n (k + 1 + i) && E k (k + 1 + i)) := by
  have h := reachL_get E ok n (n - k) 0 (by omega)
  rw [show n - (n - k) + 0 = k by omega] at h
  rw [← h]
  by_cases e : n = k
  · subst e; simp [reachL]
  · obtain ⟨j, hj⟩ : ∃ j, n - k = j + 1 := ⟨n - k - 1, by omega⟩
    rw [hj, reachL]
    simp only [List.getD_cons_zero]
    rw [show n - (j + 1) = k by omega]
    congr 2
    funext i
    rw [reachL_get E ok n j i (by omega), show n - j + i = k + 1 + i by omega]

/-- Where to is behind k: what the inner loop has found so far. -/
def reachU (E : Nat → Nat → Bool) (ok : Nat → Bool) (n k t : Nat) : Bool := ok k || (List.range (t - (k + 1))).any fun i => reachF E ok n (k + 1 + i) && E k (k + 1 + i)

theorem reachU_start (E : Nat → Nat → Bool) (ok : Nat → Bool) (n k : Nat) : reachU E ok n k (k + 1) = ok k := by simp [reachU]
theorem reachU_end (E : Nat → Nat → Bool) (ok : Nat → Bool) (n k : Nat) (hk : k ≤ n) : reachU E ok n k (n + 1) = reachF E ok n k := by
  rw [reachF_eq E ok n k hk, reachU, show n + 1 - (k + 1) = n - k by omega]
theorem reachU_succ (E : Nat → Nat → Bool) (ok : Nat → Bool) (n k t : Nat) (h : k < t) : reachU E ok n k (t + 1) = (reachU E ok n k t || (reachF E ok n t && E k t)) := by
  unfold reachU
  rw [show t + 1 - (k + 1) = (t - (k + 1)) + 1 by omega, List.range_succ, List.any_append, ← Bool.or_assoc]
  simp only [List.any_cons, List.any_nil, Bool.or_false]
  rw [show k + 1 + (t - (k + 1)) = t by omega]
theorem reachU_hit (E : Nat → Nat → Bool) (ok : Nat → Bool) (n k t : Nat) (hk : k ≤ n) (hkt : k < t) (ht : t ≤ n + 1) (h : reachU E ok n k t = true) : reachF E ok n k = true := by
  rw [← reachU_end E ok n k hk]
  unfold reachU at h ⊢
  rcases (Bool.or_eq_true _ _).mp h with h | h
  · rw [h, Bool.true_or]
  · rw [List.any_eq_true] at h
    obtain ⟨i, hi, h⟩ := h
    rw [Bool.or_eq_true, List.any_eq_true]
    simp only [List.mem_range] at hi ⊢
    exact .inr ⟨i, by omega, h⟩

def boolUpd (P : Nat → Bool) (k : Nat) (b : Bool) : Nat → Bool := fun i => if i = k then b else P i

theorem boolsV_get (n : Nat) (P : Nat → Bool) {i : Nat} (hi : i < n) : (boolsV n P).toArray[i]? = some (.bool (P i)) := by
  simp [boolsV, List.getElem?_range hi]
theorem boolsV_set (n : Nat) (P : Nat → Bool) (k : Nat) (b : Bool) : (boolsV n P).toArray.setIfInBounds k (.bool b) = (boolsV n (boolUpd P k b)).toArray := by
  apply Array.ext
  · simp [boolsV]
  · intro i h1 h2
    simp only [boolsV, List.setIfInBounds_toArray, List.getElem_toArray, List.getElem_set, List.getElem_map, List.getElem_range, boolUpd]
    by_cases e : k = i
    · subst e; simp
    · simp only [e, if_false]
      rw [if_neg fun h => e h.symm]

/-- What is known while reach runs: the private row's block B. -/
structure RI {σ : Type} (I : Inv σ) (s : σ) (g : G) (M : Nat → Prop) (w : World) (B n : Nat) (g4 : G) (M4 : Nat → Prop) (P : Nat → Bool) (wr : World) : Prop where
  st : IStep g M w g4 M4 wr
  i : I g4 M4 s wr
  row : wr.heap[B]? = some (.cells (boolsV (n + 1) P).toArray 4)
  notM : ¬ M4 B
  notG : g4.blk B = none
  new : w.heap.size ≤ B

section
variable {σ : Type} {I : Inv σ} {s : σ} {g : G} {M : Nat → Prop} {w : World} {B n : Nat} {g4 : G} {M4 : Nat → Prop} {P : Nat → Bool} {wr : World} {T : Tab} {g0 : G} {mb : Nat}

theorem RI.lt (h : RI I s g M w B n g4 M4 P wr) : B < wr.heap.size := by
  have := h.row
  exact (Array.getElem?_eq_some_iff.1 this).1

theorem RI.call {b : Bool} {e : Ending} {w' : World} (h : RI I s g M w B n g4 M4 P wr) (hp : IPost I g4 M4 wr b s e w') : ∃ g5 M5, e = .returned (.bool b) ∧ RI I s g M w B n g5 M5 P w' ∧ g4.Le g5 := by
  obtain ⟨he, g5, M5, h1, h2⟩ := hp
  exact ⟨g5, M5, he, ⟨h.st.trans h1, h2, (h1.step.old B h.lt h.notM).trans h.row, fun hb => by rcases h1.sub B hb with h3 | h3; exact h.notM h3; have := h.lt; omega, h1.step.new B h.notG h.lt, h.new⟩, h1.le⟩

theorem RI.store (hS : Sys T g0 mb I) (h : RI I s g M w B n g4 M4 P wr) (k : Nat) (b : Bool) : RI I s g M w B n g4 M4 (boolUpd P k b) (wr.setCell ⟨B, k, none⟩ (.bool b)) := by
  have hf := hS.fut h.i
  refine ⟨⟨h.st.step.setCell h.notG (.inr h.new) _, h.st.sub⟩, ?_, ?_, h.notM, h.notG, h.new⟩
  · exact hS.step (N := fun x => x = B) h.i ((Step.refl (fun x => x = B) hf).setCell (a := ⟨B, k, none⟩) h.notG (.inl rfl) _) (fun x hx e => h.notM (e ▸ hx))
  · have := heap_setCell_same h.row (i := k) (.bool b)
    rw [boolsV_set] at this
    exact this

theorem RI.done (hS : Sys T g0 mb I) (h : RI I s g M w B n g4 M4 P wr) (hn : n ≤ 65536) : ∃ g5, IStep g M w g5 M4 wr ∧ I g5 M4 s wr ∧ SliceV g5 (some ⟨B, 0, none⟩) (n + 1) (n + 1) (boolsV (n + 1) P) := by
  refine ⟨g4.add B _, ⟨h.st.step.keep h.row h.new h.notG, h.st.sub⟩, hS.keep h.i h.row h.notG h.notM, ?_⟩
  have hl : (boolsV (n + 1) P).length = n + 1 := by simp [boolsV]
  have := SliceV.row (g := g4.add B (.cells (boolsV (n + 1) P).toArray 4)) B 0 (n + 1) (boolsV (n + 1) P) (by omega) (by omega) (fun W hW i v hv => by
    rw [Nat.zero_add]
    exact fut_cell (G.add_same _ _ _) i v (by simpa using hv) W hW)
  rwa [hl] at this
end

theorem boolsV_congr {n : Nat} {P Q : Nat → Bool} (h : ∀ i, i < n → P i = Q i) : boolsV n P = boolsV n Q := by
  unfold boolsV
  refine List.map_congr_left fun i hi => ?_
  rw [h i (by simpa using hi)]

theorem Try.info4 : (Try.prog.info? 4).map (fun i => (i.zero, i.size, i.bytes)) = some (some (.bool false), 1, 1) := by kernel_rfl

theorem make_bools (n : Nat) (h : n ≤ 65536) (W : World) : (Instr.makeSlice 97 (.int .i64 ((n : Int) + 1)) (.int .i64 ((n : Int) + 1))).run Try.prog W = .ok (.slice (some ⟨W.heap.size, 0, none⟩) (n + 1) (n + 1)) (W.alloc (.cells (boolsV (n + 1) fun _ => false).toArray 4)) := by
  obtain ⟨i1, hi1, hy0, hy1, hy2⟩ := info_parts Try.info4
  have := run_make (P := Try.prog) W 97 4 i1 (.bool false) Try.underlying97 hi1 hy0 .i64 .i64 ((n : Int) + 1) ((n : Int) + 1) (by omega) (by omega) (by rw [hy2]; omega) (by omega)
  rw [hy1, show ((n : Int) + 1).toNat = n + 1 by omega, Nat.mul_one] at this
  rw [this]
  have e : madeCells (Value.cells (.bool false)) (n + 1) = (boolsV (n + 1) fun _ => false).toArray := by
    apply Array.ext
    · simp [madeCells, boolsV]
    · intro i h1 h2
      simp [madeCells, boolsV, Value.cells, Nat.mod_one]
  rw [e]

def RPost {σ : Type} (I : Inv σ) (g : G) (M : Nat → Prop) (w : World) (s : σ) (n : Nat) (P : Nat → Bool) (e : Ending) (w' : World) : Prop :=
  ∃ g' M' a, e = .returned (.slice a (n + 1) (n + 1)) ∧ IStep g M w g' M' w' ∧ I g' M' s w' ∧ SliceV g' a (n + 1) (n + 1) (boolsV (n + 1) P)

set_option maxHeartbeats 2000000 in
theorem reach_any {σ : Type} {I : Inv σ} {T : Tab} {g0 g : G} {mb p : Nat} {x : Core} (hS : Sys T g0 mb I) (hle0 : g0.Le g) (hx : (flatC T.c)[p]? = some x) (hshort : T.s.length ≤ 65536) {okv : Value} {ok : Nat → Bool} (ho : ImplOk I T.s.length g okv ok) {M : Nat → Prop} {s : σ} {w : World} (hI : I g M s w) :
    Calls Try.prog 81 #[.pointer (some ⟨mb, 0, none⟩), .int .i64 (p : Nat), okv] w (RPost I g M w s T.s.length (reachF (endsF T.s x.re) ok T.s.length)) := by
  obtain ⟨F, caps, rfl, hF, hcall⟩ := ho
  have hw := hS.fut hI
  have m1 := fut_cell (hle0.blk _ _ hS.maker) 0 _ rfl
  have m2 := fut_cell (hle0.blk _ _ hS.maker) 1 _ rfl
  have hsum : IntKind.i64.wrap ((T.s.length : Int) + 1) = (T.s.length : Int) + 1 := IntWalk.i64_in _ (by omega)
  have hmk := make_bools T.s.length hshort
  have hstart : RI I s g M w w.heap.size T.s.length g M (fun _ => false) (w.alloc (.cells (boolsV (T.s.length + 1) fun _ => false).toArray 4)) :=
    ⟨((Grow.refl hw).alloc _).istep M, hS.grow hI ((Grow.refl hw).alloc _), heap_alloc_new w _, fun h => by have := (hS.foot hI _ h).2; omega, hw.none_of_size (Nat.le_refl _), Nat.le_refl _⟩
  have HST := hid hstart
  have HX := hid hx
  have HCALL := hid hcall
  have HLE0 := hid hle0
  have hf0 := hS.fut hstart.i
  clear hI hcall hx hle0 hstart
  unfold Callable at hF
  go_enter Try.func81, Try.ntmps81
  go_wp2_with fail
  go_loopg [8] (T.s.length + 1) (fun rem iv wr => ∃ g4 M4 P, rem ≤ T.s.length + 1 ∧ ((∃ k : Nat, rem = k + 1 ∧ iv = .int .i64 (k : Nat)) ∨ (rem = 0 ∧ iv = .int .i64 (-1))) ∧ Hid (RI I s g M w w.heap.size T.s.length g4 M4 P wr) ∧ Hid (∀ i, rem ≤ i → i ≤ T.s.length → P i = reachF (endsF T.s x.re) ok T.s.length i))
  case atStart => exact ⟨g, M, _, Nat.le_refl _, .inl ⟨T.s.length, rfl, rfl⟩, HST.out, fun i h1 h2 => by omega⟩
  case round =>
    obtain ⟨g4, M4, P, hrem, hiv, HRI, HP⟩ := hrel
    have hf4 := (hS.fut HRI.out.i).le HRI.out.st.le
    clear hw hf0
    rcases hiv with ⟨k, rfl, rfl⟩ | ⟨rfl, rfl⟩
    · have hk : k ≤ T.s.length := by omega
      have hc1 := HCALL.out g4 M4 s wr k HRI.out.st.le HRI.out.i hk
      go_wp2_with fail
      refine hc1.mono ?_
      rintro e w3 hp
      clear hc1
      obtain ⟨g5, M5, rfl, hri5, hle5⟩ := HRI.out.call hp
      have HRI5 := hid (hri5.store hS k (ok k))
      have hc5 := heap_cell hri5.row k _ (boolsV_get _ P (by omega))
      have hz5 := heap_free hri5.row k
      have HP5 : Hid ((boolUpd P k (ok k)) k = reachU (endsF T.s x.re) ok T.s.length k (k + 1) ∧ ∀ i, k < i → i ≤ T.s.length → (boolUpd P k (ok k)) i = reachF (endsF T.s x.re) ok T.s.length i) := ⟨by rw [reachU_start]; simp [boolUpd], fun i h1 h2 => by simp only [boolUpd]; rw [if_neg (by omega)]; exact HP.out i h1 h2⟩
      have hf5 := (hS.fut HRI5.out.i).le HRI5.out.st.le
      clear hp hri5 hle5 hf4
      go_wp2_with fail
      generalize w3.setCell ⟨w.heap.size, k, none⟩ (.bool (ok k)) = W3 at HRI5 hf5 ⊢
      clear hc5 hz5
      generalize boolUpd P k (ok k) = P5 at HRI5 HP5
      go_loopg [9] (T.s.length - k) (fun rem iv wr => ∃ t g6 M6 P6, k + 1 ≤ t ∧ t + rem = T.s.length + 1 ∧ iv = .int .i64 (t : Nat) ∧ Hid (RI I s g M w w.heap.size T.s.length g6 M6 P6 wr) ∧ Hid (P6 k = reachU (endsF T.s x.re) ok T.s.length k t ∧ ∀ i, k < i → i ≤ T.s.length → P6 i = reachF (endsF T.s x.re) ok T.s.length i))
      case atStart => exact ⟨k + 1, g5, M5, P5, Nat.le_refl _, by omega, by go_num, HRI5.out, HP5.out⟩
      case round =>
        obtain ⟨t, g6, M6, P6, hkt, htr, rfl, HRI6, HP6⟩ := hrel
        have hf6 := (hS.fut HRI6.out.i).le HRI6.out.st.le
        clear hf5
        have hck := heap_cell HRI6.out.row k _ (boolsV_get _ P6 (by omega))
        have hzk := heap_free HRI6.out.row k
        by_cases hlt : t ≤ T.s.length
        · have hct := heap_cell HRI6.out.row t _ (boolsV_get _ P6 (by omega))
          have hPt := HP6.out.2 t (by omega) hlt
          cases hcur : P6 k with
          | true =>
            rw [hcur] at hck
            have HC := hid hcur
            clear hcur hPt
            go_wp2_with fail
            go_roundg k
            case measure => omega
            case rel =>
              refine ⟨g6, M6, P6, by omega, ?_, HRI6.out, ?_⟩
              · rcases k with _ | k
                · exact .inr ⟨rfl, rfl⟩
                · exact .inl ⟨k, rfl, by go_num⟩
              · intro i h1 h2
                rcases Nat.lt_or_ge k i with h3 | h3
                · exact HP6.out.2 i h3 h2
                · obtain rfl : i = k := by omega
                  exact (HC.out.trans (reachU_hit (endsF T.s x.re) ok T.s.length i t hk hkt (by omega) (HP6.out.1.symm.trans HC.out)).symm)
          | false =>
            rw [hcur] at hck
            have HC := hid hcur
            have hsu := reachU_succ (endsF T.s x.re) ok T.s.length k t hkt
            rw [← HP6.out.1, hcur, Bool.false_or, ← hPt] at hsu
            clear hcur
            cases hpt : P6 t with
            | false =>
              rw [hpt] at hct hsu
              rw [Bool.false_and] at hsu
              have HSU := hid hsu
              have HPT := hid hPt
              clear hpt hPt hsu
              have HRI7 := hid (HRI6.out.store hS k false)
              go_wp2_with fail
              go_roundg (T.s.length - t)
              case measure => omega
              case rel =>
                refine ⟨t + 1, g6, M6, _, by omega, by omega, by go_num, HRI7.out, ?_, ?_⟩
                · simp only [boolUpd, if_true]
                  exact HSU.out.symm
                · intro i h1 h2
                  simp only [boolUpd]
                  rw [if_neg (by omega)]
                  exact HP6.out.2 i h1 h2
            | true =>
              rw [hpt] at hct hsu
              rw [Bool.true_and] at hsu
              have HSU := hid hsu
              have HPT := hid hPt
              clear hpt hPt hsu
              go_wp2_with (first | (go_at_call 33; refine (hS.says (HLE0.out.trans HRI6.out.st.le) HRI6.out.i HX.out hk hlt).mono ?_; rintro e w7 hp; obtain ⟨g7, M7, rfl, hri7, hle7⟩ := HRI6.out.call hp; have HRI7 := hid (hri7.store hS k (endsF T.s x.re k t)); have hc7 := heap_cell hri7.row k _ (boolsV_get _ P6 (by omega)); have hz7 := heap_free hri7.row k; clear hp hri7 hle7))
              go_roundg (T.s.length - t)
              case measure => omega
              case rel =>
                refine ⟨t + 1, g7, M7, _, by omega, by omega, by go_num, HRI7.out, ?_, ?_⟩
                · simp only [boolUpd, if_true]
                  exact HSU.out.symm
                · intro i h1 h2
                  simp only [boolUpd]
                  rw [if_neg (by omega)]
                  exact HP6.out.2 i h1 h2
        · obtain rfl : t = T.s.length + 1 := by omega
          have hue := reachU_end (endsF T.s x.re) ok T.s.length k hk
          have HUE := hid hue
          clear hue
          go_wp2_with fail
          go_roundg k
          case measure => omega
          case rel =>
            refine ⟨g6, M6, P6, by omega, ?_, HRI6.out, ?_⟩
            · rcases k with _ | k
              · exact .inr ⟨rfl, rfl⟩
              · exact .inl ⟨k, rfl, by go_num⟩
            · intro i h1 h2
              rcases Nat.lt_or_ge k i with h3 | h3
              · exact HP6.out.2 i h3 h2
              · obtain rfl : i = k := by omega
                exact HP6.out.1.trans HUE.out
    · go_wp2_with fail
      go_ret
      obtain ⟨g5, h1, h2, h3⟩ := HRI.out.done hS hshort
      refine ⟨g5, M4, _, rfl, h1, h2, ?_⟩
      rwa [boolsV_congr (Q := reachF (endsF T.s x.re) ok T.s.length) (fun i hi => HP.out i (Nat.zero_le _) (by omega))] at h3

end Go.Proofs.Ytjodmimnbpgfcaa

/- Each0 -/
namespace Go.Proofs.Ytjodmimnbpgfcaa
open Go.RowKit Go.IntWalk

theorem box4 {g : G} {w : World} (hw : Fut g w) (o1 o2 o3 o4 : Obj) : ∃ g1, Grow g w g1 ((((w.alloc o1).alloc o2).alloc o3).alloc o4) ∧ g1.blk w.heap.size = some o1 ∧ g1.blk (w.heap.size + 1) = some o2 ∧ g1.blk (w.heap.size + 1 + 1) = some o3 ∧
    g1.blk (w.heap.size + 1 + 1 + 1) = some o4 := by
  obtain ⟨g1, h1, e1, e2⟩ := box2 hw o1 o2
  obtain ⟨g2, h2, f1, f2⟩ := box2 h1.fut o3 o4
  simp only [World.size_alloc] at f1 f2
  exact ⟨g2, h1.trans h2, h2.le.blk _ _ e1, h2.le.blk _ _ e2, f1, f2⟩

set_option maxRecDepth 100000 in
set_option maxHeartbeats 4000000 in
theorem each_0 {σ : Type} {I : Inv σ} {live : σ → Prop} {T : Tab} {g0 : G} {mb i : Nat} {x : Core} (hS : Sys T g0 mb I) (hx : (flatC T.c)[i]? = some x) (hk : x.kind = 0) (hre : x.re = .none) : EachSpec I live T mb g0 i x.re := by
  intro g M s w f okv tkv ok tk D hle0 hI hlive hf ho h hD
  have hw := hS.fut hI
  have ho0 := ho
  have h0 := h
  obtain ⟨Fo, co, rfl, hFo, hoc⟩ := ho
  obtain ⟨Ft, ct, rfl, hFt, htc⟩ := h
  obtain ⟨r, ka, kn, kcap, hpm⟩ := hS.tab.parts i x hx
  obtain ⟨g1, hg1, e1, e2, e3, e4⟩ := box4 hw (.cells #[.pointer (some ⟨mb, 0, none⟩)] 111) (.cells #[.func (.func Fo) #[] co] 140) (.cells #[.func (.func Ft) #[] ct] 141) (.cells #[.int .i64 0, .int .u64 r.s.a, .int .u64 r.s.b, .int .u64 r.s.c, .int .u64 r.s.d, .int .i64 r.n, .slice r.a r.len r.cap, .slice ka kn kcap] 133)
  have k1 := fut_cell e1 0 _ rfl
  have k2 := fut_cell e2 0 _ rfl
  have k3 := fut_cell e3 0 _ rfl
  have k5 := fut_cell e4 7 _ rfl
  have m1 := fut_cell (hle0.blk _ _ hS.maker) 0 _ rfl
  have m2 := fut_cell (hle0.blk _ _ hS.maker) 1 _ rfl
  have t0 := fut_cell (hle0.blk _ _ hS.tab.tab) 0 _ rfl
  have hfew := hS.tab.few
  have hshort := hS.tab.short
  have hin := flat_lt hx
  have hii : (i : Int) < (nodes T.c : Int) := by omega
  have hpc := hpm.c.le hle0
  obtain ⟨q0, q1, q2, q3, q4, q5, q6⟩ := hpc
  have q7 := fun w (hw : Fut g w) => hpm.c7 w (hw.le hle0)
  rw [hpm.k, hk] at q0
  have fa := fun o => hw.alloc o
  have fa2 := fun o o2 => (hw.alloc o).alloc o2
  have fa3 := fun o o2 o3 => ((hw.alloc o).alloc o2).alloc o3
  have fa4 := fun o o2 o3 o4 => (((hw.alloc o).alloc o2).alloc o3).alloc o4
  have HPM := hid hpm
  have HG1 := hid hg1
  have HI := hid hI
  have HI1 := hid (hS.grow hI hg1)
  have HOC := hid hoc
  have HTC := hid htc
  have HX := hid hx
  have HRE := hid hre
  have HD := hid hD
  have HO0 := hid (ho0.le hg1.le)
  have HT0 := hid (h0.le hg1.le)
  have HLE0 := hid (hle0.trans hg1.le)
  have HE := hid (And.intro e1 (And.intro e2 (And.intro e3 e4)))
  have hf1 := hg1.fut
  have hlg : ∀ w', Fut g1 w' → Fut g w' := fun w' h => h.le hg1.le
  clear hpm hI hoc htc hx hg1 e1 e2 e3 e4 hre hD hk ho0 h0 hle0
  unfold Callable at hFo hFt
  go_enter Try.func57, Try.ntmps57
  go_wp2_with fail
  go_ret
  have hr := HRE.out
  rw [hr]
  exact ⟨rfl, g1, M, HG1.out.istep M, HI1.out, fun _ => hlive⟩

set_option maxRecDepth 100000 in
set_option maxHeartbeats 4000000 in
theorem each_1 {σ : Type} {I : Inv σ} {live : σ → Prop} {T : Tab} {g0 : G} {mb i : Nat} {x : Core} (hS : Sys T g0 mb I) (hx : (flatC T.c)[i]? = some x) (hk : x.kind = 1) (hre : x.re = .empty) : EachSpec I live T mb g0 i x.re := by
  intro g M s w f okv tkv ok tk D hle0 hI hlive hf ho h hD
  have hw := hS.fut hI
  have ho0 := ho
  have h0 := h
  obtain ⟨Fo, co, rfl, hFo, hoc⟩ := ho
  obtain ⟨Ft, ct, rfl, hFt, htc⟩ := h
  obtain ⟨r, ka, kn, kcap, hpm⟩ := hS.tab.parts i x hx
  obtain ⟨g1, hg1, e1, e2, e3, e4⟩ := box4 hw (.cells #[.pointer (some ⟨mb, 0, none⟩)] 111) (.cells #[.func (.func Fo) #[] co] 140) (.cells #[.func (.func Ft) #[] ct] 141) (.cells #[.int .i64 1, .int .u64 r.s.a, .int .u64 r.s.b, .int .u64 r.s.c, .int .u64 r.s.d, .int .i64 r.n, .slice r.a r.len r.cap, .slice ka kn kcap] 133)
  have k1 := fut_cell e1 0 _ rfl
  have k2 := fut_cell e2 0 _ rfl
  have k3 := fut_cell e3 0 _ rfl
  have k5 := fut_cell e4 7 _ rfl
  have m1 := fut_cell (hle0.blk _ _ hS.maker) 0 _ rfl
  have m2 := fut_cell (hle0.blk _ _ hS.maker) 1 _ rfl
  have t0 := fut_cell (hle0.blk _ _ hS.tab.tab) 0 _ rfl
  have hfew := hS.tab.few
  have hshort := hS.tab.short
  have hin := flat_lt hx
  have hii : (i : Int) < (nodes T.c : Int) := by omega
  have hpc := hpm.c.le hle0
  obtain ⟨q0, q1, q2, q3, q4, q5, q6⟩ := hpc
  have q7 := fun w (hw : Fut g w) => hpm.c7 w (hw.le hle0)
  rw [hpm.k, hk] at q0
  have fa := fun o => hw.alloc o
  have fa2 := fun o o2 => (hw.alloc o).alloc o2
  have fa3 := fun o o2 o3 => ((hw.alloc o).alloc o2).alloc o3
  have fa4 := fun o o2 o3 o4 => (((hw.alloc o).alloc o2).alloc o3).alloc o4
  have HPM := hid hpm
  have HG1 := hid hg1
  have HI := hid hI
  have HI1 := hid (hS.grow hI hg1)
  have HOC := hid hoc
  have HTC := hid htc
  have HX := hid hx
  have HRE := hid hre
  have HD := hid hD
  have HO0 := hid (ho0.le hg1.le)
  have HT0 := hid (h0.le hg1.le)
  have HLE0 := hid (hle0.trans hg1.le)
  have HE := hid (And.intro e1 (And.intro e2 (And.intro e3 e4)))
  have hf1 := hg1.fut
  have hlg : ∀ w', Fut g1 w' → Fut g w' := fun w' h => h.le hg1.le
  clear hpm hI hoc htc hx hg1 e1 e2 e3 e4 hre hD hk ho0 h0 hle0
  unfold Callable at hFo hFt
  cases hok : ok f with
  | false =>
    have hoc2 := HOC.out g1 M s _ f HG1.out.le HI1.out hf
    rw [hok] at hoc2
    go_enter Try.func57, Try.ntmps57
    go_wp2_with fail
    refine hoc2.mono ?_
    rintro e w3 hp
    have HP := hid hp
    obtain ⟨rfl, -⟩ := hp
    go_wp2_with fail
    go_ret
    have hr := HRE.out
    rw [hr, ways, hok]
    obtain ⟨-, g3, M3, h3, h4⟩ := HP.out
    exact ⟨rfl, g3, M3, (HG1.out.istep M).trans h3, h4, fun _ => hlive⟩
  | true =>
    have hoc2 := HOC.out g1 M s _ f HG1.out.le HI1.out hf
    rw [hok] at hoc2
    go_enter Try.func57, Try.ntmps57
    go_wp2_with fail
    refine hoc2.mono ?_
    rintro e w3 hp
    obtain ⟨rfl, g3, M3, h3, h4⟩ := hp
    have hf3 := h3.step.fut.le h3.le
    have htc2 := HTC.out g3 M3 s w3 ⟨1, 0, none, 0, 0⟩ (.mk 1 0 []) f (HG1.out.le.trans h3.le) h4 hlive (.nil 1 0) (HD.out f hf hok)
    have H3 := hid h3
    clear h3 h4 hoc2
    go_wp2_with fail
    refine htc2.mono ?_
    rintro e w4 hp
    have HP := hid hp
    obtain ⟨rfl, -⟩ := hp
    go_wp2_with fail
    go_ret
    have hr := HRE.out
    rw [hr, ways, hok, if_pos rfl, runT_single]
    exact HP.out.pre ((HG1.out.istep M).trans H3.out)

end Go.Proofs.Ytjodmimnbpgfcaa
