/- Which values the ways are. Plain Lean, no program. A library text: no claim is stated here. The function values that each makes. A library text: no claim is stated here. The function values that each makes: where a part may end. A library text: no claim is stated here. The function values that often makes. A library text: no claim is stated here. -/
import Derived.Test.YtjodmimnbpgfcaaS18
import Derived.Test.YtjodmimnbpgfcaaS10
import Derived.Deep.RegionHeld3

/- MemW -/
namespace Go.Proofs.Ytjodmimnbpgfcaa

theorem often_sound {s : List UInt8} {a : Re} {may ok : Nat → Bool}
    (hW : ∀ (f : Nat) (P : Nat → Bool) (x : Val × Nat), f ≤ s.length → x ∈ ways s a f P → f ≤ x.2 ∧ x.2 ≤ s.length ∧ P x.2 = true ∧ Full a x.1 (seg s f x.2)) :
    ∀ (d f : Nat) (had : List Val) (x : Val × Nat), f ≤ s.length → x ∈ oftenW (ways s a) may ok d f had → f ≤ x.2 ∧ x.2 ≤ s.length ∧ ok x.2 = true ∧ ∃ l, x.1 = .mk 6 0 (had ++ l) ∧ Full (.star a) (.mk 6 0 l) (seg s f x.2)
  | 0, _, _, x, _, h => by simp [oftenW] at h
  | d + 1, f, had, x, hf, h => by
    rw [oftenW, List.mem_append, List.mem_flatMap] at h
    rcases h with ⟨y, hy, h⟩ | h
    · obtain ⟨h1, h2, h3, h4⟩ := hW f _ y hf hy
      simp only [Bool.and_eq_true, decide_eq_true_eq] at h3
      obtain ⟨k1, k2, k3, l, k4, k5⟩ := often_sound hW d y.2 (had ++ [y.1]) x h2 h
      refine ⟨by omega, k2, k3, y.1 :: l, by rw [k4]; simp, ?_⟩
      rw [← seg_app h1 k1]
      refine .scons h4 ?_ k5
      intro e
      have := seg_len (s := s) (f := f) (t := y.2) h2
      rw [e] at this
      simp at this
      omega
    · split at h
      · rename_i ho
        simp at h
        subst h
        refine ⟨Nat.le_refl _, hf, ho, [], by simp, ?_⟩
        rw [seg_self]
        exact .snil
      · simp at h

theorem seg_one {s : List UInt8} {f : Nat} {x : UInt8} (h : s[f]? = some x) : seg s f (f + 1) = [x] := by
  obtain ⟨hf, rfl⟩ := List.getElem?_eq_some_iff.1 h
  unfold seg
  rw [List.drop_eq_getElem_cons (by simp; omega)]
  simp

theorem ways_sound (s : List UInt8) : ∀ (r : Re) (f : Nat) (P : Nat → Bool) (x : Val × Nat), f ≤ s.length → x ∈ ways s r f P → f ≤ x.2 ∧ x.2 ≤ s.length ∧ P x.2 = true ∧ Full r x.1 (seg s f x.2)
  | .none, f, P, x, hf, h => by simp [ways] at h
  | .empty, f, P, x, hf, h => by
    rw [ways] at h
    split at h
    · rename_i ho
      simp at h
      subst h
      exact ⟨Nat.le_refl _, hf, ho, by rw [seg_self]; exact .empty⟩
    · simp at h
  | .byte S, f, P, x, hf, h => by
    rw [ways] at h
    split at h
    · rename_i b hb
      split at h
      · rename_i ho
        simp only [Bool.and_eq_true] at ho
        simp at h
        subst h
        have := (List.getElem?_eq_some_iff.1 hb).1
        exact ⟨by show f ≤ f + 1; omega, by show f + 1 ≤ _; omega, ho.2, by show Full _ _ (seg s f (f + 1)); rw [seg_one hb]; exact .byte ho.1⟩
      · simp at h
    · simp at h
  | .both a b, f, P, x, hf, h => by
    rw [ways, List.mem_flatMap] at h
    obtain ⟨y, hy, h⟩ := h
    obtain ⟨z, hz, rfl⟩ := List.mem_map.1 h
    obtain ⟨h1, h2, h3, h4⟩ := ways_sound s a f _ y hf hy
    obtain ⟨k1, k2, k3, k4⟩ := ways_sound s b y.2 P z h2 hz
    refine ⟨by show f ≤ z.2; omega, k2, k3, ?_⟩
    show Full _ _ (seg s f z.2)
    rw [← seg_app h1 k1]
    exact .both h4 k4
  | .or a b, f, P, x, hf, h => by
    rw [ways, List.mem_append] at h
    rcases h with h | h
    · obtain ⟨y, hy, rfl⟩ := List.mem_map.1 h
      obtain ⟨h1, h2, h3, h4⟩ := ways_sound s a f P y hf hy
      exact ⟨h1, h2, h3, .orl h4⟩
    · obtain ⟨y, hy, rfl⟩ := List.mem_map.1 h
      obtain ⟨h1, h2, h3, h4⟩ := ways_sound s b f P y hf hy
      exact ⟨h1, h2, h3, .orr h4⟩
  | .star a, f, P, x, hf, h => by
    rw [ways] at h
    obtain ⟨h1, h2, h3, l, h4, h5⟩ := often_sound (fun f P x => ways_sound s a f P x) _ f [] x hf h
    refine ⟨h1, h2, h3, ?_⟩
    rw [h4]
    exact h5
  | .group a, f, P, x, hf, h => by
    rw [ways] at h
    obtain ⟨y, hy, rfl⟩ := List.mem_map.1 h
    obtain ⟨h1, h2, h3, h4⟩ := ways_sound s a f P y hf hy
    exact ⟨h1, h2, h3, .group h4⟩
  | .anew a, f, P, x, hf, h => by
    rw [ways] at h
    obtain ⟨h1, h2, h3, h4⟩ := ways_sound s a f P x hf h
    exact ⟨h1, h2, h3, .anew h4⟩
end Go.Proofs.Ytjodmimnbpgfcaa

/- EachA -/
namespace Go.Proofs.Ytjodmimnbpgfcaa
open Go.RowKit Go.IntWalk

set_option maxHeartbeats 400000 in
theorem each21_impl {σ : Type} {I : Inv σ} {live : σ → Prop} {T : Tab} {g0 g : G} {mb : Nat} {D : Nat → Prop} (hS : Sys T g0 mb I) {fv : Value} {tk : Val → Nat → σ → Bool × σ} (h : ImplTake I live D g fv tk) {q : VRow} {u : Val} {b1 b2 : Nat}
    (hq : ValV g q u) (hb1 : g.blk b1 = some (.cells #[fv] 141)) (hb2 : g.blk b2 = some (.cells #[.int .i64 q.k, .int .u8 q.b, .slice q.a q.len q.cap] 48)) :
    ImplTake I live D g (.func (.func 78) #[] #[.pointer (some ⟨b1, 0, none⟩), .pointer (some ⟨b2, 0, none⟩)]) (fun v t s => tk (.mk 3 0 [u, v]) t s) := by
  obtain ⟨F, caps, rfl, hF, hcall⟩ := h
  refine ⟨78, _, rfl, Try.call78, fun g' M s w r v t hle hI hlive hv ht => ?_⟩
  have hw := hS.fut hI
  obtain ⟨g1, hg1, eb, c0, c1, c2⟩ := box_val hw r
  have k1 := fut_cell (hle.blk _ _ hb1) 0 _ rfl
  have q0 := fut_cell (hle.blk _ _ hb2) 0 _ rfl
  have q1 := fut_cell (hle.blk _ _ hb2) 1 _ rfl
  have q2 := fut_cell (hle.blk _ _ hb2) 2 _ rfl
  have hg2 := hg1.box (.cells #[.int .i64 q.k, .int .u8 q.b, .slice q.a q.len q.cap, .int .i64 r.k, .int .u8 r.b, .slice r.a r.len r.cap] 48)
  have heb := G.add_same g1 (w.alloc (.cells #[.int .i64 r.k, .int .u8 r.b, .slice r.a r.len r.cap] 48)).heap.size (.cells #[.int .i64 q.k, .int .u8 q.b, .slice q.a q.len q.cap, .int .i64 r.k, .int .u8 r.b, .slice r.a r.len r.cap] 48)
  rw [World.size_alloc] at hg2 heb
  have hv2 := ((hq.le (hle.trans hg2.le)).two (hv.le hg2.le) heb 3 0)
  have hcall2 := hcall _ M s _ _ _ t (hle.trans hg2.le) (hS.grow hI hg2) hlive hv2 ht
  have HLE := hid (hg2.istep M)
  have fa := fun o => hw.alloc o
  have fb := fun o o' => (hw.alloc o).alloc o'
  clear hcall hg2 heb hv2 hg1 eb hb1 hb2 hq
  unfold Callable at hF
  unfold VRow.val at *
  simp only [List.append_toArray, List.cons_append, List.nil_append]
  go_enter Try.func78, Try.ntmps78
  go_wp2_with fail
  refine (hcall2.mono ?_)
  rintro e w3 hp
  have HP := hid hp
  obtain ⟨rfl, -⟩ := hp
  go_wp2_with fail
  go_ret
  exact HP.out.pre HLE.out
/-- What each is to do at a part. -/
def EachSpec {σ : Type} (I : Inv σ) (live : σ → Prop) (T : Tab) (mb : Nat) (g0 : G) (p : Nat) (x : Re) : Prop :=
  ∀ g M s w f okv tkv ok tk (D : Nat → Prop), g0.Le g → I g M s w → live s → f ≤ T.s.length → ImplOk I T.s.length g okv ok → ImplTake I live D g tkv tk → (∀ t, t ≤ T.s.length → ok t = true → D t) →
    Calls Try.prog 57 #[.pointer (some ⟨mb, 0, none⟩), .int .i64 (p : Nat), .int .i64 (f : Nat), okv, tkv] w (TPost I live g M w (runT tk (ways T.s x f ok) s))

set_option maxHeartbeats 400000 in
theorem each2_impl {σ : Type} {I : Inv σ} {live : σ → Prop} {T : Tab} {g0 g : G} {mb p : Nat} {x : Re} (hS : Sys T g0 mb I) (hle0 : g0.Le g) (hE : EachSpec I live T mb g0 p x) {okv fv : Value} {ok : Nat → Bool} {tk : Val → Nat → σ → Bool × σ} {D : Nat → Prop}
    (ho : ImplOk I T.s.length g okv ok) (h : ImplTake I live D g fv tk) (hD : ∀ t, t ≤ T.s.length → ok t = true → D t) {b1 b2 b3 b4 : Nat}
    (hb1 : g.blk b1 = some (.cells #[.pointer (some ⟨mb, 0, none⟩)] 111)) (hb2 : g.blk b2 = some (.cells #[.int .i64 (p : Nat)] 3)) (hb3 : g.blk b3 = some (.cells #[okv] 140)) (hb4 : g.blk b4 = some (.cells #[fv] 141)) :
    ImplTake I live (· ≤ T.s.length) g (.func (.func 77) #[] #[.pointer (some ⟨b1, 0, none⟩), .pointer (some ⟨b2, 0, none⟩), .pointer (some ⟨b3, 0, none⟩), .pointer (some ⟨b4, 0, none⟩)])
      (fun v k s => runT (fun w t s => tk (.mk 3 0 [v, w]) t s) (ways T.s x k ok) s) := by
  refine ⟨77, _, rfl, Try.call77, fun g' M s w r v t hle hI hlive hv ht => ?_⟩
  have hw := hS.fut hI
  obtain ⟨g1, hg1, eb, c0, c1, c2⟩ := box_val hw r
  have k1 := fut_cell (hle.blk _ _ hb1) 0 _ rfl
  have k2 := fut_cell (hle.blk _ _ hb2) 0 _ rfl
  have k3 := fut_cell (hle.blk _ _ hb3) 0 _ rfl
  have k4 := fut_cell (hle.blk _ _ hb4) 0 _ rfl
  have hcall2 := hE g1 M s _ t okv _ ok _ D ((hle0.trans hle).trans hg1.le) (hS.grow hI hg1) hlive ht (ho.le (hle.trans hg1.le))
    (each21_impl hS (h.le (hle.trans hg1.le)) (hv.le hg1.le) (hg1.le.blk _ _ (hle.blk _ _ hb4)) eb) hD
  have HLE := hid (hg1.istep M)
  have fa := fun o => hw.alloc o
  clear hg1 eb hb1 hb2 hb3 hb4 hE ho h
  unfold VRow.val at *
  simp only [List.append_toArray, List.cons_append, List.nil_append]
  go_enter Try.func77, Try.ntmps77
  go_wp2_with fail
  refine (hcall2.mono ?_)
  rintro e w3 hp
  have HP := hid hp
  obtain ⟨rfl, -⟩ := hp
  go_wp2_with fail
  go_ret
  exact HP.out.pre HLE.out
end Go.Proofs.Ytjodmimnbpgfcaa

/- EachB -/
namespace Go.Proofs.Ytjodmimnbpgfcaa
open Go.RowKit Go.IntWalk

/-- The worlds that a state's calls lead to. -/
structure Ig {σ : Type} (I : Inv σ) (s : σ) (g : G) (M : Nat → Prop) (w0 : World) where
  w : World
  g' : G
  M' : Nat → Prop
  h : IStep g M w0 g' M' w
  i : I g' M' s w

theorem quiet_i {P : Program} {σ : Type} {I : Inv σ} {s : σ} {g : G} {M : Nat → Prop} {w0 : World} {x : Ig I s g M w0} {f : FuncId} {args : Array Value} {b : Bool} (hP : P = Try.prog) (h : Calls Try.prog f args x.w (IPost I x.g' x.M' x.w b s)) :
    Calls P f args x.w fun e w'' => e = .returned (.bool b) ∧ ∃ y : Ig I s g M w0, w'' = y.w := by
  subst hP
  exact h.mono fun _ w' ⟨he, g2, M2, h2, h3⟩ => ⟨he, ⟨w', g2, M2, x.h.trans h2, h3⟩, rfl⟩

theorem wp_region_i {P : Program} {σ : Type} {I : Inv σ} {s : σ} {g : G} {M : Nat → Prop} {w0 : World} {id : Nat} {Q : Exit → Act → World → Prop} {a : Act} {w : World} {l : List Oper} (hm : P.follows .mixedOrders = true) (hB : Region.lexB .any l.toArray = true)
    (hC : ∃ x : Ig I s g M w0, w.drew = x.w)
    (h : wpQuiet P l.toArray (fun w' => ∃ x : Ig I s g M w0, w' = x.w) (fun a' => ∀ w', (∃ x : Ig I s g M w0, w' = x.w) → Q .normal a' w') l a) : (Code.region id l.toArray true).wp P Q a w :=
  wp_region_quiet (C := fun w' => ∃ x : Ig I s g M w0, w' = x.w) hm hB hC (by simpa using h)

theorem mayF_hit {E : Nat → Nat → Bool} {ok : Nat → Bool} {n k q : Nat} (hkq : k ≤ q) (hq : q ≤ n) (h : ok q = true) (h' : E k q = true) : mayF E ok n k = true := by
  unfold mayF
  rw [List.any_eq_true]
  exact ⟨q, by simp [List.mem_range']; exact ⟨q - k, by omega, by omega⟩, by simp [h, h']⟩
theorem mayF_none {E : Nat → Nat → Bool} {ok : Nat → Bool} {n k : Nat} (h : ∀ q, k ≤ q → q ≤ n → (ok q && E k q) = false) : mayF E ok n k = false := by
  unfold mayF
  rw [List.any_eq_false]
  intro q hq
  simp [List.mem_range'] at hq
  obtain ⟨i, hi, rfl⟩ := hq
  rw [h _ (by omega) (by omega)]
  simp

set_option maxHeartbeats 1000000 in
theorem each1_impl {σ : Type} {I : Inv σ} {T : Tab} {g0 g : G} {mb p : Nat} {x : Core} (hS : Sys T g0 mb I) (hle0 : g0.Le g) (hx : (flatC T.c)[p]? = some x) (hshort : T.s.length ≤ 65536) {okv : Value} {ok : Nat → Bool}
    (ho : ImplOk I T.s.length g okv ok) {b1 b2 b3 : Nat}
    (hb1 : g.blk b1 = some (.cells #[.pointer (some ⟨mb, 0, none⟩)] 111)) (hb2 : g.blk b2 = some (.cells #[okv] 140)) (hb3 : g.blk b3 = some (.cells #[.int .i64 (p : Nat)] 3)) :
    ImplOk I T.s.length g (.func (.func 76) #[] #[.pointer (some ⟨b1, 0, none⟩), .pointer (some ⟨b2, 0, none⟩), .pointer (some ⟨b3, 0, none⟩)]) (mayF (endsF T.s x.re) ok T.s.length) := by
  obtain ⟨F, caps, rfl, hF, hcall⟩ := ho
  refine ⟨76, _, rfl, Try.call76, fun g' M s w k hle hI hk => ?_⟩
  have hw := hS.fut hI
  have k1 := fut_cell (hle.blk _ _ hb1) 0 _ rfl
  have k2 := fut_cell (hle.blk _ _ hb2) 0 _ rfl
  have k3 := fut_cell (hle.blk _ _ hb3) 0 _ rfl
  have m1 := fut_cell ((hle0.trans hle).blk _ _ hS.maker) 0 _ rfl
  have m2 := fut_cell ((hle0.trans hle).blk _ _ hS.maker) 1 _ rfl
  have HI := hid hI
  have HX := hid hx
  have HCALL := hid hcall
  have HLE := hid hle
  have HLE0 := hid (hle0.trans hle)
  clear hI hb1 hb2 hb3 hcall hx hle hle0
  unfold Callable at hF
  simp only [List.append_toArray, List.cons_append, List.nil_append]
  go_enter Try.func76, Try.ntmps76
  go_wp2_with fail
  go_loopg [6] (T.s.length + 1 - k) (fun rem iv wr => ∃ q g4 M4, k ≤ q ∧ q + rem = T.s.length + 1 ∧ iv = .int .i64 (q : Nat) ∧ Hid (IStep g' M w g4 M4 wr) ∧ Hid (I g4 M4 s wr) ∧ Hid (∀ r, k ≤ r → r < q → (ok r && endsF T.s x.re k r) = false))
  case atStart => exact ⟨k, g', M, Nat.le_refl _, by omega, rfl, (Grow.refl hw).istep M, HI.out, fun r h1 h2 => by omega⟩
  case round =>
    obtain ⟨q, g4, M4, hkq, hqr, rfl, H4, HI4, HN⟩ := hrel
    have hf4 := hS.fut HI4.out
    have hf4' := hf4.le H4.out.le
    clear hw
    by_cases hlt : q ≤ T.s.length
    · have HC1 := hid fun (y : Ig I s g4 M4 wr) => HCALL.out y.g' y.M' s y.w q (HLE.out.trans (H4.out.le.trans y.h.le)) y.i hlt
      have HC2 := hid fun (y : Ig I s g4 M4 wr) => hS.says (HLE0.out.trans (H4.out.le.trans y.h.le)) y.i HX.out hk hlt
      have hx : ∀ y : Ig I s g4 M4 wr, Fut g' y.w := fun y => y.h.step.fut.le (H4.out.le.trans y.h.le)
      have hne : Nonempty (Ig I s g4 M4 wr) := ⟨⟨wr, g4, M4, (Grow.refl hf4).istep M4, HI4.out⟩⟩
      cases hok : ok q with
      | false =>
        have HOK := hid hok
        rw [hok] at HC1
        clear hok
        go_wp2_with fail
        refine wp_region_i (s := s) (g := g4) (M := M4) (w0 := wr) (I := I) (by kernel_rfl) (by kernel_rfl) ⟨⟨_, g4, M4, (Grow.refl hf4).drew.istep M4, hS.grow HI4.out (Grow.refl hf4).drew⟩, rfl⟩ ?_
        repeat (go_big_quiet_step ((first | (go_at_call 33; exact quiet_i rfl (HC2.out _)) | (exact quiet_i rfl (HC1.out _)))))
        refine wpQuiet_nil ?_
        rintro _ ⟨⟨w2, g5, M5, h5, i5⟩, rfl⟩
        have H5 := hid h5
        have I5 := hid i5
        clear h5 i5 hx hne HC1 HC2
        go_wp2_with fail
        go_roundg (T.s.length - q)
        case measure => omega
        case rel => exact ⟨q + 1, g5, M5, by omega, by omega, by go_num, H4.out.trans H5.out, I5.out, fun r h1 h2 => by rcases Nat.lt_or_ge r q with h | h; exact HN.out r h1 h; obtain rfl : r = q := (by omega); rw [HOK.out]; rfl⟩
      | true =>
        have HOK := hid hok
        rw [hok] at HC1
        clear hok
        cases hen : endsF T.s x.re k q with
        | false =>
          have HEN := hid hen
          rw [hen] at HC2
          clear hen
          go_wp2_with fail
          refine wp_region_i (s := s) (g := g4) (M := M4) (w0 := wr) (I := I) (by kernel_rfl) (by kernel_rfl) ⟨⟨_, g4, M4, (Grow.refl hf4).drew.istep M4, hS.grow HI4.out (Grow.refl hf4).drew⟩, rfl⟩ ?_
          repeat (go_big_quiet_step ((first | (go_at_call 33; exact quiet_i rfl (HC2.out _)) | (exact quiet_i rfl (HC1.out _)))))
          refine wpQuiet_nil ?_
          rintro _ ⟨⟨w2, g5, M5, h5, i5⟩, rfl⟩
          have H5 := hid h5
          have I5 := hid i5
          clear h5 i5 hx hne HC1 HC2
          go_wp2_with fail
          go_roundg (T.s.length - q)
          case measure => omega
          case rel => exact ⟨q + 1, g5, M5, by omega, by omega, by go_num, H4.out.trans H5.out, I5.out, fun r h1 h2 => by rcases Nat.lt_or_ge r q with h | h; exact HN.out r h1 h; obtain rfl : r = q := (by omega); rw [HEN.out, Bool.and_false]⟩
        | true =>
          have HEN := hid hen
          rw [hen] at HC2
          clear hen
          go_wp2_with fail
          refine wp_region_i (s := s) (g := g4) (M := M4) (w0 := wr) (I := I) (by kernel_rfl) (by kernel_rfl) ⟨⟨_, g4, M4, (Grow.refl hf4).drew.istep M4, hS.grow HI4.out (Grow.refl hf4).drew⟩, rfl⟩ ?_
          repeat (go_big_quiet_step ((first | (go_at_call 33; exact quiet_i rfl (HC2.out _)) | (exact quiet_i rfl (HC1.out _)))))
          refine wpQuiet_nil ?_
          rintro _ ⟨⟨w2, g5, M5, h5, i5⟩, rfl⟩
          have H5 := hid h5
          have I5 := hid i5
          clear h5 i5 hx hne HC1 HC2
          go_wp2_with fail
          go_ret
          exact ⟨ret_bool (mayF_hit hkq hlt HOK.out HEN.out).symm, g5, M5, H4.out.trans H5.out, I5.out⟩
    · go_wp2_with fail
      go_ret
      exact ⟨ret_bool (mayF_none fun r h1 h2 => HN.out r h1 (by omega)).symm, g4, M4, H4.out, HI4.out⟩
end Go.Proofs.Ytjodmimnbpgfcaa

/- OftA -/
namespace Go.Proofs.Ytjodmimnbpgfcaa
open Go.RowKit Go.IntWalk

def boolsV (n : Nat) (may : Nat → Bool) : List Value := (List.range n).map fun i => .bool (may i)

set_option maxHeartbeats 1000000 in
theorem often1_impl {σ : Type} {I : Inv σ} {T : Tab} {g0 g : G} {mb : Nat} {f : Nat} (hS : Sys T g0 mb I) {ma : Option Addr} {mn mc : Nat} {may : Nat → Bool} (hm : SliceV g ma mn mc (boolsV (T.s.length + 1) may))
    {b1 b2 : Nat} (hb1 : g.blk b1 = some (.cells #[.int .i64 (f : Nat)] 3)) (hb2 : g.blk b2 = some (.cells #[.slice ma mn mc] 97)) :
    ImplOk I T.s.length g (.func (.func 88) #[] #[.pointer (some ⟨b1, 0, none⟩), .pointer (some ⟨b2, 0, none⟩)]) (fun t => decide (f < t) && may t) := by
  refine ⟨88, _, rfl, Try.call88, fun g' M s w k hle hI hk => ?_⟩
  have hw := hS.fut hI
  have k1 := fut_cell (hle.blk _ _ hb1) 0 _ rfl
  have k2 := fut_cell (hle.blk _ _ hb2) 0 _ rfl
  have hlen := hm.length.1
  simp only [boolsV, List.length_map, List.length_range] at hlen
  subst hlen
  obtain ⟨mbk, moff, rfl, hc⟩ := (hm.le hle).get (i := k) (by simp [boolsV]; omega)
  have hck := hc k (.bool (may k)) (by simp [boolsV, List.getElem?_range (show k < T.s.length + 1 by omega)])
  have HI := hid hI
  clear hb1 hb2 hm hc hI
  simp only [List.append_toArray, List.cons_append, List.nil_append]
  by_cases hlt : f < k
  · simp only [hlt, decide_true, Bool.true_and]
    go_enter Try.func88, Try.ntmps88
    go_wp2_with fail
    go_ret
    exact ⟨rfl, _, _, (Grow.refl hw).istep M, HI.out⟩
  · simp only [hlt, decide_false, Bool.false_and]
    go_enter Try.func88, Try.ntmps88
    go_wp2_with fail
    go_ret
    exact ⟨rfl, _, _, (Grow.refl hw).istep M, HI.out⟩

theorem ownsRow_base {w : World} {base base' : Nat} {e : TypeId} {size : Nat} {v : Value} {n : Nat} {xs : List Value} (h : w.ownsRow base e size v n xs) (hb : base' ≤ base) : w.ownsRow base' e size v n xs := by
  refine ⟨h.1, ?_⟩
  rcases h.2 with h2 | ⟨k, cap, cur, h1, h2, h3⟩
  · exact .inl h2
  · exact .inr ⟨k, cap, cur, h1, Nat.le_trans hb h2, h3⟩

theorem heap_alloc2 (w : World) (a b : Obj) : ((w.alloc a).alloc b).drew.heap[w.heap.size + 1]? = some b := by
  have := heap_alloc_new (w.alloc a) b
  rw [World.size_alloc] at this
  exact this

theorem oft_app {g1 : G} {W0 w2 w3 : World} {had : List Val} {v : Val} {r : VRow} {crs : List VRow} {cv : Value} {kb kcap : Nat} {xs : List Value} (hf0 : Fut g1 W0) (h2 : Grow g1 W0 g1 w2) (ho2 : w2.ownsRow W0.heap.size 48 3 cv had.length xs) (hg : w2.grownBy w3 cv.ownBlock)
    (ho : w3.ownsRow W0.heap.size 48 3 (.slice (some ⟨kb, 0, none⟩) (had.length + 1) kcap) (had.length + 1) (rowsCells crs ++ r.cells)) (hr : RowsV g1 crs had) (hv : ValV g1 r v) :
    ∃ g3, Grow g1 W0 g3 w3 ∧ ValsV g3 (some ⟨kb, 0, none⟩) (had.length + 1) kcap (had ++ [v]) := by
  have h3 : Grow g1 W0 g1 w3 := h2.grown hg (fun k hk => ⟨(ho2.lt k hk).1, hf0.none_of_size (ho2.lt k hk).1⟩)
  have e : rowsCells crs ++ r.cells = rowsCells (crs ++ [r]) := by rw [rowsCells_append]; simp [rowsCells]
  rw [e] at ho
  obtain ⟨g3, a, cap, e3, h4, -, h5, -⟩ := vals_keep (h3.step (fun _ => False)) ho (fun k hk => ⟨(ho.lt k hk).1, hf0.none_of_size (ho.lt k hk).1⟩) (hr.snoc hv) (by simp)
  simp only [Value.slice.injEq] at e3
  obtain ⟨rfl, -, rfl⟩ := e3
  refine ⟨g3, h4.grow, ?_⟩
  simpa using h5

/-- What often is to do at d places behind. -/
def OftenSpec {σ : Type} (I : Inv σ) (live : σ → Prop) (T : Tab) (mb : Nat) (g0 : G) (p : Nat) (x : Re) (may : Nat → Bool) (d : Nat) : Prop :=
  ∀ g M s w f had a c okv tkv ok tk (D : Nat → Prop) ma mc, g0.Le g → I g M s w → live s → f ≤ T.s.length → T.s.length + 1 - f ≤ d → had.length ≤ f → ValsV g a had.length c had → SliceV g ma (T.s.length + 1) mc (boolsV (T.s.length + 1) may) →
    ImplOk I T.s.length g okv ok → ImplTake I live D g tkv tk → (∀ t, t ≤ T.s.length → ok t = true → D t) →
    Calls Try.prog 80 #[.pointer (some ⟨mb, 0, none⟩), .int .i64 (p : Nat), .int .i64 (f : Nat), .slice a had.length c, .slice ma (T.s.length + 1) mc, okv, tkv] w (TPost I live g M w (runT tk (oftenW (ways T.s x) may ok d f had) s))

set_option maxHeartbeats 1000000 in
theorem often2_impl {σ : Type} {I : Inv σ} {live : σ → Prop} {T : Tab} {g0 g : G} {mb p d f : Nat} {x : Re} {may : Nat → Bool} (hS : Sys T g0 mb I) (hle0 : g0.Le g) (hshort : T.s.length ≤ 65536) (hE : OftenSpec I live T mb g0 p x may d) {had : List Val} {a : Option Addr} {c : Nat} {okv fv : Value} {ok : Nat → Bool} {tk : Val → Nat → σ → Bool × σ} {D : Nat → Prop} {ma : Option Addr} {mc : Nat}
    (hd : T.s.length - f ≤ d) (hl : had.length ≤ f) (hf : f ≤ T.s.length) (hv : ValsV g a had.length c had) (hm : SliceV g ma (T.s.length + 1) mc (boolsV (T.s.length + 1) may))
    (ho : ImplOk I T.s.length g okv ok) (h : ImplTake I live D g fv tk) (hD : ∀ t, t ≤ T.s.length → ok t = true → D t) {b1 b2 b3 b4 b5 b6 : Nat}
    (hb1 : g.blk b1 = some (.cells #[.pointer (some ⟨mb, 0, none⟩)] 111)) (hb2 : g.blk b2 = some (.cells #[.int .i64 (p : Nat)] 3)) (hb3 : g.blk b3 = some (.cells #[.slice a had.length c] 41)) (hb4 : g.blk b4 = some (.cells #[.slice ma (T.s.length + 1) mc] 97))
    (hb5 : g.blk b5 = some (.cells #[okv] 140)) (hb6 : g.blk b6 = some (.cells #[fv] 141)) :
    ImplTake I live (fun t => f < t ∧ t ≤ T.s.length) g (.func (.func 89) #[] #[.pointer (some ⟨b1, 0, none⟩), .pointer (some ⟨b2, 0, none⟩), .pointer (some ⟨b3, 0, none⟩), .pointer (some ⟨b4, 0, none⟩), .pointer (some ⟨b5, 0, none⟩), .pointer (some ⟨b6, 0, none⟩)])
      (fun v t s => runT tk (oftenW (ways T.s x) may ok d t (had ++ [v])) s) := by
  refine ⟨89, _, rfl, Try.call89, fun g' M s w r v t hle hI hlive hvr ht => ?_⟩
  have hw := hS.fut hI
  obtain ⟨g1, hg1, eb, c0, c1, c2⟩ := box_val hw r
  have k1 := fut_cell (hg1.le.blk _ _ (hle.blk _ _ hb1)) 0 _ rfl
  have k2 := fut_cell (hg1.le.blk _ _ (hle.blk _ _ hb2)) 0 _ rfl
  have k3 := fut_cell (hg1.le.blk _ _ (hle.blk _ _ hb3)) 0 _ rfl
  have k4 := fut_cell (hg1.le.blk _ _ (hle.blk _ _ hb4)) 0 _ rfl
  have k5 := fut_cell (hg1.le.blk _ _ (hle.blk _ _ hb5)) 0 _ rfl
  have k6 := fut_cell (hg1.le.blk _ _ (hle.blk _ _ hb6)) 0 _ rfl
  have hW1 := hg1.fut
  have hvl := hv.le (hle.trans hg1.le)
  have hs5 : had.length ≤ 100000 := by omega
  have HI := hid hI
  have HG1 := hid hg1
  clear hI hb1 hb2 hb3 hb4 hb5 hb6 eb hg1
  unfold VRow.val at *
  simp only [List.append_toArray, List.cons_append, List.nil_append]
  have hcall : ∀ g3 w3 kb kcap, Grow g1 (w.alloc (.cells #[.int .i64 r.k, .int .u8 r.b, .slice r.a r.len r.cap] 48)) g3 w3 → ValsV g3 (some ⟨kb, 0, none⟩) (had.length + 1) kcap (had ++ [v]) →
      Calls Try.prog 80 #[.pointer (some ⟨mb, 0, none⟩), .int .i64 (p : Nat), .int .i64 (t : Nat), .slice (some ⟨kb, 0, none⟩) (had.length + 1) kcap, .slice ma (T.s.length + 1) mc, okv, fv] w3 (TPost I live g1 M (w.alloc (.cells #[.int .i64 r.k, .int .u8 r.b, .slice r.a r.len r.cap] 48)) (runT tk (oftenW (ways T.s x) may ok d t (had ++ [v])) s)) := by
    intro g3 w3 kb kcap hg3 hv3
    have hG := HG1.out.trans hg3
    have hh := hE g3 M s w3 t (had ++ [v]) (some ⟨kb, 0, none⟩) kcap okv fv ok tk D ma mc ((hle0.trans hle).trans hG.le) (hS.grow HI.out hG) hlive ht.2 (by omega) (by simp; omega) (by simpa using hv3) (hm.le (hle.trans hG.le)) (ho.le (hle.trans hG.le)) (h.le (hle.trans hG.le)) hD
    simp only [List.length_append, List.length_cons, List.length_nil, Nat.zero_add] at hh
    exact hh.mono fun e w' hp => hp.pre (hg3.istep M)
  have HCALL := hid hcall
  have HVR := hid (hvr.le HG1.out.le)
  clear hcall hE hv hm ho h hD hvr
  obtain ⟨i0, hi, hz0, hz1, hz2⟩ := info_parts Try.info48
  go_enter Try.func89, Try.ntmps89
  go_wp2_with fail
  go_region_held3 (fun w' => Fut g1 w') (first | exact Fut.drew (by assumption) | exact Fut.alloc (by assumption) _ | assumption) (first | (go_at_call 90; refine (clone_vals hvl hs5 _ (by assumption)).mono ?_; rintro e w2 ⟨cv, crs, rfl, hg2, ho2, hr2, hz2⟩; have hf2 := hg2.fut; have HG2 := hid hg2; have HO2 := hid ho2; have HR2 := hid hr2; have HZ2 := hid hz2; clear hg2 ho2 hr2 hz2) | (refine step_append_lies _ rfl (.tmp 15) (.tmp 17) 41 rfl _ 48 i0 (.agg #[.int .i64 0, .int .u8 0, .slice none 0 0]) 3 40 Try.underlying41 hi hz0 hz1 hz2 rfl (by decide) _ had.length (rowsCells crs) rfl (HO2.out.alloc _) ⟨w2.heap.size, 0, none⟩ 1 1 r.cells rfl rfl (World.news_of_block (heap_alloc_new w2 _)) (by simp [VRow.cells, Value.oneCell']) (by decide) (by unfold maxLen; omega) (by omega) (by have := HG2.out.size; simp at this ⊢; omega) _ rfl ?_; intro kb kcap w3 hown3 hgrow3 hat3 hlt3; obtain ⟨g3, hg3, hv3⟩ := oft_app hW1.drew (HG2.out.alloc _) (HO2.out.alloc _) hgrow3 hown3 HR2.out HVR.out; have hf3 := hg3.fut.le hg3.le; have HCC := hid (HCALL.out _ _ _ _ ((Grow.refl hW1).drew.trans hg3) hv3); clear hown3 hgrow3 hat3 hlt3 hg3 hv3) | (refine step_append_lies _ rfl (.tmp 15) (.tmp 17) 41 rfl _ 48 i0 (.agg #[.int .i64 0, .int .u8 0, .slice none 0 0]) 3 40 Try.underlying41 hi hz0 hz1 hz2 rfl (by decide) _ had.length (rowsCells crs) rfl HO2.out ⟨w.heap.size + 1, 0, none⟩ 1 1 r.cells rfl rfl (World.news_of_block ((HG2.out.old _ (by simp)).trans (heap_alloc2 w _ _))) (by simp [VRow.cells, Value.oneCell']) (by decide) (by unfold maxLen; omega) (by omega) HG2.out.size _ rfl ?_; intro kb kcap w3 hown3 hgrow3 hat3 hlt3; obtain ⟨g3, hg3, hv3⟩ := oft_app (hW1.alloc _).drew HG2.out HO2.out hgrow3 hown3 HR2.out HVR.out; have hf3 := hg3.fut.le hg3.le; have HCC := hid (HCALL.out _ _ _ _ (((Grow.refl hW1).alloc _).drew.trans hg3) hv3); clear hown3 hgrow3 hat3 hlt3 hg3 hv3) | (go_at_call 80; refine HCC.out.mono ?_; rintro e w4 hp; have HP := hid hp; have hf4 : Fut g1 w4 := (by obtain ⟨-, g5, M5, h5, -⟩ := hp; exact h5.step.fut.le h5.le); obtain ⟨rfl, -⟩ := hp))
  all_goals go_wp2_with fail
  all_goals go_ret
  all_goals exact HP.out.pre (HG1.out.istep M)
end Go.Proofs.Ytjodmimnbpgfcaa
