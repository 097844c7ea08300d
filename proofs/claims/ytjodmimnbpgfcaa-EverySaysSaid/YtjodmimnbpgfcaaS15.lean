/- every's web: what is reached for nothing; the state of closed. A library text: no claim is stated here.   -/
import Derived.Test.YtjodmimnbpgfcaaS14
import Derived.Maps.OwnOps
import Derived.Maps.Views
import Derived.WalkArith
import Derived.Test.YtjodmimnbpgfcaaS04
import Derived.Test.YtjodmimnbpgfcaaS01

/- Clo -/
namespace Go.Proofs.Ytjodmimnbpgfcaa
open Go.RowKit Go.IntWalk

/-- From a place to a place for nothing. -/
inductive RS (L : List Nd) : Nat → Nat → Prop
  | refl (i : Nat) : RS L i i
  | step {i j k : Nat} {x : Nd} (hx : L[i]? = some x) (hj : j ∈ x.free) (h : RS L j k) : RS L i k

theorem RS.trans {L : List Nd} {i j k : Nat} (h : RS L i j) (h2 : RS L j k) : RS L i k := by
  induction h with
  | refl i => exact h2
  | step hx hj _ ih => exact .step hx hj (ih h2)

/-- Each number of a place is one. -/
structure WfW (L : List Nd) : Prop where
  free : ∀ x ∈ L, ∀ j ∈ x.free, j < L.length
  two : ∀ x ∈ L, x.free.length ≤ 2
  next : ∀ x ∈ L, x.next < L.length
  set : ∀ x ∈ L, x.set.wf

theorem RS.lt {L : List Nd} (hw : WfW L) {i k : Nat} (h : RS L i k) (hi : i < L.length) : k < L.length := by
  induction h with
  | refl i => exact hi
  | step hx hj _ ih => exact ih (hw.free _ (List.mem_of_getElem? hx) _ hj)

/-- All that is reached for nothing. -/
structure ClosedOf (L : List Nd) (fr out : List Nat) : Prop where
  nodup : out.Nodup
  mem : ∀ i, i ∈ out ↔ ∃ f ∈ fr, RS L f i

/-- What closed has on its way. -/
structure CSt (L : List Nd) (fr all out : List Nat) : Prop where
  nodup : out.Nodup
  lt : ∀ i ∈ out, i < L.length
  alt : ∀ i ∈ all, i < L.length
  from_ : ∀ f ∈ fr, f ∈ out ∨ f ∈ all
  edge : ∀ i ∈ out, ∀ x, L[i]? = some x → ∀ j ∈ x.free, j ∈ out ∨ j ∈ all
  ro : ∀ i ∈ out, ∃ f ∈ fr, RS L f i
  ra : ∀ i ∈ all, ∃ f ∈ fr, RS L f i

theorem CSt.start {L : List Nd} {fr : List Nat} (h : ∀ i ∈ fr, i < L.length) : CSt L fr fr [] :=
  ⟨List.nodup_nil, by simp, h, fun f hf => .inr hf, by simp, by simp, fun i hi => ⟨i, hi, .refl i⟩⟩
theorem CSt.end_ {L : List Nd} {fr out : List Nat} (h : CSt L fr [] out) : ClosedOf L fr out := by
  refine ⟨h.nodup, fun i => ⟨h.ro i, ?_⟩⟩
  rintro ⟨f, hf, hr⟩
  have hfo : f ∈ out := by rcases h.from_ f hf with h1 | h1; exact h1; simp at h1
  clear hf
  induction hr with
  | refl i => exact hfo
  | step hx hj _ ih => exact ih (by rcases h.edge _ hfo _ hx _ hj with h1 | h1; exact h1; simp at h1)
/-- A place that was had. -/
theorem CSt.skip {L : List Nd} {fr pre out : List Nat} {i : Nat} (h : CSt L fr (pre ++ [i]) out) (hi : i ∈ out) : CSt L fr pre out := by
  refine ⟨h.nodup, h.lt, fun j hj => h.alt j (by simp [hj]), fun f hf => ?_, fun j hj x hx k hk => ?_, h.ro, fun j hj => h.ra j (by simp [hj])⟩
  · rcases h.from_ f hf with h1 | h1
    · exact .inl h1
    · rcases List.mem_append.1 h1 with h1 | h1
      · exact .inr h1
      · simp at h1; subst h1; exact .inl hi
  · rcases h.edge j hj x hx k hk with h1 | h1
    · exact .inl h1
    · rcases List.mem_append.1 h1 with h1 | h1
      · exact .inr h1
      · simp at h1; subst h1; exact .inl hi
/-- A new place. -/
theorem CSt.add {L : List Nd} (hw : WfW L) {fr pre out : List Nat} {i : Nat} {x : Nd} (h : CSt L fr (pre ++ [i]) out) (hi : i ∉ out) (hx : L[i]? = some x) : CSt L fr (pre ++ x.free) (out ++ [i]) := by
  have hia : ∃ f ∈ fr, RS L f i := h.ra i (by simp)
  refine ⟨?_, ?_, ?_, ?_, ?_, ?_, ?_⟩
  · rw [List.nodup_append]
    refine ⟨h.nodup, by simp, ?_⟩
    intro a ha b hb
    simp at hb
    subst hb
    intro e
    exact hi (e ▸ ha)
  · intro j hj
    rcases List.mem_append.1 hj with h1 | h1
    · exact h.lt j h1
    · simp at h1; subst h1; exact (List.getElem?_eq_some_iff.1 hx).1
  · intro j hj
    rcases List.mem_append.1 hj with h1 | h1
    · exact h.alt j (by simp [h1])
    · exact hw.free x (List.mem_of_getElem? hx) j h1
  · intro f hf
    rcases h.from_ f hf with h1 | h1
    · exact .inl (by simp [h1])
    · rcases List.mem_append.1 h1 with h1 | h1
      · exact .inr (by simp [h1])
      · simp at h1; subst h1; exact .inl (by simp)
  · intro j hj y hy k hk
    rcases List.mem_append.1 hj with h1 | h1
    · rcases h.edge j h1 y hy k hk with h2 | h2
      · exact .inl (by simp [h2])
      · rcases List.mem_append.1 h2 with h2 | h2
        · exact .inr (by simp [h2])
        · simp at h2; subst h2; exact .inl (by simp)
    · simp at h1; subst h1
      rw [hx] at hy; cases hy
      exact .inr (by simp [hk])
  · intro j hj
    rcases List.mem_append.1 hj with h1 | h1
    · exact h.ro j h1
    · simp at h1; subst h1; exact hia
  · intro j hj
    rcases List.mem_append.1 hj with h1 | h1
    · exact h.ra j (by simp [h1])
    · obtain ⟨f, hf, hr⟩ := hia
      exact ⟨f, hf, hr.trans (.step hx h1 (.refl j))⟩

theorem nodup_len : ∀ (n : Nat) (l : List Nat), l.Nodup → (∀ i ∈ l, i < n) → l.length ≤ n
  | 0, l, _, h => by
    cases l with
    | nil => simp
    | cons x r => exact absurd (h x (by simp)) (by omega)
  | n + 1, l, hn, h => by
    by_cases hm : n ∈ l
    · have h1 := nodup_len n (l.erase n) (hn.erase n) (fun i hi => by
        have h2 := h i (List.mem_of_mem_erase hi)
        have h3 : i ≠ n := fun e => by subst e; exact (hn.not_mem_erase) hi
        omega)
      rw [List.length_erase_of_mem hm] at h1
      omega
    · have h1 := nodup_len n l hn (fun i hi => by
        have h2 := h i hi
        have h3 : i ≠ n := fun e => hm (e ▸ hi)
        omega)
      omega
theorem CSt.len {L : List Nd} {fr all out : List Nat} (h : CSt L fr all out) : out.length ≤ L.length := nodup_len _ _ h.nodup h.lt
theorem ClosedOf.len {L : List Nd} {fr out : List Nat} (hw : WfW L) (hf : ∀ i ∈ fr, i < L.length) (h : ClosedOf L fr out) : out.length ≤ L.length :=
  nodup_len _ _ h.nodup fun i hi => by obtain ⟨f, h1, h2⟩ := (h.mem i).1 hi; exact h2.lt hw (hf f h1)

/-- The places that were had, as closed's map has them. -/
def HadM (w : World) (b n : Nat) (out : List Nat) : Prop := ∃ D : DataW Unit, w.ownsMap Try.prog 3 (plainElem Try.prog 4) b n D ∧ ∀ i : Nat, i ≤ 9223372036854775807 → D.atKey (.int .i64 i) (.lit (.bool false)) = .lit (.bool (decide (i ∈ out)))

theorem HadM.made (w : World) : HadM (w.alloc (.map #[] 0)) w.heap.size 0 [] :=
  ⟨.map [], World.ownsMap_made _ _ _ _, fun i _ => by simp [DataW.atKey]⟩
theorem HadM.kept {w w' : World} {b n : Nat} {out : List Nat} {row : Option Nat} (h : HadM w b n out) (hg : w.grownBy w' row) (hne : some b ≠ row) : HadM w' b n out := by
  obtain ⟨D, h1, h2⟩ := h
  exact ⟨D, h1.kept hg hne, h2⟩

theorem wf64 {i : Nat} (h : i ≤ 9223372036854775807) : (Lit.int .i64 (i : Int)).wf = true := WalkArith.wf_i64 (by omega)
theorem Try.zero4 (w : World) : (zeroValue 4).run Try.prog w = .ok (.bool false) w := by kernel_rfl
theorem plainElem_bool_inv {P : Program} {e : TypeId} (he : P.underlying e = some .bool) {v : Value} {b : Bool} {ps : List MemPlace} (hv : plainElem (H := Unit) P e v = some (.lit (.bool b), ps)) : v = .bool b := by
  unfold plainElem at hv
  rw [he] at hv
  cases v <;> simp at hv
  rw [hv.1]

theorem wpList_lookup_had {w : World} {b n : Nat} {out : List Nat} (h : HadM w b n out) {i : Nat} (hi : i ≤ 9223372036854775807) {ops : Array Oper} {rest : List Oper} {o : Oper} {a : Act} {Q : Exit → Act → World → Prop}
    (hg : o.guard = none) (m x : Operand) (hop : o.op = Op.lookup 103 m x false) (hm : a.eval m = .map (some b)) (hx : a.eval x = .int .i64 i)
    (hK : wpList Try.prog ops Q rest (a.put o.dst (.bool (decide (i ∈ out)))) w) : wpList Try.prog ops Q (o :: rest) a w := by
  obtain ⟨D, h1, h2⟩ := h
  obtain ⟨v, ps, hrun, hv⟩ := h1.lookup (Maps.int_keyed Try.underlying3) Try.underlying103 (z := .bool false) (Try.zero4 w) (plainElem_bool Try.underlying4 false) (Maps.keyOf_int_mk Try.underlying3 (wf64 hi))
  rw [h2 i hi] at hv
  have hv2 := plainElem_bool_inv Try.underlying4 hv
  subst hv2
  refine wpList_plain hg fun K' hK' => ?_
  unfold Oper.wp
  simp [execOp, hop, hm, hx, hrun, Result.andThen]
  exact hK' _ _ hK

theorem wpList_update_had {w : World} {b n : Nat} {out : List Nat} (h : HadM w b n out) (hn : n < maxLen) {i : Nat} (hi : i ≤ 9223372036854775807) {ops : Array Oper} {rest : List Oper} {o : Oper} {a : Act} {Q : Exit → Act → World → Prop}
    (hg : o.guard = none) (m x v : Operand) (hop : o.op = Op.mapUpdate 103 m x v) (hm : a.eval m = .map (some b)) (hx : a.eval x = .int .i64 i) (hv : a.eval v = .bool true)
    (hK : ∀ w', HadM w' b (n + 1) (out ++ [i]) → w.grownBy w' (some b) → wpList Try.prog ops Q rest (a.put o.dst undef) w') : wpList Try.prog ops Q (o :: rest) a w := by
  obtain ⟨D, h1, h2⟩ := h
  refine wpList_mapUpdate_own w hg m x v 103 hop 3 4 (Maps.int_keyed Try.underlying3) Try.underlying103 (plainElem Try.prog 4) b n D hm h1 hn _ _ (.int .i64 i) hx hv (Maps.keyOf_int_mk Try.underlying3 (wf64 hi)) (.lit (.bool true)) [] (plainElem_bool Try.underlying4 true) ?_
  intro w' h3 h4
  refine hK w' ⟨_, h3, fun j hj => ?_⟩ h4
  by_cases e : j = i
  · subst e
    rw [Maps.atKey_put_same (k := .int .i64 (j : Int)) (by obtain ⟨es, clock, -, -, -, hD⟩ := h1; exact ⟨_, hD⟩) trivial]
    simp
  · rw [Maps.atKey_put_other (by intro e2; cases e2; exact e rfl), h2 j hj]
    simp [e]

/-- The cells of a place lie there. -/
structure NCells (g : G) (b off : Nat) (r : NRow) : Prop where
  c0 : ∀ w, Fut g w → w.cell? ⟨b, off, none⟩ = some (.slice r.a r.n r.c)
  c1 : ∀ w, Fut g w → w.cell? ⟨b, off + 1, none⟩ = some (.int .u64 r.s.a)
  c2 : ∀ w, Fut g w → w.cell? ⟨b, off + 2, none⟩ = some (.int .u64 r.s.b)
  c3 : ∀ w, Fut g w → w.cell? ⟨b, off + 3, none⟩ = some (.int .u64 r.s.c)
  c4 : ∀ w, Fut g w → w.cell? ⟨b, off + 4, none⟩ = some (.int .u64 r.s.d)
  c5 : ∀ w, Fut g w → w.cell? ⟨b, off + 5, none⟩ = some (.int .i64 r.nx)
theorem NCells.le {g g' : G} {b off : Nat} {r : NRow} (h : NCells g b off r) (k : g.Le g') : NCells g' b off r :=
  ⟨fun w hw => h.c0 w (hw.le k), fun w hw => h.c1 w (hw.le k), fun w hw => h.c2 w (hw.le k), fun w hw => h.c3 w (hw.le k), fun w hw => h.c4 w (hw.le k), fun w hw => h.c5 w (hw.le k)⟩

/-- The places of a web that stays. -/
structure WebL (g : G) (wb b lc : Nat) (L : List Nd) : Prop where
  c0 : ∀ w, Fut g w → w.cell? ⟨wb, 0, none⟩ = some (.slice (some ⟨b, 0, none⟩) L.length lc)
  nd : ∀ i x, L[i]? = some x → ∃ r, NodeOk g r x ∧ NCells g b (i * 6) r
theorem WebL.le {g g' : G} {wb b lc : Nat} {L : List Nd} (h : WebL g wb b lc L) (k : g.Le g') : WebL g' wb b lc L :=
  ⟨fun w hw => h.c0 w (hw.le k), fun i x hx => by obtain ⟨r, h1, h2⟩ := h.nd i x hx; exact ⟨r, h1.le k, h2.le k⟩⟩

/-- The two rows of closed. -/
structure CI (g : G) (w0 w : World) (ao : Option Addr) (ac : Nat) (all : List Nat) (oo : Option Addr) (oc : Nat) (out : List Nat) : Prop where
  fut0 : Fut g w0
  grow : Grow g w0 g w
  ra : w.ownsRow (w0.heap.size + 1) 3 1 (.slice ao all.length ac) all.length (all.map natV)
  ro : w.ownsRow (w0.heap.size + 1) 3 1 (.slice oo out.length oc) out.length (out.map natV)
  ne : ∀ k, (Value.slice oo out.length oc).ownBlock = some k → (Value.slice ao all.length ac).ownBlock ≠ some k

theorem own_far {w : World} {base : Nat} {e : TypeId} {size : Nat} {v : Value} {n : Nat} {xs : List Value} (ho : w.ownsRow (base + 1) e size v n xs) : some base ≠ v.ownBlock := fun e => by
  have := (ho.lt _ e.symm).1
  omega
theorem own_ne {v : Value} {row : Option Nat} (h : ∀ k, v.ownBlock = some k → row ≠ some k) : v.ownBlock = none ∨ v.ownBlock ≠ row := by
  cases e : v.ownBlock with
  | none => exact .inl rfl
  | some k => exact .inr (fun e2 => h k e e2.symm)

section
variable {g : G} {w0 w w1 : World} {ao oo ao' : Option Addr} {ac oc ac' : Nat} {all out : List Nat}
theorem CI.other (h : CI g w0 w ao ac all oo oc out) (hg : w.grownBy w1 (some w0.heap.size)) : CI g w0 w1 ao ac all oo oc out :=
  ⟨h.fut0, h.grow.grown hg (fun k hk => by cases hk; exact ⟨Nat.le_refl _, h.fut0.none_of_size (Nat.le_refl _)⟩), h.ra.kept hg (.inr (own_far h.ra).symm), h.ro.kept hg (.inr (own_far h.ro).symm), h.ne⟩
theorem CI.alloc (h : CI g w0 w ao ac all oo oc out) (o : Obj) : CI g w0 (w.alloc o) ao ac all oo oc out := ⟨h.fut0, h.grow.alloc o, h.ra.alloc o, h.ro.alloc o, h.ne⟩
theorem CI.appOut {i kb kcap : Nat} (h : CI g w0 w ao ac all oo oc out) (hg : w.grownBy w1 (Value.slice oo out.length oc).ownBlock) (ho : w1.ownsRow (w0.heap.size + 1) 3 1 (.slice (some ⟨kb, 0, none⟩) (out.length + 1) kcap) (out.length + 1) (out.map natV ++ [natV i]))
    (hat : (Value.slice oo out.length oc).ownBlock = some kb ∨ kb = w.heap.size) : CI g w0 w1 ao ac all (some ⟨kb, 0, none⟩) kcap (out ++ [i]) := by
  refine ⟨h.fut0, h.grow.grown hg (fun k hk => ?_), h.ra.kept hg (own_ne fun k hk e => h.ne k e hk), ?_, fun k hk => ?_⟩
  · have := (h.ro.lt k hk).1
    exact ⟨by omega, h.fut0.none_of_size (by omega)⟩
  · simpa using ho
  · simp only [Value.ownBlock, Option.some.injEq] at hk
    subst hk
    rcases hat with h1 | h1
    · exact h.ne kb h1
    · intro e
      have := (h.ra.lt kb e).2
      omega
theorem CI.appAll {fr : List Nat} {m : Nat} (hm : m = fr.length) (h : CI g w0 w ao ac all oo oc out) (hg : w.grownBy w1 (Value.slice ao all.length ac).ownBlock) (ho : w1.ownsRow (w0.heap.size + 1) 3 1 (.slice ao' (all.length + m) ac') (all.length + m) (all.map natV ++ fr.map natV))
    (hat : (Value.slice ao' (all.length + m) ac').ownBlock = (Value.slice ao all.length ac).ownBlock ∨ (Value.slice ao' (all.length + m) ac').ownBlock = some w.heap.size) : CI g w0 w1 ao' ac' (all ++ fr) oo oc out := by
  subst hm
  refine ⟨h.fut0, h.grow.grown hg (fun k hk => ?_), ?_, h.ro.kept hg (own_ne fun k hk e => h.ne k hk e), fun k hk e => ?_⟩
  · have := (h.ra.lt k hk).1
    exact ⟨by omega, h.fut0.none_of_size (by omega)⟩
  · simpa using ho
  · have e2 : (Value.slice ao' (all ++ fr).length ac').ownBlock = (Value.slice ao' (all.length + fr.length) ac').ownBlock := by rw [List.length_append]
    rw [e2] at e
    rcases hat with h1 | h1
    · exact h.ne k hk (h1 ▸ e)
    · rw [h1] at e
      cases e
      have := (h.ro.lt _ hk).2
      omega
theorem CI.pop {pre : List Nat} {i ka : Nat} (h : CI g w0 w (some ⟨ka, 0, none⟩) ac (pre ++ [i]) oo oc out) : CI g w0 w (some ⟨ka, 0, none⟩) ac pre oo oc out := by
  refine ⟨h.fut0, h.grow, ?_, h.ro, fun k hk e => h.ne k hk (by rw [← e]; rfl)⟩
  obtain ⟨h1, h2⟩ := h.ra
  refine ⟨by simp, ?_⟩
  rcases h2 with ⟨h3, h4⟩ | ⟨k, cap, cur, h3, h4, h5, h6, h7, h8, h9⟩
  · simp at h4
  · right
    simp only [Value.slice.injEq, Option.some.injEq, Addr.mk.injEq, and_true, true_and] at h3
    obtain ⟨rfl, rfl⟩ := h3
    refine ⟨ka, ac, cur, rfl, h4, h5, by simp at h6; omega, h7, h8, ?_⟩
    have e := congrArg (List.take (pre.length * 1)) h9
    rw [List.take_take] at e
    simpa [Nat.min_eq_left (Nat.le_succ _), List.take_append] using e
end
end Go.Proofs.Ytjodmimnbpgfcaa

/- And -/
namespace Go.Proofs.Ytjodmimnbpgfcaa
open Go.RowKit Go.IntWalk

def Set4.and (s o : Set4) : Set4 := ⟨s.a &&& o.a, s.b &&& o.b, s.c &&& o.c, s.d &&& o.d⟩
def Set4.mix (q : Nat) (s o : Set4) : Set4 := ⟨if 0 < q then s.a &&& o.a else s.a, if 1 < q then s.b &&& o.b else s.b, if 2 < q then s.c &&& o.c else s.c, if 3 < q then s.d &&& o.d else s.d⟩

set_option maxHeartbeats 400000 in
theorem and_any {g : G} (s o : Set4) (hs : s.wf) (ho : o.wf) (w : World) (hw : Fut g w) :
    Calls Try.prog 70 #[s.val, o.val] w fun e w' => e = .returned (s.and o).val ∧ Grow g w g w' := by
  unfold Set4.val
  go_enter Try.func70, Try.ntmps70
  go_wp2
  generalize hB : w.heap.size = B
  have hg0 := (((Grow.refl hw).alloc (.cells s.vals 24)).alloc (.cells o.vals 24)).alloc (.cells zero4.vals 24)
  generalize hW : ((w.alloc (.cells #[.int .u64 s.a, .int .u64 s.b, .int .u64 s.c, .int .u64 s.d] 24)).alloc (.cells #[.int .u64 o.a, .int .u64 o.b, .int .u64 o.c, .int .u64 o.d] 24)).alloc (.cells #[.int .u64 0, .int .u64 0, .int .u64 0, .int .u64 0] 24) = W
  have h0 : W.heap[B]? = some (.cells s.vals 24) := by
    rw [← hW, ← hB, Below.heap_alloc _ _ _ (by simp; omega), Below.heap_alloc _ _ _ (by simp), heap_alloc_new]; rfl
  have h1 : W.heap[B + 1]? = some (.cells o.vals 24) := by
    rw [← hW, ← hB, Below.heap_alloc _ _ _ (by simp)]
    have := heap_alloc_new (w.alloc (.cells s.vals 24)) (.cells o.vals 24)
    rw [World.size_alloc] at this; exact this
  have h2 : W.heap[B + 2]? = some (.cells zero4.vals 24) := by
    rw [← hW, ← hB]
    have := heap_alloc_new ((w.alloc (.cells s.vals 24)).alloc (.cells o.vals 24)) (.cells zero4.vals 24)
    rw [World.size_alloc, World.size_alloc] at this; exact this
  have hg1 : Grow g w g W := hW ▸ hg0
  clear hg0 hW
  go_loopw [6] (fun i wr => ∃ (q : Nat), q ≤ 4 ∧ i = .int .i64 q ∧ Grow g w g wr ∧ Hid (wr.heap[B]? = some (.cells (Set4.mix q s o).vals 24)) ∧ Hid (wr.heap[B + 1]? = some (.cells o.vals 24)) ∧ Hid (wr.heap[B + 2]? = some (.cells zero4.vals 24))) (fun i _ => 4 - (intOf i).toNat)
  case atStart => exact ⟨0, by omega, rfl, hg1, h0, h1, h2⟩
  case round =>
    obtain ⟨q, hq, rfl, hg, h0', h1', h2'⟩ := hrel
    clear h0 h1 h2 hg1
    have HG := hid hg
    have hfut := hg.fut
    clear hg
    have d0 : wr.cell? ⟨B, 0, none⟩ = some (.int .u64 ((Set4.mix q s o).a : Nat)) := heap_cell h0'.out 0 _ rfl
    have d1 : wr.cell? ⟨B, 1, none⟩ = some (.int .u64 ((Set4.mix q s o).b : Nat)) := heap_cell h0'.out 1 _ rfl
    have d2 : wr.cell? ⟨B, 2, none⟩ = some (.int .u64 ((Set4.mix q s o).c : Nat)) := heap_cell h0'.out 2 _ rfl
    have d3 : wr.cell? ⟨B, 3, none⟩ = some (.int .u64 ((Set4.mix q s o).d : Nat)) := heap_cell h0'.out 3 _ rfl
    have e0 : wr.cell? ⟨B + 1, 0, none⟩ = some (.int .u64 o.a) := heap_cell h1'.out 0 _ rfl
    have e1 : wr.cell? ⟨B + 1, 1, none⟩ = some (.int .u64 o.b) := heap_cell h1'.out 1 _ rfl
    have e2 : wr.cell? ⟨B + 1, 2, none⟩ = some (.int .u64 o.c) := heap_cell h1'.out 2 _ rfl
    have e3 : wr.cell? ⟨B + 1, 3, none⟩ = some (.int .u64 o.d) := heap_cell h1'.out 3 _ rfl
    have f0 : ∀ i, wr.frozen? ⟨B, i, none⟩ = false := heap_free h0'.out
    have hqq : q = 0 ∨ q = 1 ∨ q = 2 ∨ q = 3 ∨ q = 4 := by omega
    clear hq
    rcases hqq with rfl | rfl | rfl | rfl | rfl
    · go_wp2
      go_region
      go_wp2
      go_roundw
      case rel =>
        refine ⟨1, by omega, rfl, (HG.out.setCell (hw.none_of_size (by simp; omega)) (by simp; omega) _).drew, ?_, (Below.heap_setCell _ _ _ _ (by simp)).trans h1'.out, (Below.heap_setCell _ _ _ _ (by simp)).trans h2'.out⟩
        refine (heap_setCell_same h0'.out _).trans ?_
        rw [bits_and_u64_nat _ _ (by first | exact hs.1 | exact hs.2.1 | exact hs.2.2.1 | exact hs.2.2.2) (by first | exact ho.1 | exact ho.2.1 | exact ho.2.2.1 | exact ho.2.2.2)]
        rfl
      case measure => simp [intOf]
    · go_wp2
      go_region
      go_wp2
      go_roundw
      case rel =>
        refine ⟨2, by omega, rfl, (HG.out.setCell (hw.none_of_size (by simp; omega)) (by simp; omega) _).drew, ?_, (Below.heap_setCell _ _ _ _ (by simp)).trans h1'.out, (Below.heap_setCell _ _ _ _ (by simp)).trans h2'.out⟩
        refine (heap_setCell_same h0'.out _).trans ?_
        rw [bits_and_u64_nat _ _ (by first | exact hs.1 | exact hs.2.1 | exact hs.2.2.1 | exact hs.2.2.2) (by first | exact ho.1 | exact ho.2.1 | exact ho.2.2.1 | exact ho.2.2.2)]
        rfl
      case measure => simp [intOf]
    · go_wp2
      go_region
      go_wp2
      go_roundw
      case rel =>
        refine ⟨3, by omega, rfl, (HG.out.setCell (hw.none_of_size (by simp; omega)) (by simp; omega) _).drew, ?_, (Below.heap_setCell _ _ _ _ (by simp)).trans h1'.out, (Below.heap_setCell _ _ _ _ (by simp)).trans h2'.out⟩
        refine (heap_setCell_same h0'.out _).trans ?_
        rw [bits_and_u64_nat _ _ (by first | exact hs.1 | exact hs.2.1 | exact hs.2.2.1 | exact hs.2.2.2) (by first | exact ho.1 | exact ho.2.1 | exact ho.2.2.1 | exact ho.2.2.2)]
        rfl
      case measure => simp [intOf]
    · go_wp2
      go_region
      go_wp2
      go_roundw
      case rel =>
        refine ⟨4, by omega, rfl, (HG.out.setCell (hw.none_of_size (by simp; omega)) (by simp; omega) _).drew, ?_, (Below.heap_setCell _ _ _ _ (by simp)).trans h1'.out, (Below.heap_setCell _ _ _ _ (by simp)).trans h2'.out⟩
        refine (heap_setCell_same h0'.out _).trans ?_
        rw [bits_and_u64_nat _ _ (by first | exact hs.1 | exact hs.2.1 | exact hs.2.2.1 | exact hs.2.2.2) (by first | exact ho.1 | exact ho.2.1 | exact ho.2.2.1 | exact ho.2.2.2)]
        rfl
      case measure => simp [intOf]
    · have k0 : wr.cell? ⟨B + 2, 0, none⟩ = some (.int .u64 0) := heap_cell h2'.out 0 _ rfl
      have k1 : wr.cell? ⟨B + 2, 1, none⟩ = some (.int .u64 0) := heap_cell h2'.out 1 _ rfl
      have k2 : wr.cell? ⟨B + 2, 2, none⟩ = some (.int .u64 0) := heap_cell h2'.out 2 _ rfl
      have k3 : wr.cell? ⟨B + 2, 3, none⟩ = some (.int .u64 0) := heap_cell h2'.out 3 _ rfl
      have g0 : ∀ i, wr.frozen? ⟨B + 2, i, none⟩ = false := heap_free h2'.out
      go_wp2
      have hS := set_stores h2'.out (Set4.mix 4 s o)
      have hn := hw.none_of_size (b := B + 2) (by omega)
      refine bodyPost_ret (results_set (s := Set4.mix 4 s o) rfl rfl hS) rfl ⟨rfl, ?_⟩
      exact (((HG.out.setCell hn (by simp; omega) _).setCell hn (by simp; omega) _).setCell hn (by simp; omega) _).setCell hn (by simp; omega) _
end Go.Proofs.Ytjodmimnbpgfcaa

/- Ones -/
namespace Go.Proofs.Ytjodmimnbpgfcaa

/-! The count of the bits that are set in a word, as math/bits counts them: it is 0 just for 0. -/

def oy1 (m1 x : Nat) : Nat := (x / 2 &&& m1) + (x &&& m1)
def oy2 (m2 y : Nat) : Nat := (y / 4 &&& m2) + (y &&& m2)
def oy3 (m3 y : Nat) : Nat := (y / 16 + y) &&& m3

theorem and_split (a b c d : Nat) (hb : b < 256) (hd : d < 256) : (256 * a + b) &&& (256 * c + d) = 256 * (a &&& c) + (b &&& d) := by
  have h1 : ((256 * a + b) &&& (256 * c + d)) / 2 ^ 8 = (a &&& c) := by
    rw [Nat.and_div_two_pow]; congr 1 <;> omega
  have h2 : ((256 * a + b) &&& (256 * c + d)) % 2 ^ 8 = (b &&& d) := by
    rw [Nat.and_mod_two_pow]; congr 1 <;> omega
  omega

theorem byte1 : ∀ q, q < 2 → ∀ r, r < 256 → ((q * 128 + r / 2) &&& 85) = (r / 2 &&& 85) := by decide +kernel
theorem byte2 : ∀ q, q < 4 → ∀ r, r < 171 → ((q * 64 + r / 4) &&& 51) = (r / 4 &&& 51) := by decide +kernel
theorem byte_y1 : ∀ r, r < 256 → oy1 85 r < 171 := by decide +kernel
theorem byte_y2 : ∀ r, r < 256 → oy2 51 (oy1 85 r) ≤ 68 ∧ oy2 51 (oy1 85 r) % 16 ≤ 4 := by decide +kernel
theorem byte_y3 : ∀ r, r < 256 → oy3 15 (oy2 51 (oy1 85 r)) ≤ 8 ∧ (oy3 15 (oy2 51 (oy1 85 r)) = 0 → r = 0) := by decide +kernel

theorem split1 (m q r : Nat) (hr : r < 256) : oy1 (256 * m + 85) (256 * q + r) = 256 * oy1 m q + oy1 85 r := by
  unfold oy1
  have e : (256 * q + r) / 2 = 256 * (q / 2) + (q % 2 * 128 + r / 2) := by omega
  rw [e, and_split _ _ _ _ (by omega) (by omega), and_split _ _ _ _ hr (by omega), byte1 _ (Nat.mod_lt _ (by omega)) _ hr]
  omega
theorem split2 (m q r : Nat) (hr : r < 171) : oy2 (256 * m + 51) (256 * q + r) = 256 * oy2 m q + oy2 51 r := by
  unfold oy2
  have e : (256 * q + r) / 4 = 256 * (q / 4) + (q % 4 * 64 + r / 4) := by omega
  rw [e, and_split _ _ _ _ (by omega) (by omega), and_split _ _ _ _ (by omega) (by omega), byte2 _ (Nat.mod_lt _ (by omega)) _ hr]
  omega
theorem split3 (m q r : Nat) (hr : r ≤ 68) (hq : q % 16 ≤ 4) : oy3 (256 * m + 15) (256 * q + r) = 256 * oy3 m q + oy3 15 r := by
  unfold oy3
  have e : (256 * q + r) / 16 + (256 * q + r) = 256 * (q / 16 + q) + (q % 16 * 16 + (r / 16 + r)) := by omega
  rw [e, and_split _ _ _ _ (by omega) (by omega)]
  have e2 : (q % 16 * 16 + (r / 16 + r)) &&& 15 = (r / 16 + r) &&& 15 := by
    rw [show (15 : Nat) = 2 ^ 4 - 1 from rfl, Nat.and_two_pow_sub_one_eq_mod, Nat.and_two_pow_sub_one_eq_mod]; omega
  rw [e2]

def om1 : Nat → Nat | 0 => 0 | n + 1 => 256 * om1 n + 85
def om2 : Nat → Nat | 0 => 0 | n + 1 => 256 * om2 n + 51
def om3 : Nat → Nat | 0 => 0 | n + 1 => 256 * om3 n + 15
/-- The bytes' counts, byte by byte. -/
def oP : Nat → Nat → Nat | 0, _ => 0 | n + 1, x => oy3 15 (oy2 51 (oy1 85 (x % 256))) + 256 * oP n (x / 256)

theorem oy_zero_mask (x : Nat) : oy3 0 (oy2 0 (oy1 0 x)) = 0 := by simp [oy1, oy2, oy3]

theorem oy_all : ∀ n x, oy3 (om3 n) (oy2 (om2 n) (oy1 (om1 n) x)) = oP n x ∧ oy2 (om2 n) (oy1 (om1 n) x) % 16 ≤ 4
  | 0, x => by simp [om1, om2, om3, oP, oy1, oy2, oy3]
  | n + 1, x => by
    obtain ⟨h1, h2⟩ := oy_all n (x / 256)
    have hr : x % 256 < 256 := Nat.mod_lt _ (by omega)
    have hx : x = 256 * (x / 256) + x % 256 := by omega
    generalize x / 256 = q at *
    generalize x % 256 = r at *
    subst hx
    have e1 := split1 (om1 n) q r hr
    have e2 := split2 (om2 n) (oy1 (om1 n) q) (oy1 85 r) (byte_y1 r hr)
    have b2 := byte_y2 r hr
    have e3 := split3 (om3 n) (oy2 (om2 n) (oy1 (om1 n) q)) (oy2 51 (oy1 85 r)) b2.1 h2
    simp only [om1, om2, om3, e1, e2, e3, oP]
    have q1 : (256 * q + r) / 256 = q := by omega
    have q2 : (256 * q + r) % 256 = r := by omega
    rw [q1, q2, h1]
    exact ⟨Nat.add_comm _ _, by omega⟩

/-- What math/bits computes. -/
def ones (x : Nat) : Nat :=
  let y3 := oy3 1085102592571150095 (oy2 3689348814741910323 (oy1 6148914691236517205 x))
  let y4 := y3 + y3 / 256
  let y5 := y4 + y4 / 65536
  let y6 := y5 + y5 / 4294967296
  y6 % 128

theorem sum_bytes (p0 p1 p2 p3 p4 p5 p6 p7 A1 A2 A3 A4 A5 A6 y3 y4 y5 : Nat) (h0 : p0 ≤ 8) (h1 : p1 ≤ 8) (h2 : p2 ≤ 8) (h3 : p3 ≤ 8) (h4 : p4 ≤ 8) (h5 : p5 ≤ 8) (h6 : p6 ≤ 8) (h7 : p7 ≤ 8)
    (a6 : A6 = p6 + 256 * p7) (a5 : A5 = p5 + 256 * A6) (a4 : A4 = p4 + 256 * A5) (a3 : A3 = p3 + 256 * A4) (a2 : A2 = p2 + 256 * A3) (a1 : A1 = p1 + 256 * A2) (e3 : y3 = p0 + 256 * A1)
    (e4 : y4 = y3 + y3 / 256) (e5 : y5 = y4 + y4 / 65536) : y3 < 1000000000000000000 ∧ (y5 + y5 / 4294967296) % 128 = p0 + p1 + p2 + p3 + p4 + p5 + p6 + p7 := by
  have hb : y3 < 1000000000000000000 := by omega
  refine ⟨hb, ?_⟩
  have d3 : y3 / 256 = A1 := by omega
  rw [d3] at e4
  have d4 : y4 / 65536 = A2 + A3 := by omega
  rw [d4] at e5
  have d5 : y5 / 4294967296 = A4 + A5 + A6 + p7 := by
    have : y5 = (p0 + p1 + p2 + p3) + 256 * (p1 + p2 + p3 + p4) + 65536 * (p2 + p3 + p4 + p5) + 16777216 * (p3 + p4 + p5 + p6) + 4294967296 * (A4 + A5 + A6 + p7) := by omega
    clear a6 a5 a4 a3 a2 a1 e3 e4 e5 d3 d4 hb
    omega
  rw [d5]
  omega

/-- A number's eight bytes are 0 just if it is. -/
theorem bytes_zero (x : Nat) (hx : x < 18446744073709551616) (h0 : x % 256 = 0) (h1 : x / 256 % 256 = 0) (h2 : x / 256 / 256 % 256 = 0) (h3 : x / 256 / 256 / 256 % 256 = 0) (h4 : x / 256 / 256 / 256 / 256 % 256 = 0)
    (h5 : x / 256 / 256 / 256 / 256 / 256 % 256 = 0) (h6 : x / 256 / 256 / 256 / 256 / 256 / 256 % 256 = 0) (h7 : x / 256 / 256 / 256 / 256 / 256 / 256 / 256 % 256 = 0) : x = 0 := by
  have l1 : x / 256 < 72057594037927936 := by omega
  have m0 : x = 256 * (x / 256) := by omega
  generalize x / 256 = q1 at *
  have l2 : q1 / 256 < 281474976710656 := by omega
  have m1 : q1 = 256 * (q1 / 256) := by omega
  generalize q1 / 256 = q2 at *
  have l3 : q2 / 256 < 1099511627776 := by omega
  have m2 : q2 = 256 * (q2 / 256) := by omega
  generalize q2 / 256 = q3 at *
  have l4 : q3 / 256 < 4294967296 := by omega
  have m3 : q3 = 256 * (q3 / 256) := by omega
  generalize q3 / 256 = q4 at *
  have l5 : q4 / 256 < 16777216 := by omega
  have m4 : q4 = 256 * (q4 / 256) := by omega
  generalize q4 / 256 = q5 at *
  have l6 : q5 / 256 < 65536 := by omega
  have m5 : q5 = 256 * (q5 / 256) := by omega
  generalize q5 / 256 = q6 at *
  have l7 : q6 / 256 < 256 := by omega
  have m6 : q6 = 256 * (q6 / 256) := by omega
  generalize q6 / 256 = q7 at *
  omega

theorem ones_spec (x : Nat) (hx : x < 18446744073709551616) :
    oy3 1085102592571150095 (oy2 3689348814741910323 (oy1 6148914691236517205 x)) < 1000000000000000000 ∧ ones x ≤ 64 ∧ (ones x = 0 ↔ x = 0) := by
  have h := (oy_all 8 x).1
  have k1 : om1 8 = 6148914691236517205 := by decide
  have k2 : om2 8 = 3689348814741910323 := by decide
  have k3 : om3 8 = 1085102592571150095 := by decide
  rw [k1, k2, k3] at h
  by_cases h0 : x = 0
  · subst h0; exact ⟨by decide, by decide, by decide⟩
  have b := byte_y3
  have z0 := b (x % 256) (Nat.mod_lt _ (by omega))
  have z1 := b (x / 256 % 256) (Nat.mod_lt _ (by omega))
  have z2 := b (x / 256 / 256 % 256) (Nat.mod_lt _ (by omega))
  have z3 := b (x / 256 / 256 / 256 % 256) (Nat.mod_lt _ (by omega))
  have z4 := b (x / 256 / 256 / 256 / 256 % 256) (Nat.mod_lt _ (by omega))
  have z5 := b (x / 256 / 256 / 256 / 256 / 256 % 256) (Nat.mod_lt _ (by omega))
  have z6 := b (x / 256 / 256 / 256 / 256 / 256 / 256 % 256) (Nat.mod_lt _ (by omega))
  have z7 := b (x / 256 / 256 / 256 / 256 / 256 / 256 / 256 % 256) (Nat.mod_lt _ (by omega))
  have hne := fun a0 a1 a2 a3 a4 a5 a6 a7 => h0 (bytes_zero x hx (z0.2 a0) (z1.2 a1) (z2.2 a2) (z3.2 a3) (z4.2 a4) (z5.2 a5) (z6.2 a6) (z7.2 a7))
  simp only [oP] at h
  have S := sum_bytes _ _ _ _ _ _ _ _ _ _ _ _ _ _ _ _ _ z0.1 z1.1 z2.1 z3.1 z4.1 z5.1 z6.1 z7.1 rfl rfl rfl rfl rfl rfl rfl rfl rfl
  have hb := Nat.add_le_add (Nat.add_le_add (Nat.add_le_add (Nat.add_le_add (Nat.add_le_add (Nat.add_le_add (Nat.add_le_add z0.1 z1.1) z2.1) z3.1) z4.1) z5.1) z6.1) z7.1
  clear z0 z1 z2 z3 z4 z5 z6 z7 b k1 k2 k3
  generalize oy3 15 (oy2 51 (oy1 85 (x % 256))) = p0 at *
  generalize oy3 15 (oy2 51 (oy1 85 (x / 256 % 256))) = p1 at *
  generalize oy3 15 (oy2 51 (oy1 85 (x / 256 / 256 % 256))) = p2 at *
  generalize oy3 15 (oy2 51 (oy1 85 (x / 256 / 256 / 256 % 256))) = p3 at *
  generalize oy3 15 (oy2 51 (oy1 85 (x / 256 / 256 / 256 / 256 % 256))) = p4 at *
  generalize oy3 15 (oy2 51 (oy1 85 (x / 256 / 256 / 256 / 256 / 256 % 256))) = p5 at *
  generalize oy3 15 (oy2 51 (oy1 85 (x / 256 / 256 / 256 / 256 / 256 / 256 % 256))) = p6 at *
  generalize oy3 15 (oy2 51 (oy1 85 (x / 256 / 256 / 256 / 256 / 256 / 256 / 256 % 256))) = p7 at *
  have S1 := S.1
  have S2 := S.2
  clear S
  unfold ones
  rw [h]
  simp only [Nat.mul_zero, Nat.add_zero] at S1 S2 ⊢
  refine ⟨S1, ?_, ?_⟩
  · rw [S2]; exact hb
  · rw [S2]
    refine ⟨fun e => (hne ?_ ?_ ?_ ?_ ?_ ?_ ?_ ?_).elim, fun e => (h0 e).elim⟩ <;> omega
end Go.Proofs.Ytjodmimnbpgfcaa
