/- The reference's every: what it yields; slices of values and of bytes. A library text: no claim is stated here. The reference's every, walked: none, the empty text, a byte. A library text: no claim is stated here. The reference's every, walked: a group, a body anew. A library text: no claim is stated here. -/
import Derived.Test.YtjodmimnbpgfcaaS27
import Derived.Test.YtjodmimnbpgfcaaS14

/- RefT -/
namespace Go.Proofs.Ytjodmimnbpgfcaa
open Go.RowKit Go.IntWalk

/-! ### What it yields -/
/-- The items of a star: one of A, then the rest. -/
def starR (m : Nat) (A : List UInt8 → List Val) : Nat → List UInt8 → List Val
  | 0, u => if u = [] then [Val.mk 6 0 []] else []
  | f + 1, u => ((if u = [] then [Val.mk 6 0 []] else []) ++ (List.range u.length).flatMap fun k => (A (u.take (k + 1))).flatMap fun x => (starR m A f (u.drop (k + 1))).map fun y => Val.mk 6 0 (x :: y.l)).take m

def evR (m : Nat) : Re → List UInt8 → List Val
  | .none, _ => []
  | .empty, u => if u = [] then [Val.mk 1 0 []] else []
  | .byte S, u => match u with | [x] => if S.has x.toNat then [Val.mk 2 (x.toNat : Int) []] else [] | _ => []
  | .both a b, u => ((List.range (u.length + 1)).flatMap fun k => (evR m a (u.take k)).flatMap fun x => (evR m b (u.drop k)).map fun y => Val.mk 3 0 [x, y]).take m
  | .or a b, u => (((evR m a u).map fun x => Val.mk 4 0 [x]) ++ ((evR m b u).map fun x => Val.mk 5 0 [x])).take m
  | .star a, u => starR m (evR m a) u.length u
  | .group a, u => (evR m a u).map fun x => Val.mk 7 0 [x]
  | .anew a, u => evR m a u

theorem starR_len {m : Nat} (hm : 1 ≤ m) {A : List UInt8 → List Val} : ∀ (f : Nat) (u : List UInt8), (starR m A f u).length ≤ m
  | 0, u => by rw [starR]; split <;> simp; omega
  | f + 1, u => by rw [starR, List.length_take]; omega
theorem evR_len {m : Nat} (hm : 1 ≤ m) : ∀ (r : Re) (u : List UInt8), (evR m r u).length ≤ m
  | .none, u => by simp [evR]
  | .empty, u => by rw [evR]; split <;> simp; omega
  | .byte S, u => by unfold evR; split <;> (try split) <;> simp <;> omega
  | .both a b, u => by rw [evR, List.length_take]; omega
  | .or a b, u => by rw [evR, List.length_take]; omega
  | .star a, u => by rw [evR]; exact starR_len hm _ _
  | .group a, u => by rw [evR, List.length_map]; exact evR_len hm a u
  | .anew a, u => by rw [evR]; exact evR_len hm a u

theorem starR_fuel {m : Nat} (hm : 1 ≤ m) {A : List UInt8 → List Val} : ∀ (f f' : Nat) (u : List UInt8), u.length ≤ f → u.length ≤ f' → starR m A f u = starR m A f' u
  | 0, 0, _, _, _ => rfl
  | 0, f' + 1, u, h, _ => by
    have hu : u = [] := List.eq_nil_of_length_eq_zero (by omega)
    subst hu
    rw [starR, starR, if_pos rfl]
    simp
    rw [List.take_of_length_le (by simpa using hm)]
  | f + 1, 0, u, _, h => by
    have hu : u = [] := List.eq_nil_of_length_eq_zero (by omega)
    subst hu
    rw [starR, starR, if_pos rfl]
    simp
    rw [List.take_of_length_le (by simpa using hm)]
  | f + 1, f' + 1, u, h, h' => by
    rw [starR, starR]
    congr 2
    have : ∀ k ∈ List.range u.length, ((A (u.take (k + 1))).flatMap fun x => (starR m A f (u.drop (k + 1))).map fun y => Val.mk 6 0 (x :: y.l)) = ((A (u.take (k + 1))).flatMap fun x => (starR m A f' (u.drop (k + 1))).map fun y => Val.mk 6 0 (x :: y.l)) := by
      intro k hk
      rw [starR_fuel hm f f' (u.drop (k + 1)) (by simp; omega) (by simp; omega)]
    rw [List.flatMap_def, List.flatMap_def, List.map_congr_left this]
theorem starR_few {m : Nat} {A : List UInt8 → List Val} : ∀ (f : Nat) (u : List UInt8) (y : Val), y ∈ starR m A f u → y.l.length ≤ f ∧ y.kind = 6 ∧ y.b = 0
  | 0, u, y, h => by
    rw [starR] at h
    split at h
    · simp at h; subst h; exact ⟨Nat.le_refl _, rfl, rfl⟩
    · simp at h
  | f + 1, u, y, h => by
    rw [starR] at h
    have h := List.mem_of_mem_take h
    rw [List.mem_append] at h
    rcases h with h | h
    · split at h
      · simp at h; subst h; exact ⟨Nat.zero_le _, rfl, rfl⟩
      · simp at h
    · simp only [List.mem_flatMap, List.mem_map] at h
      obtain ⟨k, -, x, -, z, hz, rfl⟩ := h
      have := (starR_few f _ z hz).1
      exact ⟨by show z.l.length + 1 ≤ f + 1; omega, rfl, rfl⟩

/-- One more, while there is room. -/
theorem take_room {α : Type} {m : Nat} {X : List α} (h : (X.take m).length < m) (v : α) : X.take m ++ [v] = (X ++ [v]).take m := by
  have hX : X.length < m := by rw [List.length_take] at h; omega
  rw [List.take_of_length_le (by omega), List.take_of_length_le (by simp; omega)]
theorem take_full {α : Type} {m : Nat} {X : List α} (h : ¬ (X.take m).length < m) (Y : List α) : X.take m = (X ++ Y).take m := by
  have hX : m ≤ X.length := by rw [List.length_take] at h; omega
  rw [List.take_append_of_le_length hX]

/-! ### Slices -/
theorem SliceV.take {g : G} {sa : Option Addr} {n sc : Nat} {vs : List Value} (h : SliceV g sa n sc vs) {k : Nat} (hk : k ≤ n) : SliceV g sa k sc (vs.take k) := by
  cases h with
  | nil =>
    obtain rfl : k = 0 := by omega
    exact .nil
  | row b off _ _ hcap hm hc =>
    have := SliceV.row (g := g) b off sc (vs.take k) (by simp; omega) hm (fun w hw i v hi => hc w hw i v (by
      rw [List.getElem?_take] at hi
      split at hi
      · exact hi
      · cases hi))
    rwa [show (vs.take k).length = k by simp; omega] at this
/-- Where a slice lies that begins k cells further on. -/
def tailA (a : Option Addr) (cap k s : Nat) : Option Addr := if cap = k then a else a.map (·.add (k * s))
theorem SliceV.drop {g : G} {sa : Option Addr} {n sc : Nat} {vs : List Value} (h : SliceV g sa n sc vs) {k : Nat} (hk : k ≤ n) : SliceV g (tailA sa sc k 1) (n - k) (sc - k) (vs.drop k) := by
  cases h with
  | nil =>
    obtain rfl : k = 0 := by omega
    exact .nil
  | row b off _ _ hcap hm hc =>
    unfold tailA
    split
    · rename_i he
      have hl : vs.drop k = [] := List.drop_of_length_le (by omega)
      rw [hl]
      have := SliceV.row (g := g) b off (sc - k) [] (by simp) (by omega) (fun w hw i v hi => by simp at hi)
      rwa [show ([] : List Value).length = vs.length - k by simp; omega] at this
    · rename_i he
      have hadd : (⟨b, off, none⟩ : Addr).add (k * 1) = ⟨b, off + k, none⟩ := by unfold Addr.add; split <;> simp_all
      have := SliceV.row (g := g) b (off + k) (sc - k) (vs.drop k) (by simp; omega) (by omega) (fun w hw i v hi => by
        rw [Nat.add_assoc]
        exact hc w hw (k + i) v (by simpa using hi))
      simp only [Option.map_some, hadd]
      rwa [show (vs.drop k).length = vs.length - k by simp] at this

theorem exec_take28 {a : Act} {o : Oper} {x y : Operand} {w : World} {sa : Option Addr} {n sc k : Nat} (ho : o.op = .slice 28 x none (some y) none) (hx : a.eval x = .slice sa n sc) (hy : a.eval y = .int .i64 (k : Nat)) (hk : k ≤ sc) :
    (execOp a.eval o).run Try.prog w = .ok (.value (.slice sa k sc)) w := by
  have he : Try.prog.elem 28 = 5 := by kernel_rfl
  have hz : (sizeOf 5).run Try.prog w = .ok 1 w := by
    obtain ⟨i0, hi0, -, hz1, -⟩ := info_parts Try.info5
    simp [sizeOf, typeInfo, hi0, hz1]
  have ht : Try.prog.underlying 28 = some (.slice (Try.prog.elem 28)) := by rw [he]; exact Try.underlying28
  have h1 := run_slice_h (P := Try.prog) w 28 sa n sc ht .i64 (k : Int) (by omega) (by omega)
  have h2 := run_sliceAt_slice (P := Try.prog) w 28 (.slice sa n sc) none (some (.int .i64 (k : Int))) none ht
  rw [he, hz] at h1
  unfold execOp
  simp only [ho, hx, hy, Option.map_none, Option.map_some]
  rw [Sem.run_bind, h2, h1]
  have : sliced sa 0 (k : Int).toNat sc 1 = .slice sa k sc := by
    have ha : ∀ a : Addr, a.add 0 = a := fun a => by simp [Addr.add]
    cases sa <;> simp [sliced, ha]
  simp only [Result.andThen_ok, this]
  rfl
theorem exec_drop28 {a : Act} {o : Oper} {x y : Operand} {w : World} {sa : Option Addr} {n sc k : Nat} (ho : o.op = .slice 28 x (some y) none none) (hx : a.eval x = .slice sa n sc) (hy : a.eval y = .int .i64 (k : Nat)) (hk : k ≤ n) :
    (execOp a.eval o).run Try.prog w = .ok (.value (.slice (tailA sa sc k 1) (n - k) (sc - k))) w := by
  have he : Try.prog.elem 28 = 5 := by kernel_rfl
  have hz : (sizeOf 5).run Try.prog w = .ok 1 w := by
    obtain ⟨i0, hi0, -, hz1, -⟩ := info_parts Try.info5
    simp [sizeOf, typeInfo, hi0, hz1]
  have ht : Try.prog.underlying 28 = some (.slice (Try.prog.elem 28)) := by rw [he]; exact Try.underlying28
  have h1 := run_slice_l (P := Try.prog) w 28 sa n sc ht .i64 (k : Int) (by omega) (by omega)
  have h2 := run_sliceAt_slice (P := Try.prog) w 28 (.slice sa n sc) (some (.int .i64 (k : Int))) none none ht
  rw [he, hz] at h1
  unfold execOp
  simp only [ho, hx, hy, Option.map_none, Option.map_some]
  rw [Sem.run_bind, h2, h1]
  have : sliced sa (k : Int).toNat n sc 1 = .slice (tailA sa sc k 1) (n - k) (sc - k) := by
    simp [sliced, tailA]
  simp only [Result.andThen_ok, this]
  rfl

/-- One value out of a slice, as a slice. -/
theorem wpList_one56 {ops : Array Oper} {rest : List Oper} {o : Oper} {a : Act} {w : World} {Q : Exit → Act → World → Prop} (hgd : o.guard = none) (x y z : Operand) (ho : o.op = .slice 56 x (some y) (some z) none)
    {b off n cap i : Nat} (hx : a.eval x = .slice (some ⟨b, off, none⟩) n cap) (hy : a.eval y = .int .i64 (i : Nat)) (hz' : a.eval z = .int .i64 ((i : Int) + 1)) (hi : i < n) (hn : n ≤ cap)
    (h : wpList Try.prog ops Q rest (a.put o.dst (.slice (some ⟨b, off + i * 3, none⟩) 1 (cap - i))) w) : wpList Try.prog ops Q (o :: rest) a w := by
  refine wpList_plain hgd fun K hK => ?_
  have he : Try.prog.elem 56 = 61 := by kernel_rfl
  have hz : (sizeOf 61).run Try.prog w = .ok 3 w := by
    obtain ⟨i0, hi0, -, hz1, -⟩ := info_parts Try.info61
    simp [sizeOf, typeInfo, hi0, hz1]
  have ht : Try.prog.underlying 56 = some (.slice (Try.prog.elem 56)) := by rw [he]; exact Try.underlying56
  have h1 := run_slice_lh (P := Try.prog) w 56 (some ⟨b, off, none⟩) n cap ht .i64 .i64 (i : Int) ((i : Int) + 1) (by omega) (by omega) (by omega)
  have h2 := run_sliceAt_slice (P := Try.prog) w 56 (.slice (some ⟨b, off, none⟩) n cap) (some (.int .i64 (i : Int))) (some (.int .i64 ((i : Int) + 1))) none ht
  rw [he, hz] at h1
  unfold Oper.wp execOp
  simp only [ho, hx, hy, hz', Option.map_none, Option.map_some]
  rw [Sem.run_bind, h2, h1]
  have : sliced (some ⟨b, off, none⟩) (i : Int).toNat ((i : Int) + 1).toNat cap 3 = .slice (some ⟨b, off + i * 3, none⟩) 1 (cap - i) := by
    have e1 : ((i : Int) + 1).toNat = i + 1 := by omega
    have hadd : (⟨b, off, none⟩ : Addr).add (i * 3) = ⟨b, off + i * 3, none⟩ := by unfold Addr.add; split <;> simp_all
    have hne : ¬ cap = i := by omega
    simp [sliced, e1, hadd, hne]
  simp only [Result.andThen_ok, this]
  exact hK _ _ h

theorem ValsV.len {g : G} {a : Option Addr} {n c : Nat} {l : List Val} (h : ValsV g a n c l) : n = l.length ∧ n ≤ c ∧ c ≤ 9223372036854775807 := by
  unfold ValsV at h
  cases h with
  | nil => exact ⟨rfl, Nat.le_refl _, by omega⟩
  | row _ _ blk off _ _ f hpos hcap hm hc hr => exact ⟨rfl, hcap, hm⟩

/-- What lies at place i of a slice of values. -/
theorem ValsV.at {g : G} {a : Option Addr} {n c : Nat} {l : List Val} (h : ValsV g a n c l) {i : Nat} (hi : i < l.length) : ∃ b off r, a = some ⟨b, off, none⟩ ∧ VCells g b (off + i * 3) r ∧ ValV g r l[i] ∧
    ∀ k b', ValV g ⟨k, b', some ⟨b, off + i * 3, none⟩, 1, c - i⟩ (.mk k b' [l[i]]) := by
  unfold ValsV at h
  cases h with
  | nil => simp at hi
  | row _ _ blk off _ _ f hpos hcap hm hc hr =>
    refine ⟨blk, off, f i, rfl, hc i hi, hr i hi, fun k b' => ?_⟩
    refine .row k b' blk (off + i * 3) (c - i) [l[i]] (fun _ => f i) (by simp) (by simp; omega) (by omega) (fun j hj => ?_) (fun j hj => ?_)
    · obtain rfl : j = 0 := by simpa using hj
      simpa using hc i hi
    · obtain rfl : j = 0 := by simpa using hj
      simpa using hr i hi

/-- Values to be appended. -/
structure SrcV (g : G) (b : Option Addr) (m : Nat) (l : List Val) (rs : List VRow) : Prop where
  len : l.length = m
  rows : RowsV g rs l
  some : ∀ ad, b = some ad → ∀ w, Fut g w → ∀ j u, (rowsCells rs)[j]? = some u → w.cell? (ad.add j) = some u
  none : b = none → m = 0
theorem ValsV.src {g : G} {b : Option Addr} {m c : Nat} {l : List Val} (h : ValsV g b m c l) : ∃ rs, SrcV g b m l rs := by
  rcases h.rows with ⟨rfl, rfl, rfl, rfl⟩ | ⟨bb, off, rs, rfl, rfl, hpos, hr, hc⟩
  · exact ⟨[], rfl, ⟨rfl, fun i r v h => by simp at h⟩, fun ad e => (by cases e), fun _ => rfl⟩
  · refine ⟨rs, rfl, hr, fun ad e w hw j u hj => ?_, fun e => (by cases e)⟩
    cases e
    rw [show (⟨bb, off, none⟩ : Addr).add j = ⟨bb, off + j, none⟩ by unfold Addr.add; split <;> simp_all]
    exact hc w hw j u hj
theorem SrcV.le {g g' : G} {b : Option Addr} {m : Nat} {l : List Val} {rs : List VRow} (h : SrcV g b m l rs) (k : g.Le g') : SrcV g' b m l rs :=
  ⟨h.len, h.rows.le k, fun ad e w hw => h.some ad e w (hw.le k), h.none⟩

/-- append of values that lie in persistent memory. -/
theorem run_append_vals {g : G} (w : World) (base : Nat) {v : Value} {n : Nat} {xs : List Value} (hown : w.ownsRow base 61 3 v n xs)
    {a : Option Addr} {m c : Nat} {l : List Val} {rs : List VRow} (h : SrcV g a m l rs) (hf : Fut g w) (h63 : n + m ≤ maxLen) (hbytes : (n + m) * 40 ≤ 140737488355328) (hbase : base ≤ w.heap.size) :
    ∃ v' w', (Builtin.append_ #[56, 56] 56 #[v, .slice a m c]).run Try.prog w = .ok v' w' ∧ w'.ownsRow base 61 3 v' (n + m) (xs ++ rowsCells rs) ∧ w.grownBy w' v.ownBlock ∧ (v'.ownBlock = v.ownBlock ∨ v'.ownBlock = some w.heap.size) := by
  obtain ⟨i, hi, hz, hsize, hby⟩ := info_parts Try.info61
  have hlr : (rowsCells rs).length = m * 3 := by rw [rowsCells_length, h.rows.1, h.len]
  cases a with
  | none =>
    have hm := h.none rfl
    subst hm
    have hrs : rowsCells rs = [] := List.eq_nil_of_length_eq_zero (by omega)
    rw [hrs]
    refine ⟨v, w, ?_, by simpa using hown, ⟨rfl, rfl, rfl, Nat.le_refl _, fun _ _ _ => rfl⟩, .inl rfl⟩
    rcases hown.2 with ⟨rfl, rfl⟩ | ⟨k, cap, cur, rfl, hbg, hg, hnc, hcm, hcs, htake⟩
    · simp [Builtin.append_, run_underlying Try.underlying56, sizeOf, typeInfo, hi, Builtin.lenOf, Builtin.firstCells]
    · simp [Builtin.append_, run_underlying Try.underlying56, sizeOf, typeInfo, hi, Builtin.lenOf, Builtin.firstCells, loadCells, storeCells, hnc, Result.andThen]
  | some ad =>
    obtain ⟨v', w', hr, h2, h3, -, h5⟩ := run_append_own_at (P := Try.prog) w base 56 56 61 i _ 3 40 Try.underlying56 hi hz hsize hby rfl (by omega) v n xs hown ad m c (rowsCells rs) hlr
      (fun j u hj => h.some ad rfl w hf j u hj) (rowsCells_one rs) h63 hbytes hbase
    exact ⟨v', w', hr, h2, h3, h5⟩

theorem wp_append_vals {g : G} {w : World} {o : Oper} {a : Act} {K : Act → World → Prop} {Q : Exit → Act → World → Prop} (s x : Operand)
    (ho : o.op = .call { callee := .builtin .append, args := #[s, x], argTypes := #[56, 56] }) (hty : o.type = 56)
    (base : Nat) {v : Value} {n : Nat} {xs : List Value} (hs : a.eval s = v) (hown : w.ownsRow base 61 3 v n xs)
    {b : Option Addr} {m c : Nat} {l : List Val} {rs : List VRow} (hx : a.eval x = .slice b m c) (hv : SrcV g b m l rs) (hf : Fut g w)
    (h63 : n + m ≤ maxLen) (hbytes : (n + m) * 40 ≤ 140737488355328) (hbase : base ≤ w.heap.size)
    (h : ∀ ao cap w', w'.ownsRow base 61 3 (.slice ao (n + m) cap) (n + m) (xs ++ rowsCells rs) → w.grownBy w' v.ownBlock → ((Value.slice ao (n + m) cap).ownBlock = v.ownBlock ∨ (Value.slice ao (n + m) cap).ownBlock = some w.heap.size) → K (a.put o.dst (.slice ao (n + m) cap)) w') :
    o.wp Try.prog a w K Q := by
  obtain ⟨v', w', hr, h2, h3, h5⟩ := run_append_vals w base hown hv hf h63 hbytes hbase (c := c)
  obtain ⟨ao, cap, rfl⟩ : ∃ ao cap, v' = .slice ao (n + m) cap := by
    rcases h2.2 with ⟨h1, h2⟩ | ⟨k, cap, cur, h1, -⟩
    · exact ⟨none, 0, by rw [h1, h2]⟩
    · exact ⟨_, _, h1⟩
  unfold Oper.wp execOp
  simp only [ho, hty, resolve, invoke, builtin, Sem.run_bind, Sem.run_pure, Result.andThen_ok, List.map_toArray, List.map_cons, List.map_nil, hs, hx, hr]
  exact h ao cap w' h2 h3 h5

/-- .. at a step of a region that draws its order. -/
theorem step_append_vals {g : G} {w : World} {ops : Array Oper} {o : Oper} {a : Act} {K : Act → World → Prop} {Q : Exit → Act → World → Prop} {E : Prop} (hgd : o.guard = none) (s x : Operand)
    (ho : o.op = .call { callee := .builtin .append, args := #[s, x], argTypes := #[56, 56] }) (hty : o.type = 56)
    (base : Nat) {v : Value} {n : Nat} {xs : List Value} (hs : a.eval s = v) (hown : w.ownsRow base 61 3 v n xs)
    {b : Option Addr} {m c : Nat} {l : List Val} {rs : List VRow} (hx : a.eval x = .slice b m c) (hv : SrcV g b m l rs) (hf : Fut g w)
    (h63 : n + m ≤ maxLen) (hbytes : (n + m) * 40 ≤ 140737488355328) (hbase : base ≤ w.heap.size)
    (h : ∀ ao cap w', w'.ownsRow base 61 3 (.slice ao (n + m) cap) (n + m) (xs ++ rowsCells rs) → w.grownBy w' v.ownBlock → ((Value.slice ao (n + m) cap).ownBlock = v.ownBlock ∨ (Value.slice ao (n + m) cap).ownBlock = some w.heap.size) → K (a.put o.dst (.slice ao (n + m) cap)) w') :
    if Region.wanted o (yielded ops a.tmps) = true then Oper.wp Try.prog o a w K Q else E := by
  have hw : Region.wanted o (yielded ops a.tmps) = true := by simp [Region.wanted, hgd]
  rw [if_pos hw]
  exact wp_append_vals s x ho hty base hs hown hx hv hf h63 hbytes hbase h

def EvPost (g : G) (l : List Val) (w : World) (e : Ending) (w' : World) : Prop := ∃ g2 a cap, e = .returned (.slice a l.length cap) ∧ Grow g w g2 w' ∧ ValsV g2 a l.length cap l
end Go.Proofs.Ytjodmimnbpgfcaa

/- EvA -/
namespace Go.Proofs.Ytjodmimnbpgfcaa
open Go.RowKit Go.IntWalk

theorem SliceV.at {g : G} {sa : Option Addr} {n sc : Nat} {vs : List Value} (h : SliceV g sa n sc vs) {i : Nat} {v : Value} (hi : vs[i]? = some v) : ∃ b off, sa = some ⟨b, off, none⟩ ∧ n ≤ sc ∧ ∀ w, Fut g w → w.cell? ⟨b, off + i, none⟩ = some v := by
  cases h with
  | nil => simp at hi
  | row b off _ _ hcap hm hc => exact ⟨b, off, rfl, hcap, fun w hw => hc w hw i v hi⟩

/-- every's list under construction. -/
structure EInv (g : G) (w : World) (l : List Val) (gq : G) (wr : World) (la : Option Addr) (lc : Nat) (rs : List VRow) : Prop where
  grow : Grow g w gq wr
  own : OwnV w.heap.size gq wr (.slice la l.length lc) l rs

section
variable {g gq g2 : G} {w wr w1 w3 : World} {l : List Val} {la : Option Addr} {lc kb kcap n : Nat} {rs : List VRow} {r2 : VRow} {v : Val}
theorem EInv.start (h : Grow g w gq wr) : EInv g w [] gq wr none 0 [] := ⟨h, OwnV.start _ _ _⟩
theorem EInv.go (h : EInv g w l gq wr la lc rs) (hg : Grow gq wr g2 w1) : EInv g w l g2 w1 la lc rs := ⟨h.grow.trans hg, h.own.grow hg⟩
theorem EInv.row (h : EInv g w l gq wr la lc rs) : wr.ownsRow w.heap.size 61 3 (.slice la l.length lc) l.length (rowsCells rs) := h.own.own
theorem EInv.base (h : EInv g w l gq wr la lc rs) : w.heap.size ≤ wr.heap.size := h.grow.size
/-- Behind an append. -/
theorem EInv.app (h : EInv g w l gq wr la lc rs) (hl : l.length = n) (hv : ValV gq r2 v) (ho : w3.ownsRow w.heap.size 61 3 (.slice (some ⟨kb, 0, none⟩) (n + 1) kcap) (n + 1) (rowsCells rs ++ r2.cells)) (hgr : wr.grownBy w3 (Value.ownBlock (.slice la n lc)))
    (hat : Value.ownBlock (.slice la n lc) = some kb ∨ kb = wr.heap.size) : EInv g w (l ++ [v]) gq w3 (some ⟨kb, 0, none⟩) kcap (rs ++ [r2]) := by
  subst hl
  refine ⟨h.grow.grown hgr (fun k hk => ⟨(h.own.lt hk).1, h.own.nown k hk⟩), ?_⟩
  have := h.own.snoc (w' := w3) rfl hv ho hat (h.grow.fut.none_of_size (Nat.le_refl _))
  simpa using this
theorem EInv.done (h : EInv g w l gq wr la lc rs) (hn : l.length = n) : EvPost g l w (.returned (.slice la n lc)) wr := by
  subst hn
  obtain ⟨g', a, cap, he, hg, hle, hv, -⟩ := h.own.keep h.grow (Nat.le_refl _) 0 0
  simp only [Value.slice.injEq] at he
  obtain ⟨rfl, -, rfl⟩ := he
  exact ⟨g', la, lc, rfl, hg, hv⟩
end

set_option maxRecDepth 100000 in
set_option maxHeartbeats 4000000 in
theorem ev_none {g : G} (s : Set4) (n : Int) (a : Option Addr) (len cap : Nat) (m : Nat) (most : Int) {sa : Option Addr} {sc : Nat} (u : List UInt8) (w : World) (hw : Fut g w) :
    Calls Try.prog 40 #[.agg (cellsR ⟨0, s, n, a, len, cap⟩), .slice sa u.length sc, .int .i64 most] w (EvPost g (evR m .none u) w) := by
  obtain ⟨g1, hg1, c0, cs, cn, cl, cv⟩ := box_ref hw ⟨0, s, n, a, len, cap⟩
  have hf1 := hg1.fut
  have HG1 := hid hg1
  clear cs cv hg1
  go_enter Try.func40, Try.ntmps40
  go_wp2_with fail
  go_ret
  exact ⟨g1, none, 0, rfl, HG1.out, .nil 0 0⟩

set_option maxRecDepth 100000 in
set_option maxHeartbeats 4000000 in
theorem ev_empty {g : G} (s : Set4) (n : Int) (a : Option Addr) (len cap : Nat) (m : Nat) (most : Int) {sa : Option Addr} {sc : Nat} (u : List UInt8) (w : World) (hw : Fut g w) :
    Calls Try.prog 40 #[.agg (cellsR ⟨1, s, n, a, len, cap⟩), .slice sa u.length sc, .int .i64 most] w (EvPost g (evR m .empty u) w) := by
  obtain ⟨i0, hi, hz0, hz1, hz2⟩ := info_parts Try.info61
  obtain ⟨g1, hg1, c0, cs, cn, cl, cv⟩ := box_ref hw ⟨1, s, n, a, len, cap⟩
  have hf1 := hg1.fut
  have HG1 := hid hg1
  clear cs cv hg1
  by_cases hu : u.length = 0
  · have HE := hid ((EInv.start HG1.out).go ((Grow.refl hf1).alloc (.cells #[.int .i64 1, .int .u8 0, .slice none 0 0] 61)))
    have hu' : ((u.length : Int) == 0) = true := by simp [hu]
    go_enter Try.func40, Try.ntmps40
    go_wp2_with (first | (at_builtin; refine wpList_append_lies _ rfl (.tmp 31) (.tmp 33) 56 rfl _ 61 i0 (.agg #[.int .i64 0, .int .u8 0, .slice none 0 0]) 3 40 Try.underlying56 hi hz0 hz1 hz2 rfl (by decide) _ 0 (rowsCells []) rfl HE.out.row ⟨w.heap.size + 1, 0, none⟩ 1 1 (VRow.cells ⟨1, 0, none, 0, 0⟩) rfl rfl (World.news_of_block (by simpa using heap_alloc_new (World.alloc _ _) _)) (by simp [VRow.cells, Value.oneCell']) (by decide) (by unfold maxLen; omega) (by omega) HE.out.base _ rfl ?_; intro kb kcap w3 hown3 hgrow3 hat3 hlt3; have HF := hid (HE.out.app rfl (r2 := ⟨1, 0, none, 0, 0⟩) (.nil 1 0) hown3 hgrow3 hat3); clear hown3 hgrow3 hat3 hlt3) | fail)
    go_ret
    have e : evR m .empty u = [.mk 1 0 []] := by rw [List.eq_nil_of_length_eq_zero hu]; rfl
    rw [e]
    exact HF.out.done rfl
  · have hu' : ((u.length : Int) == 0) = false := by simpa using hu
    go_enter Try.func40, Try.ntmps40
    go_wp2_with fail
    go_ret
    have e : evR m .empty u = [] := by unfold evR; rw [if_neg (fun e => hu (by rw [e]; rfl))]
    rw [e]
    exact ⟨g1, none, 0, rfl, HG1.out, .nil 0 0⟩

set_option maxRecDepth 100000 in
set_option maxHeartbeats 4000000 in
theorem ev_byte {g : G} (s : Set4) (n : Int) (a : Option Addr) (len cap : Nat) (m : Nat) (most : Int) {sa : Option Addr} {sc : Nat} (u : List UInt8) (hsl : SliceV g sa u.length sc (u.map byteV)) (w : World) (hw : Fut g w) :
    Calls Try.prog 40 #[.agg (cellsR ⟨2, s, n, a, len, cap⟩), .slice sa u.length sc, .int .i64 most] w (EvPost g (evR m (.byte s) u) w) := by
  obtain ⟨i0, hi, hz0, hz1, hz2⟩ := info_parts Try.info61
  obtain ⟨g1, hg1, c0, cs, cn, cl, cv⟩ := box_ref hw ⟨2, s, n, a, len, cap⟩
  have hf1 := hg1.fut
  have HG1 := hid hg1
  clear cv
  by_cases hu : u.length = 1
  · obtain ⟨x, rfl⟩ : ∃ x, u = [x] := by
      match u, hu with
      | [x], _ => exact ⟨x, rfl⟩
    have hx := x.toNat_lt
    have cx := cs x.toNat (by omega)
    obtain ⟨b, off, rfl, hcap, hcx⟩ : ∃ b off, sa = some ⟨b, off, none⟩ ∧ 1 ≤ sc ∧ ∀ w', Fut g1 w' → w'.cell? ⟨b, off, none⟩ = some (.int .u8 (x.toNat : Int)) := by
      obtain ⟨b, off, h1, h2, h3⟩ := hsl.at (i := 0) (v := byteV x) rfl
      exact ⟨b, off, h1, by simpa using h2, fun w' hw' => by simpa [byteV] using h3 w' (hw'.le hg1.le)⟩
    have hxi : (0 : Int) ≤ (x.toNat : Int) := by omega
    have hxl : (x.toNat : Int) < 256 := by omega
    clear cs hg1
    have e : evR m (.byte s) [x] = if s.has x.toNat then [.mk 2 (x.toNat : Int) []] else [] := by unfold evR; rfl
    rw [e]
    cases hsx : s.has x.toNat with
    | true =>
      rw [hsx] at cx
      have HE := hid ((EInv.start HG1.out).go ((Grow.refl hf1).alloc (.cells #[.int .i64 2, .int .u8 (x.toNat : Int), .slice none 0 0] 61)))
      simp only [List.length_cons, List.length_nil, Nat.zero_add]
      go_enter Try.func40, Try.ntmps40
      go_wp2_with (first | (at_builtin; refine wpList_append_lies _ rfl (.tmp 48) (.tmp 53) 56 rfl _ 61 i0 (.agg #[.int .i64 0, .int .u8 0, .slice none 0 0]) 3 40 Try.underlying56 hi hz0 hz1 hz2 rfl (by decide) _ 0 (rowsCells []) rfl HE.out.row ⟨w.heap.size + 1, 0, none⟩ 1 1 (VRow.cells ⟨2, (x.toNat : Int), none, 0, 0⟩) rfl rfl (World.news_of_block (by simpa using heap_alloc_new (World.alloc _ _) _)) (by simp [VRow.cells, Value.oneCell']) (by decide) (by unfold maxLen; omega) (by omega) HE.out.base _ rfl ?_; intro kb kcap w3 hown3 hgrow3 hat3 hlt3; have HF := hid (HE.out.app rfl (r2 := ⟨2, (x.toNat : Int), none, 0, 0⟩) (.nil 2 _) hown3 hgrow3 hat3); clear hown3 hgrow3 hat3 hlt3) | fail)
      go_ret
      exact HF.out.done rfl
    | false =>
      rw [hsx] at cx
      simp only [List.length_cons, List.length_nil, Nat.zero_add]
      go_enter Try.func40, Try.ntmps40
      go_wp2_with fail
      go_ret
      exact ⟨g1, none, 0, rfl, HG1.out, .nil 0 0⟩
  · have hu' : ((u.length : Int) == 1) = false := by simp; omega
    clear cs hg1
    go_enter Try.func40, Try.ntmps40
    go_wp2_with fail
    go_ret
    have e : evR m (.byte s) u = [] := by
      unfold evR
      split
      · simp at hu
      · rfl
    rw [e]
    exact ⟨g1, none, 0, rfl, HG1.out, .nil 0 0⟩
end Go.Proofs.Ytjodmimnbpgfcaa

/- EvB -/
namespace Go.Proofs.Ytjodmimnbpgfcaa
open Go.RowKit Go.IntWalk

theorem EInv.rowN {g gq : G} {w wr : World} {l : List Val} {la : Option Addr} {lc n : Nat} {rs : List VRow} (h : EInv g w l gq wr la lc rs) (hl : l.length = n) : wr.ownsRow w.heap.size 61 3 (.slice la n lc) n (rowsCells rs) := by
  subst hl; exact h.own.own

/-- What every yields of a part. -/
def EvSpec (g : G) (most : Int) (r : CRow) (F : List UInt8 → List Val) : Prop :=
  ∀ g', g.Le g' → ∀ (u : List UInt8) (sa : Option Addr) (sc : Nat), u.length ≤ 1000 → SliceV g' sa u.length sc (u.map byteV) → ∀ w, Fut g' w → Calls Try.prog 40 #[.agg (cellsR r), .slice sa u.length sc, .int .i64 most] w (EvPost g' (F u) w)

set_option maxRecDepth 100000 in
set_option maxHeartbeats 4000000 in
theorem ev_anew {g : G} (s : Set4) (n : Int) {b off : Nat} (cap : Nat) {r0 : CRow} {F : List UInt8 → List Val} (most : Int) (hr0 : ∀ w', Fut g w' → w'.rangeAt b off (cellsR r0).toList) (H0 : EvSpec g most r0 F) {sa : Option Addr} {sc : Nat} (u : List UInt8) (hu : u.length ≤ 1000) (hsl : SliceV g sa u.length sc (u.map byteV)) (w : World) (hw : Fut g w) :
    Calls Try.prog 40 #[.agg (cellsR ⟨7, s, n, some ⟨b, off, none⟩, 1, cap⟩), .slice sa u.length sc, .int .i64 most] w (EvPost g (F u) w) := by
  obtain ⟨g1, hg1, c0, cs, cn, cl, cv⟩ := box_ref hw ⟨7, s, n, some ⟨b, off, none⟩, 1, cap⟩
  have hf1 := hg1.fut
  have HC := hid (H0 g1 hg1.le u sa sc hu (hsl.le hg1.le) _ hf1)
  have H := hid (hr0 _ (hf1.le hg1.le))
  have HG1 := hid hg1
  clear cs cv hg1 hr0 H0
  go_enter Try.func40, Try.ntmps40
  go_wp2_with (first | (refine wpList_load54 rfl _ rfl rfl H.out ?_) | (go_at_call 40; refine HC.out.mono ?_; rintro e w2 ⟨g2, aa, ac, rfl, hg2, hv2⟩; have HG2 := hid hg2; have HV2 := hid hv2; clear hg2 hv2) | fail)
  go_ret
  exact ⟨g2, aa, ac, rfl, HG1.out.trans HG2.out, HV2.out⟩

set_option maxRecDepth 100000 in
set_option maxHeartbeats 4000000 in
theorem ev_group {g : G} (s : Set4) (n : Int) {b off : Nat} (cap : Nat) {r0 : CRow} {F : List UInt8 → List Val} (most : Int) (hr0 : ∀ w', Fut g w' → w'.rangeAt b off (cellsR r0).toList) (H0 : EvSpec g most r0 F) (hF : ∀ u, (F u).length ≤ 100000) {sa : Option Addr} {sc : Nat} (u : List UInt8) (hu : u.length ≤ 1000) (hsl : SliceV g sa u.length sc (u.map byteV)) (w : World) (hw : Fut g w) :
    Calls Try.prog 40 #[.agg (cellsR ⟨6, s, n, some ⟨b, off, none⟩, 1, cap⟩), .slice sa u.length sc, .int .i64 most] w (EvPost g ((F u).map fun x => .mk 7 0 [x]) w) := by
  obtain ⟨i0, hi, hz0, hz1, hz2⟩ := info_parts Try.info61
  obtain ⟨g1, hg1, c0, cs, cn, cl, cv⟩ := box_ref hw ⟨6, s, n, some ⟨b, off, none⟩, 1, cap⟩
  have hf1 := hg1.fut
  have HC := hid (H0 g1 hg1.le u sa sc hu (hsl.le hg1.le) _ hf1)
  have H := hid (hr0 _ (hf1.le hg1.le))
  have HG1 := hid hg1
  have hFu := hF u
  generalize F u = A at HC hFu ⊢
  clear cs cv hg1 hr0 H0 hF
  go_enter Try.func40, Try.ntmps40
  go_wp2_with (first | (refine wpList_load54 rfl _ rfl rfl H.out ?_) | (go_at_call 40; refine HC.out.mono ?_; rintro e w2 ⟨g2, aa, ac, rfl, hg2, hv2⟩; have HG2 := hid hg2; have HV2 := hid hv2; clear hg2 hv2) | fail)
  go_loopg [7, 23] A.length (fun rem s7 i wr => ∃ (q : Nat) (gq : G) (la : Option Addr) (lc : Nat) (rs : List VRow), q + rem = A.length ∧ s7 = .slice la q lc ∧ i = .int .i64 q ∧ g2.Le gq ∧ EInv g w ((A.take q).map fun x => .mk 7 0 [x]) gq wr la lc rs)
  case atStart => exact ⟨0, g2, none, 0, [], by omega, rfl, rfl, G.Le.refl _, EInv.start (HG1.out.trans HG2.out)⟩
  case round =>
    obtain ⟨q, gq, la, lc, rs, hq, rfl, rfl, hle2, hI⟩ := hrel
    have hlq : ((A.take q).map fun x => Val.mk 7 0 [x]).length = q := by simp; omega
    by_cases hlt : q < A.length
    · obtain ⟨bb, bo, ra, rfl, hcv, hva, hone⟩ := HV2.out.at hlt
      have hac := HV2.out.len.2
      have hon := (hone 7 0).le hle2
      have HE := hid (hI.go ((Grow.refl hI.grow.fut).alloc (.cells #[.int .i64 7, .int .u8 0, .slice (some ⟨bb, bo + q * 3, none⟩) 1 (ac - q)] 61)))
      clear hI hcv hva hone
      go_wp2_with (first | (refine wpList_one56 rfl (.tmp 261) (.tmp 262) (.tmp 264) rfl rfl rfl rfl hlt hac.1 ?_) | (at_builtin; refine wpList_append_lies _ rfl (.tmp 260) (.tmp 267) 56 rfl _ 61 i0 (.agg #[.int .i64 0, .int .u8 0, .slice none 0 0]) 3 40 Try.underlying56 hi hz0 hz1 hz2 rfl (by decide) _ q (rowsCells _) rfl (HE.out.rowN hlq) ⟨wr.heap.size, 0, none⟩ 1 1 (VRow.cells ⟨7, 0, some ⟨bb, bo + q * 3, none⟩, 1, ac - q⟩) rfl rfl (World.news_of_block (heap_alloc_new _ _)) (by simp [VRow.cells, Value.oneCell']) (by decide) (by unfold maxLen; omega) (by omega) HE.out.base _ rfl ?_; intro kb kcap w3 hown3 hgrow3 hat3 hlt3; have HF := hid (HE.out.app hlq (r2 := ⟨7, 0, some ⟨bb, bo + q * 3, none⟩, 1, ac - q⟩) hon hown3 hgrow3 hat3); clear hown3 hgrow3 hat3 hlt3) | fail)
      go_roundg (A.length - (q + 1))
      case measure => omega
      case rel =>
        have e : (A.take (q + 1)).map (fun x => Val.mk 7 0 [x]) = (A.take q).map (fun x => Val.mk 7 0 [x]) ++ [.mk 7 0 [A[q]]] := by rw [List.take_add_one, List.getElem?_eq_getElem hlt, List.map_append]; rfl
        have hf := HF.out
        rw [← e] at hf
        exact ⟨q + 1, gq, _, _, _, by omega, rfl, by go_num, hle2, hf⟩
    · obtain rfl : q = A.length := by omega
      rw [List.take_length] at hI hlq
      have HE := hid hI
      clear hI
      go_wp2_with fail
      go_ret
      exact HE.out.done hlq
end Go.Proofs.Ytjodmimnbpgfcaa
