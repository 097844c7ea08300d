/- Regular expressions and where what they say ends. Plain Lean, no program. A library text: no claim is stated here. What lang's table is in memory. A library text: no claim is stated here.  lang's places: has, put, or. A library text: no claim is stated here. -/
import Derived.Test.YtjodmimnbpgfcaaS02
import Derived.Test.YtjodmimnbpgfcaaS03

/- Re -/
namespace Go.Proofs.Ytjodmimnbpgfcaa

inductive Re where
  | none
  | empty
  | byte (s : Set4)
  | both (a b : Re)
  | or (a b : Re)
  | star (a : Re)
  | group (a : Re)
  | anew (a : Re)

def mkRe (k : Int) (s : Set4) (l : List Re) : Re :=
  if k = 1 then .empty else if k = 2 then .byte s else
  if k = 3 then (match l with | [a, b] => .both a b | _ => .none) else
  if k = 4 then (match l with | [a, b] => .or a b | _ => .none) else
  if k = 5 then (match l with | [a] => .star a | _ => .none) else
  if k = 6 then (match l with | [a] => .group a | _ => .none) else
  if k = 7 then (match l with | [a] => .anew a | _ => .none) else .none

mutual
def Core.re : Core → Re
  | .mk k s _ l => mkRe k s (reL l)
def reL : List Core → List Re
  | [] => []
  | x :: r => Core.re x :: reL r
end

/- A core whose parts are as many as its kind says. -/
mutual
def wfC : Core → Bool
  | .mk k _ _ l => decide ((l.length : Int) = kidsF k) && wfL l
def wfL : List Core → Bool
  | [] => true
  | x :: r => wfC x && wfL r
end

mutual
theorem wf_of_good : ∀ (c : Core) (d : Int), goodF c d = true → wfC c = true
  | .mk k s n l, d, h => by
    rw [goodF_split] at h
    simp only [Bool.and_eq_true] at h
    simp only [wfC, Bool.and_eq_true]
    refine ⟨?_, wfL_of_good l _ h.2⟩
    have := h.1
    simp only [headF, Bool.and_eq_true] at this
    exact this.1.1.2
theorem wfL_of_good : ∀ (l : List Core) (d : Int), goodL l d = true → wfL l = true
  | [], _, _ => rfl
  | x :: r, d, h => by
    simp only [goodL, Bool.and_eq_true] at h
    simp only [wfL, Bool.and_eq_true]
    exact ⟨wf_of_good x d h.1, wfL_of_good r d h.2⟩
end

theorem wfL_mem : ∀ {l : List Core} {x : Core}, wfL l = true → x ∈ l → wfC x = true
  | y :: r, x, h, hx => by
    simp only [wfL, Bool.and_eq_true] at h
    rcases List.mem_cons.1 hx with rfl | hx
    · exact h.1
    · exact wfL_mem h.2 hx

mutual
theorem wf_flat : ∀ (c : Core), wfC c = true → ∀ (i : Nat) (x : Core), (flatC c)[i]? = some x → wfC x = true
  | .mk k s n l, h, 0, x, hx => by
    simp only [flatC, List.getElem?_cons_zero, Option.some.injEq] at hx
    subst hx; exact h
  | .mk k s n l, h, i + 1, x, hx => by
    simp only [flatC, List.getElem?_cons_succ] at hx
    simp only [wfC, Bool.and_eq_true] at h
    exact wfL_flat l h.2 i x hx
theorem wfL_flat : ∀ (l : List Core), wfL l = true → ∀ (i : Nat) (x : Core), (flatL l)[i]? = some x → wfC x = true
  | [], _, i, x, hx => by simp [flatL] at hx
  | y :: r, h, i, x, hx => by
    simp only [wfL, Bool.and_eq_true] at h
    simp only [flatL] at hx
    by_cases hi : i < (flatC y).length
    · rw [List.getElem?_append_left hi] at hx
      exact wf_flat y h.1 i x hx
    · rw [List.getElem?_append_right (by omega)] at hx
      exact wfL_flat r h.2 _ x hx
end

/-- The closure of the places that are reached, as lang's table makes it. -/
def starStep (E : Nat → Nat → Bool) (P : Nat → Bool) (k : Nat) : Nat → Bool := if P k then fun j => P j || E k j else P
def starSet (E : Nat → Nat → Bool) (n «from» : Nat) : Nat → Bool := (List.range' «from» (n + 1 - «from»)).foldl (starStep E) (fun j => j == «from»)
def bothStep (A : Nat → Bool) (E : Nat → Nat → Bool) (P : Nat → Bool) (k : Nat) : Nat → Bool := if A k then fun j => P j || E k j else P
def bothSet (A : Nat → Bool) (E : Nat → Nat → Bool) (n «from» : Nat) : Nat → Bool := (List.range' «from» (n + 1 - «from»)).foldl (bothStep A E) (fun _ => false)

/-- Where what a core says from a place on may end. -/
def endsF (s : List UInt8) : Re → Nat → Nat → Bool
  | .none, _, _ => false
  | .empty, f, t => t == f
  | .byte S, f, t => match s[f]? with | some x => S.has x.toNat && t == f + 1 | Option.none => false
  | .both a b, f, t => bothSet (endsF s a f) (endsF s b) s.length f t
  | .or a b, f, t => endsF s a f t || endsF s b f t
  | .star a, f, t => starSet (endsF s a) s.length f t
  | .group a, f, t => endsF s a f t
  | .anew a, f, t => endsF s a f t

theorem kids_cases {x : Core} (h : wfC x = true) :
    (x.kind = 0 ∧ x.l = [] ∧ x.re = .none) ∨ (x.kind = 1 ∧ x.l = [] ∧ x.re = .empty) ∨ (x.kind = 2 ∧ x.l = [] ∧ x.re = .byte x.set) ∨
    (∃ a b, x.kind = 3 ∧ x.l = [a, b] ∧ x.re = .both a.re b.re) ∨ (∃ a b, x.kind = 4 ∧ x.l = [a, b] ∧ x.re = .or a.re b.re) ∨
    (∃ a, x.kind = 5 ∧ x.l = [a] ∧ x.re = .star a.re) ∨ (∃ a, x.kind = 6 ∧ x.l = [a] ∧ x.re = .group a.re) ∨ (∃ a, x.kind = 7 ∧ x.l = [a] ∧ x.re = .anew a.re) := by
  cases x with
  | mk k s n l =>
    simp only [wfC, Bool.and_eq_true, decide_eq_true_eq] at h
    obtain ⟨h, -⟩ := h
    simp only [Core.kind, Core.l, Core.set]
    unfold kidsF at h
    split at h
    · have : l = [] := List.eq_nil_of_length_eq_zero (by omega)
      subst this
      rename_i hk
      rcases hk with rfl | rfl | rfl
      · exact .inl ⟨rfl, rfl, rfl⟩
      · exact .inr (.inl ⟨rfl, rfl, rfl⟩)
      · exact .inr (.inr (.inl ⟨rfl, rfl, rfl⟩))
    split at h
    · rename_i hk
      match l, h with
      | [a, b], _ =>
        rcases hk with rfl | rfl
        · exact .inr (.inr (.inr (.inl ⟨a, b, rfl, rfl, rfl⟩)))
        · exact .inr (.inr (.inr (.inr (.inl ⟨a, b, rfl, rfl, rfl⟩))))
    split at h
    · rename_i hk
      match l, h with
      | [a], _ =>
        rcases hk with rfl | rfl | rfl
        · exact .inr (.inr (.inr (.inr (.inr (.inl ⟨a, rfl, rfl, rfl⟩)))))
        · exact .inr (.inr (.inr (.inr (.inr (.inr (.inl ⟨a, rfl, rfl, rfl⟩))))))
        · exact .inr (.inr (.inr (.inr (.inr (.inr (.inr ⟨a, rfl, rfl, rfl⟩))))))
    · omega
end Go.Proofs.Ytjodmimnbpgfcaa

/- Tab -/
namespace Go.Proofs.Ytjodmimnbpgfcaa
open Go.RowKit

/-- A table: its blocks; the text; the core. -/
structure Tab where
  tb : Nat
  pb : Nat
  pcap : Nat
  eb : Nat
  sa : Option Addr
  slen : Nat
  scap : Nat
  s : List UInt8
  c : Core

/-- A part of the core, as it lies at its place. -/
structure PartMem (g : G) (pb i : Nat) (x : Core) (r : CRow) (a : Option Addr) (n cap : Nat) : Prop where
  k : r.k = x.kind
  s : r.s = x.set
  c : CellsAt g pb (i * 8) r
  c7 : ∀ w, Fut g w → w.cell? ⟨pb, i * 8 + 7, none⟩ = some (.slice a n cap)
  kids : SliceV g a n cap ((kidIdx (i + 1) x.l).map natV)

/-- What of a table stays as it is. -/
structure TabP (g : G) (T : Tab) : Prop where
  tab : g.blk T.tb = some (.cells #[.slice (some ⟨T.pb, 0, none⟩) (nodes T.c) T.pcap, .slice T.sa T.slen T.scap, .slice (some ⟨T.eb, 0, none⟩) (nodes T.c) (nodes T.c)] 108)
  s : SliceV g T.sa T.slen T.scap (T.s.map byteV)
  parts : ∀ (i : Nat) (x : Core), (flatC T.c)[i]? = some x → ∃ r a n cap, PartMem g T.pb i x r a n cap
  wf : wfC T.c = true
  few : nodes T.c ≤ 100000
  short : T.s.length ≤ 256
  sets : ∀ (i : Nat) (x : Core), (flatC T.c)[i]? = some x → x.set.wf

/-- A set of places, word by word. -/
def placesV (p : Nat → Nat) : Array Value := #[.int .u64 (p 0), .int .u64 (p 1), .int .u64 (p 2), .int .u64 (p 3), .int .u64 (p 4)]
def hasP (p : Nat → Nat) (i : Nat) : Bool := (p (i / 64)).testBit (i % 64)
structure PlacesRep (p : Nat → Nat) (S : Nat → Bool) : Prop where
  wf : ∀ j, j < 5 → p j < 18446744073709551616
  has : ∀ i, i < 320 → hasP p i = S i

/-- What a row of the table's ends holds. -/
def EntryOK (g : G) (T : Tab) (x : Core) (f : Nat) (v : Value) : Prop :=
  v = .pointer none ∨ ∃ pb p, v = .pointer (some ⟨pb, 0, none⟩) ∧ g.blk pb = some (.cells (placesV p) 136) ∧ PlacesRep p (endsF T.s x.re f)

def RowOK (g : G) (M : Nat → Prop) (T : Tab) (w : World) (x : Core) (v : Value) : Prop :=
  v = .slice none 0 0 ∨ ∃ rb rs, v = .slice (some ⟨rb, 0, none⟩) (T.s.length + 1) (T.s.length + 1) ∧ M rb ∧ rb ≠ T.eb ∧ w.heap[rb]? = some (.cells rs 109) ∧ rs.size = T.s.length + 1 ∧
    ∀ (f : Nat) (u : Value), rs[f]? = some u → EntryOK g T x f u

/-- What of a table turns. -/
structure TabM (g : G) (M : Nat → Prop) (T : Tab) (w : World) : Prop where
  ends : ∃ es, w.heap[T.eb]? = some (.cells es 134) ∧ es.size = nodes T.c ∧ (∀ (i : Nat) (x : Core) (v : Value), (flatC T.c)[i]? = some x → es[i]? = some v → RowOK g M T w x v) ∧
    (∀ (i j rb n1 c1 n2 c2 : Nat), es[i]? = some (Value.slice (some ⟨rb, 0, none⟩) n1 c1) → es[j]? = some (Value.slice (some ⟨rb, 0, none⟩) n2 c2) → i = j)
  eb : M T.eb
  out : ∀ b, M b → g.blk b = none ∧ b < w.heap.size

theorem CoreV.sets {g : G} {r : CRow} {c : Core} (h : CoreV g r c) : ∀ x ∈ flatC c, x.set.wf := by
  induction h with
  | nil k s n hk hs hn _ _ =>
    intro x hx
    simp only [flatC, flatL, List.mem_singleton] at hx
    subst hx; exact hs
  | row k s n hk hs hn b off cap l f hcap hm hc _ ih =>
    intro x hx
    simp only [flatC, List.mem_cons] at hx
    rcases hx with rfl | hx
    · exact hs
    · have : ∀ (l : List Core), (∀ i (h : i < l.length), ∀ x ∈ flatC l[i], x.set.wf) → ∀ x ∈ flatL l, x.set.wf := by
        intro l
        induction l with
        | nil => intro _ x hx; simp [flatL] at hx
        | cons y r ihr =>
          intro hy x hx
          simp only [flatL, List.mem_append] at hx
          rcases hx with hx | hx
          · exact hy 0 (by simp) x hx
          · exact ihr (fun i hi => hy (i + 1) (by simpa using hi)) x hx
      exact this l ih x hx

theorem Try.info134 : (Try.prog.info? 134).map (fun i => (i.zero, i.size, i.bytes)) = some (some (.slice none 0 0), 1, 24) := by kernel_rfl
theorem Try.info109 : (Try.prog.info? 109).map (fun i => (i.zero, i.size, i.bytes)) = some (some (.pointer none), 1, 8) := by kernel_rfl

end Go.Proofs.Ytjodmimnbpgfcaa

/- Set -/
namespace Go.Proofs.Ytjodmimnbpgfcaa
open Go.RowKit Go.IntWalk


theorem bit_test (a x : Nat) (ha : a < 18446744073709551616) (_hx : x < 64) : (bits BinOp.and IntKind.u64 ((a : Int) / 2 ^ x) 1 == 1) = a.testBit x := by
  have h2 : ((a : Int) / 2 ^ x) = ((a / 2 ^ x : Nat) : Int) := by simp
  have hlt : a / 2 ^ x < 18446744073709551616 := Nat.lt_of_le_of_lt (Nat.div_le_self _ _) ha
  rw [h2, show (1 : Int) = ((1 : Nat) : Int) from rfl, bits_and_u64_nat _ _ hlt (by omega), Nat.testBit, Nat.shiftRight_eq_div_pow, Nat.and_comm 1]
  rw [Bool.eq_iff_iff]
  have : a / 2 ^ x &&& 1 < 2 := by rw [Nat.and_one_is_mod]; omega
  simp only [beq_iff_eq, bne_iff_ne, ne_eq]
  omega

theorem has_any {g : G} (s : Set4) (x : Nat) (w : World) (hw : Fut g w) (hx : x < 256) (hs : s.wf) :
    Calls Try.prog 52 #[.agg #[.int .u64 s.a, .int .u64 s.b, .int .u64 s.c, .int .u64 s.d], .int .u8 x] w fun e w' => e = .returned (.bool (s.has x)) ∧ Grow g w g w' := by
  have hq : x / 64 = 0 ∨ x / 64 = 1 ∨ x / 64 = 2 ∨ x / 64 = 3 := by omega
  obtain ⟨hs0, hs1, hs2, hs3⟩ := hs
  rcases hq with hq | hq | hq | hq
  all_goals
    have hi : (x : Int) / 64 = ((x / 64 : Nat) : Int) := by omega
    rw [hq] at hi
    have HQ := hid hq
    clear hq
    go_enter Try.func52, Try.ntmps52
    go_wp2
    go_ret
    refine ⟨ret_bool ?_, (Grow.refl hw).alloc _⟩
    unfold Set4.has Set4.word
    rw [HQ.out]
    exact bit_test _ _ (by assumption) (by omega)

theorem or_bit (a k : Nat) (ha : a < 18446744073709551616) (hk : k < 64) : bits BinOp.or IntKind.u64 (a : Int) (IntKind.u64.wrap (2 ^ k)) = ((a ||| 2 ^ k : Nat) : Int) := by
  have h2 : 2 ^ k < 18446744073709551616 := Nat.lt_of_lt_of_le (Nat.pow_lt_pow_right (by omega) hk) (by decide)
  have : IntKind.u64.wrap ((2 : Int) ^ k) = ((2 ^ k : Nat) : Int) := by
    rw [IntKind.wrap_u64, show ((2 : Int) ^ k) = ((2 ^ k : Nat) : Int) by simp]
    generalize 2 ^ k = p at h2
    omega
  rw [this]
  exact bits_or_u64_nat _ _ ha h2
theorem or_lt (a k : Nat) (ha : a < 18446744073709551616) (hk : k < 64) : a ||| 2 ^ k < 18446744073709551616 := by
  have h2 : 2 ^ k < 2 ^ 64 := Nat.pow_lt_pow_right (by omega) hk
  exact Nat.or_lt_two_pow (n := 64) ha h2

/-- One byte more. -/
def Set4.put (s : Set4) (x : Nat) : Set4 :=
  if x / 64 = 0 then { s with a := s.a ||| 2 ^ (x % 64) } else if x / 64 = 1 then { s with b := s.b ||| 2 ^ (x % 64) } else if x / 64 = 2 then { s with c := s.c ||| 2 ^ (x % 64) } else { s with d := s.d ||| 2 ^ (x % 64) }
def zero4 : Set4 := ⟨0, 0, 0, 0⟩
theorem Set4.put_wf {s : Set4} (h : s.wf) (x : Nat) : (s.put x).wf := by
  obtain ⟨h0, h1, h2, h3⟩ := h
  have hk : x % 64 < 64 := Nat.mod_lt _ (by omega)
  unfold Set4.put
  split
  · exact ⟨or_lt _ _ h0 hk, h1, h2, h3⟩
  split
  · exact ⟨h0, or_lt _ _ h1 hk, h2, h3⟩
  split
  · exact ⟨h0, h1, or_lt _ _ h2 hk, h3⟩
  · exact ⟨h0, h1, h2, or_lt _ _ h3 hk⟩
theorem zero4_wf : zero4.wf := ⟨by decide, by decide, by decide, by decide⟩
def ofF (l : List UInt8) : Set4 := l.foldl (fun s x => s.put x.toNat) zero4

/-- A set that lies in its result variable. -/
theorem results_set {fn : Func} {p : Tmp} {tmps : Array Value} {w : World} {B : Nat} {s : Set4} (hr : fn.results = #[.cell p 24]) (hp : tmps.getD p undef = .pointer (some ⟨B, 0, none⟩)) (h : w.heap[B]? = some (.cells s.vals 24)) :
    (results fn tmps).run Try.prog w = .ok s.val w := by
  have e0 : w.cell? ⟨B, 0, none⟩ = some (.int .u64 s.a) := heap_cell h 0 _ rfl
  have e1 : w.cell? ⟨B, 1, none⟩ = some (.int .u64 s.b) := heap_cell h 1 _ rfl
  have e2 : w.cell? ⟨B, 2, none⟩ = some (.int .u64 s.c) := heap_cell h 2 _ rfl
  have e3 : w.cell? ⟨B, 3, none⟩ = some (.int .u64 s.d) := heap_cell h 3 _ rfl
  have hp' : tmps[p]?.getD undef = .pointer (some ⟨B, 0, none⟩) := by simpa using hp
  simp [results, hr, hp', go_sem, e0, e1, e2, e3, Set4.val]

theorem set_stores {w : World} {B : Nat} {z : Set4} (h : w.heap[B]? = some (.cells z.vals 24)) (s : Set4) :
    ((((w.setCell ⟨B, 0, none⟩ (.int .u64 s.a)).setCell ⟨B, 1, none⟩ (.int .u64 s.b)).setCell ⟨B, 2, none⟩ (.int .u64 s.c)).setCell ⟨B, 3, none⟩ (.int .u64 s.d)).heap[B]? = some (.cells s.vals 24) :=
  heap_setCell_same (heap_setCell_same (heap_setCell_same (heap_setCell_same h _) _) _) _

set_option maxHeartbeats 400000 in
theorem of_row {g : G} (b off cap : Nat) (l : List UInt8) (hcap : l.length ≤ cap) (hm : cap ≤ 9223372036854775807) (hc : ∀ w, Fut g w → ∀ i v, (l.map byteV)[i]? = some v → w.cell? ⟨b, off + i, none⟩ = some v)
    (w : World) (hw : Fut g w) :
    Calls Try.prog 34 #[.slice (some ⟨b, off, none⟩) l.length cap] w fun e w' => e = .returned (ofF l).val ∧ Grow g w g w' := by
  have HC := hid hc
  clear hc
  go_enter Try.func34, Try.ntmps34
  go_wp2
  generalize hB : w.heap.size = B
  have h0 : ((w.alloc (.cells #[.int .u64 0, .int .u64 0, .int .u64 0, .int .u64 0] 24)).alloc (.cells #[.int .u64 0, .int .u64 0, .int .u64 0, .int .u64 0] 24)).heap[B]? = some (.cells zero4.vals 24) := by
    rw [← hB, Below.heap_alloc _ _ _ (by simp), heap_alloc_new]; rfl
  have h1 : ((w.alloc (.cells #[.int .u64 0, .int .u64 0, .int .u64 0, .int .u64 0] 24)).alloc (.cells #[.int .u64 0, .int .u64 0, .int .u64 0, .int .u64 0] 24)).heap[B + 1]? = some (.cells zero4.vals 24) := by
    have := heap_alloc_new (w.alloc (.cells #[.int .u64 0, .int .u64 0, .int .u64 0, .int .u64 0] 24)) (.cells #[.int .u64 0, .int .u64 0, .int .u64 0, .int .u64 0] 24)
    rw [World.size_alloc, hB] at this; exact this
  go_loopw [8] (fun i wr => ∃ (q : Nat) (s : Set4), q ≤ l.length ∧ i = .int .i64 q ∧ Grow g w g wr ∧ Hid (wr.heap[B]? = some (.cells zero4.vals 24)) ∧ Hid (wr.heap[B + 1]? = some (.cells s.vals 24)) ∧ s.wf ∧ Hid ((l.drop q).foldl (fun s x => s.put x.toNat) s = ofF l)) (fun i _ => l.length - (intOf i).toNat)
  case atStart => exact ⟨0, zero4, Nat.zero_le _, rfl, ((Grow.refl hw).alloc _).alloc _, h0, h1, zero4_wf, rfl⟩
  case round =>
    obtain ⟨q, s, hq, rfl, hg, h0', h1', hs, H3⟩ := hrel
    clear h0 h1
    have HG := hid hg
    have HS := hid hs
    have hfut := hg.fut
    clear hg
    obtain ⟨hs0, hs1, hs2, hs3⟩ := hs
    by_cases hlt : q < l.length
    · have c0 := fun w hw => HC.out w hw q (byteV l[q]) (by simp [hlt])
      unfold byteV at c0
      have hx := (l[q]).toNat_lt
      generalize hxe : (l[q]).toNat = x at *
      have HX := hid hxe
      clear hxe
      have d0 : wr.cell? ⟨B + 1, 0, none⟩ = some (.int .u64 s.a) := heap_cell h1'.out 0 _ rfl
      have d1 : wr.cell? ⟨B + 1, 1, none⟩ = some (.int .u64 s.b) := heap_cell h1'.out 1 _ rfl
      have d2 : wr.cell? ⟨B + 1, 2, none⟩ = some (.int .u64 s.c) := heap_cell h1'.out 2 _ rfl
      have d3 : wr.cell? ⟨B + 1, 3, none⟩ = some (.int .u64 s.d) := heap_cell h1'.out 3 _ rfl
      have f0 : ∀ i, wr.frozen? ⟨B + 1, i, none⟩ = false := heap_free h1'.out
      have hqq : x / 64 = 0 ∨ x / 64 = 1 ∨ x / 64 = 2 ∨ x / 64 = 3 := by omega
      rcases hqq with hq1 | hq1 | hq1 | hq1
      all_goals
        have hi : (x : Int) / 64 = ((x / 64 : Nat) : Int) := by omega
        rw [hq1] at hi
        have HQ := hid hq1
        clear hq1
        go_wp2
        go_roundw
        case rel =>
          refine ⟨q + 1, s.put x, by omega, by go_num, HG.out.setCell (hw.none_of_size (by simp; omega)) (by simp; omega) _, ?_, ?_, Set4.put_wf HS.out x, ?_⟩
          · exact (Below.heap_setCell _ _ _ _ (by simp)).trans h0'.out
          · refine (heap_setCell_same h1'.out _).trans ?_
            rw [or_bit _ _ (by assumption) (Nat.mod_lt _ (by omega))]
            unfold Set4.put
            rw [HQ.out]
            rfl
          · have := H3.out
            rw [List.drop_eq_getElem_cons hlt, List.foldl_cons, HX.out] at this
            exact this
        case measure => simp [intOf]; omega
    · have d0 : wr.cell? ⟨B + 1, 0, none⟩ = some (.int .u64 s.a) := heap_cell h1'.out 0 _ rfl
      have d1 : wr.cell? ⟨B + 1, 1, none⟩ = some (.int .u64 s.b) := heap_cell h1'.out 1 _ rfl
      have d2 : wr.cell? ⟨B + 1, 2, none⟩ = some (.int .u64 s.c) := heap_cell h1'.out 2 _ rfl
      have d3 : wr.cell? ⟨B + 1, 3, none⟩ = some (.int .u64 s.d) := heap_cell h1'.out 3 _ rfl
      have e0 : wr.cell? ⟨B, 0, none⟩ = some (.int .u64 0) := heap_cell h0'.out 0 _ rfl
      have e1 : wr.cell? ⟨B, 1, none⟩ = some (.int .u64 0) := heap_cell h0'.out 1 _ rfl
      have e2 : wr.cell? ⟨B, 2, none⟩ = some (.int .u64 0) := heap_cell h0'.out 2 _ rfl
      have e3 : wr.cell? ⟨B, 3, none⟩ = some (.int .u64 0) := heap_cell h0'.out 3 _ rfl
      have f0 : ∀ i, wr.frozen? ⟨B, i, none⟩ = false := heap_free h0'.out
      go_wp2
      have hS := set_stores h0'.out s
      have he : s = ofF l := by rw [← H3.out, List.drop_of_length_le (by omega)]; rfl
      have hn := hw.none_of_size (b := B) (by omega)
      refine bodyPost_ret (results_set (s := s) rfl rfl hS) rfl ⟨by rw [he], ?_⟩
      exact (((HG.out.setCell hn (by simp; omega) _).setCell hn (by simp; omega) _).setCell hn (by simp; omega) _).setCell hn (by simp; omega) _

theorem of_nil {g : G} (w : World) (hw : Fut g w) : Calls Try.prog 34 #[.slice none 0 0] w fun e w' => e = .returned (ofF []).val ∧ Grow g w g w' := by
  go_enter Try.func34, Try.ntmps34
  go_wp2
  refine wp_loop_rounds 1 ?_; rw [rounds_succ]
  go_wp2
  refine bodyPost_ret (results_set (s := zero4) (B := w.heap.size) rfl rfl ?_) rfl ⟨rfl, ((Grow.refl hw).alloc _).alloc _⟩
  rw [Below.heap_alloc _ _ _ (by simp), heap_alloc_new]; rfl

theorem of_any {g : G} {a : Option Addr} {n c : Nat} {l : List UInt8} (h : SliceV g a n c (l.map byteV)) (w : World) (hw : Fut g w) :
    Calls Try.prog 34 #[.slice a n c] w fun e w' => e = .returned (ofF l).val ∧ Grow g w g w' := by
  generalize hv : l.map byteV = vs at h
  cases h with
  | nil =>
    obtain rfl : l = [] := by simpa using hv
    exact of_nil w hw
  | row b off _ _ hcap hm hc =>
    subst hv
    have := of_row b off c l (by simpa using hcap) hm hc w hw
    simpa using this
end Go.Proofs.Ytjodmimnbpgfcaa

/- Places -/
namespace Go.Proofs.Ytjodmimnbpgfcaa
open Go.RowKit Go.IntWalk

theorem placesV_get (p : Nat → Nat) (j : Nat) (h : j < 5) : (placesV p)[j]? = some (.int .u64 (p j)) := by
  match j, h with
  | 0, _ => rfl
  | 1, _ => rfl
  | 2, _ => rfl
  | 3, _ => rfl
  | 4, _ => rfl

theorem phas_any {b i : Nat} {p : Nat → Nat} {T : TypeId} (w : World) (hb : w.heap[b]? = some (.cells (placesV p) T)) (hw : ∀ j, j < 5 → p j < 18446744073709551616) (hi : i < 320) :
    Calls Try.prog 56 #[.pointer (some ⟨b, 0, none⟩), .int .i64 i] w fun e w' => e = .returned (.bool (hasP p i)) ∧ w = w' := by
  have hj : i / 64 < 5 := by omega
  have c0 := heap_cell hb (i / 64) _ (placesV_get p _ hj)
  have hx : ((i : Int) / 64) < 5 := by omega
  have hp := hw _ hj
  have HB := hid hb
  have HP := hid hp
  clear hb hp
  go_enter Try.func56, Try.ntmps56
  go_wp2
  go_ret
  refine ⟨ret_bool ?_, rfl⟩
  exact bit_test _ _ HP.out (by omega)

def PlPost (w : World) (b : Nat) (T : TypeId) (S : Nat → Bool) (e : Ending) (w' : World) : Prop :=
  e = .returned (.tuple #[]) ∧ ∃ p, w'.heap[b]? = some (.cells (placesV p) T) ∧ w.grownBy w' (some b) ∧ PlacesRep p S

theorem placesV_set (p : Nat → Nat) (j v : Nat) (h : j < 5) : (placesV p).setIfInBounds j (.int .u64 v) = placesV (fun k => if k = j then v else p k) := by
  match j, h with
  | 0, _ => rfl
  | 1, _ => rfl
  | 2, _ => rfl
  | 3, _ => rfl
  | 4, _ => rfl

theorem put_rep {p : Nat → Nat} {S : Nat → Bool} (h : PlacesRep p S) {i : Nat} (_hi : i < 320) : PlacesRep (fun k => if k = i / 64 then p (i / 64) ||| 2 ^ (i % 64) else p k) (fun j => S j || j == i) := by
  refine ⟨fun j hj => ?_, fun j hj => ?_⟩
  · split
    · exact or_lt _ _ (h.wf _ (by omega)) (Nat.mod_lt _ (by omega))
    · exact h.wf j hj
  · have := h.has j hj
    unfold hasP at this ⊢
    dsimp only
    by_cases e : j / 64 = i / 64
    · rw [if_pos e, ← e, Nat.testBit_or, this, Nat.testBit_two_pow]
      congr 1
      rw [Bool.eq_iff_iff]
      simp
      omega
    · rw [if_neg e, this]
      have : (j == i) = false := by simp; intro h2; exact e (by rw [h2])
      rw [this, Bool.or_false]

set_option maxHeartbeats 1000000 in
theorem pput_any {b i : Nat} {p : Nat → Nat} {T : TypeId} {S : Nat → Bool} (w : World) (hb : w.heap[b]? = some (.cells (placesV p) T)) (hS : PlacesRep p S) (hi : i < 320) :
    Calls Try.prog 73 #[.pointer (some ⟨b, 0, none⟩), .int .i64 i] w (PlPost w b T (fun j => S j || j == i)) := by
  have hj : i / 64 < 5 := by omega
  have c0 := heap_cell hb (i / 64) _ (placesV_get p _ hj)
  have f0 := heap_free hb (i / 64)
  have hx : ((i : Int) / 64) < 5 := by omega
  have hp := hS.wf _ hj
  have HB := hid hb
  have HP := hid hp
  have HS := hid hS
  clear hb hp hS
  go_enter Try.func73, Try.ntmps73
  go_wp2_with fail
  go_region
  go_wp2_with fail
  go_end0
  refine ⟨rfl, _, ?_, ⟨rfl, rfl, rfl, by simp, fun k _ hk => Below.heap_setCell _ _ _ _ (fun e => hk (by rw [e]))⟩, put_rep HS.out hi⟩
  refine (heap_setCell_same HB.out _).trans ?_
  rw [or_bit _ _ HP.out (Nat.mod_lt _ (by omega)), placesV_set _ _ _ hj]

theorem pput_at {b i : Nat} {iv : Int} (hiv : iv = (i : Int)) {p : Nat → Nat} {T : TypeId} {S : Nat → Bool} (w : World) (hb : w.heap[b]? = some (.cells (placesV p) T)) (hS : PlacesRep p S) (hi : i < 320) :
    Calls Try.prog 73 #[.pointer (some ⟨b, 0, none⟩), .int .i64 iv] w (PlPost w b T (fun j => S j || j == i)) := by
  subst hiv; exact pput_any w hb hS hi

def orP (q : Nat) (p o : Nat → Nat) : Nat → Nat := fun j => if j < q then p j ||| o j else p j

theorem or_rep {p o : Nat → Nat} {S R : Nat → Bool} (h : PlacesRep p S) (k : PlacesRep o R) : PlacesRep (orP 5 p o) (fun j => S j || R j) := by
  refine ⟨fun j hj => ?_, fun j hj => ?_⟩
  · unfold orP
    rw [if_pos hj]
    exact Nat.or_lt_two_pow (n := 64) (h.wf j hj) (k.wf j hj)
  · have h1 := h.has j hj
    have k1 := k.has j hj
    unfold hasP orP at *
    rw [if_pos (by omega), Nat.testBit_or, h1, k1]

set_option maxHeartbeats 1000000 in
theorem por_any {b b2 : Nat} {p o : Nat → Nat} {T T2 : TypeId} {S R : Nat → Bool} (w : World) (hb : w.heap[b]? = some (.cells (placesV p) T)) (hS : PlacesRep p S) (hb2 : w.heap[b2]? = some (.cells (placesV o) T2)) (hR : PlacesRep o R) (hne : b2 ≠ b) :
    Calls Try.prog 74 #[.pointer (some ⟨b, 0, none⟩), .pointer (some ⟨b2, 0, none⟩)] w (PlPost w b T (fun j => S j || R j)) := by
  have HB := hid hb
  have HB2 := hid hb2
  have HS := hid hS
  have HR := hid hR
  have HNE := hid hne
  clear hb hS hb2 hR hne
  go_enter Try.func74, Try.ntmps74
  go_wp2
  go_loopw [5] (fun i wr => ∃ (q : Nat), q ≤ 5 ∧ i = .int .i64 q ∧ w.grownBy wr (some b) ∧ Hid (wr.heap[b]? = some (.cells (placesV (orP q p o)) T)) ∧ Hid (wr.heap[b2]? = some (.cells (placesV o) T2))) (fun i _ => 5 - (intOf i).toNat)
  case atStart => exact ⟨0, by omega, rfl, World.grownBy.refl _ _, HB.out, HB2.out⟩
  case round =>
    obtain ⟨q, hq, rfl, hg, h0', h1'⟩ := hrel
    have HG := hid hg
    clear hg
    by_cases hlt : q < 5
    · have d0 := heap_cell h0'.out q _ (placesV_get _ q hlt)
      have d1 := heap_cell h1'.out q _ (placesV_get _ q hlt)
      have f0 := heap_free h0'.out q
      have hx : (q : Int) < 5 := by omega
      go_wp2
      go_region
      go_wp2
      go_roundw
      case rel =>
        refine ⟨q + 1, by omega, by go_num, ?_, ?_, (Below.heap_setCell _ _ _ _ HNE.out).trans h1'.out⟩
        · exact HG.out.trans ⟨rfl, rfl, rfl, by simp, fun k _ hk => Below.heap_setCell _ _ _ _ (fun e => hk (by rw [e]))⟩
        · refine (heap_setCell_same h0'.out _).trans ?_
          have e1 : orP q p o q = p q := by unfold orP; rw [if_neg (by omega)]
          rw [e1, bits_or_u64_nat _ _ (HS.out.wf q hlt) (HR.out.wf q hlt), placesV_set _ _ _ hlt]
          congr 2
          congr 1
          funext k
          unfold orP
          by_cases h1 : k = q
          · subst h1; rw [if_pos rfl, if_pos (by omega)]
          · rw [if_neg h1]
            by_cases h2 : k < q
            · rw [if_pos h2, if_pos (by omega)]
            · rw [if_neg h2, if_neg (by omega)]
      case measure => simp [intOf]; omega
    · obtain rfl : q = 5 := by omega
      go_wp2
      go_end0
      exact ⟨rfl, _, h0'.out, HG.out, or_rep HS.out HR.out⟩
end Go.Proofs.Ytjodmimnbpgfcaa
