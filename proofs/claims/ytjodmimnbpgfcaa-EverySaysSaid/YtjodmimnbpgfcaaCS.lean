/- The row of 'EverySays': for every core, every text and every two numbers that can be read, the law returns true, the arguments read as they did, and nothing that was there is turned. No condition. -/
import Derived.Test.YtjodmimnbpgfcaaS51
import Derived.Test.YtjodmimnbpgfcaaS52
import Derived.Carry

/- CS -/
namespace Go.Proofs.Ytjodmimnbpgfcaa
open Go.RowKit Go.ChangeShapes Go.WideShapes Go.ChangeAt Go.Deep

theorem everySays_any {g : G} {r : CRow} {c : Core} (h : CoreV g r c) (most n : Int) (hm : i64 most) (hn : i64 n) {s : List UInt8} {sa : Option Addr} {sc : Nat} (hs : SliceV g sa s.length sc (s.map byteV)) (w : World) (hw : Fut g w) :
    Calls Try.prog 5 #[r.val, .slice sa s.length sc, .int .i64 most, .int .i64 n] w fun e w' => e = .returned (.bool true) ∧ Grow g w g w' := by
  by_cases hout : bigF c 30 = true ∨ 40 < sizeF c ∨ 6 < s.length ∨ 200 < most ∨ 3 < n
  · exact everySays_out h most n hout w hw
  · have h1 : bigF c 30 = false := by
      cases hb : bigF c 30 with
      | false => rfl
      | true => exact absurd (.inl hb) hout
    have h2 : sizeF c ≤ 40 := by
      by_cases h : 40 < sizeF c
      · exact absurd (.inr (.inl h)) hout
      · omega
    have h3 : s.length ≤ 6 := by
      by_cases h : 6 < s.length
      · exact absurd (.inr (.inr (.inl h))) hout
      · omega
    have h4 : most ≤ 200 := by
      by_cases h : 200 < most
      · exact absurd (.inr (.inr (.inr (.inl h)))) hout
      · omega
    have h5 : n ≤ 3 := by
      by_cases h : 3 < n
      · exact absurd (.inr (.inr (.inr (.inr h)))) hout
      · omega
    exact everySays_in h most n hm hn hs h1 h2 h3 h4 h5 w hw

set_option maxRecDepth 100000 in
theorem everySays_lifted (os : Os) (started : os.Started) (H : Type) (enc : TypeId × Value → H) :
    ReturnsInHanded {} Try.checked os 5 .any (Rows.everySaysSpec.pre6 enc Try.prog Try.f5 Rows.everySaysRow.domain false) (Rows.everySaysSpec.post enc Try.prog Try.f5 false true false false) := by
  refine returnsInHanded_of_change (C := Try.checked) Try.own started (by kernel_rfl) Try.func5
    (ChangeSpec.witness6 (enc := enc) (C := Try.checked) false ⟨#[], #[.agg #[.int .i64 0, .int .u64 0, .int .u64 0, .int .u64 0, .int .u64 0, .int .i64 0, .slice none 0 0], .slice none 0 0, .int .i64 0, .int .i64 0], []⟩ 8 (by kernel_rfl) (by kernel_rfl) (by kernel_rfl) (by kernel_rfl)) ?_
  intro W base args ds gs before hval0 hW _ _
  have hval : ∀ (j : Nat) t v, Try.f5.params[j]? = some t → args[j]? = some v → Value.okWide Try.prog W .any base t v := hval0
  have hW' := hW
  obtain ⟨p, q, hA0, hV, rfl, hfz, hnd⟩ := hW
  have hA : DataW.TrodAll enc Try.prog W 0 (fun _ => true) true Try.f5.params.toList args.toList ds p := hA0
  rw [Try.params5] at hA hval
  obtain ⟨v0, v1, v2, v3, d0, d1, d2, d3, p0, p1, p2, p3, rfl, rfl, rfl, h0, h1, h2, h3⟩ := trodAll_four hA
  obtain ⟨rfl, rfl⟩ := trodVars_none hV
  clear hA0 hval0 hfz hnd hV hA
  simp only [List.append_nil] at hW'
  have hlt := fun x hx => hW'.lt x hx
  obtain ⟨r, c, rfl, hc⟩ := core_arg (hval 0 _ v0 rfl rfl) h0
  obtain ⟨sa, s, sc, rfl, hs⟩ := bytes_open (hval 1 28 v1 rfl rfl) h1
  have h2' := h2
  obtain ⟨most, rfl, rfl, rfl, wm⟩ := open_int Try.underlying3 (hval 2 3 v2 rfl rfl) h2
  have h3' := h3
  obtain ⟨n, rfl, rfl, rfl, wn⟩ := open_int Try.underlying3 (hval 3 3 v3 rfl rfl) h3
  refine (everySays_any hc most n (lit_i64 wm) (lit_i64 wn) hs W (fut_all W)).mono fun e W' ⟨he, hG⟩ => ?_
  subst he
  refine ⟨_, rfl, post_true hW' rfl (trodAll_mk1 (shut_bool Try.underlying4 true)) ?_ rfl hG ⟨rfl, rfl⟩⟩
  have := trodAll_mk4 (arg_stays (by kernel_rfl) (of_decide_eq_true (by kernel_rfl)) h0 hG (fun x hx => by simpa using hlt x (by simp [hx])))
    (arg_stays (by kernel_rfl) (of_decide_eq_true (by kernel_rfl)) h1 hG (fun x hx => by simpa using hlt x (by simp [hx])))
    (arg_stays (by kernel_rfl) (of_decide_eq_true (by kernel_rfl)) h2' hG (fun x hx => by simp at hx))
    (arg_stays (by kernel_rfl) (of_decide_eq_true (by kernel_rfl)) h3' hG (fun x hx => by simp at hx))
  simp only [List.append_assoc]
  exact this

theorem everySays_holds : Rows.EverySaysSaid :=
  OpenClaim.holds_of_wide 5 Try.f5 rfl rfl rfl rfl rfl rfl rfl ⟨rfl, rfl, rfl, rfl, rfl⟩ rfl rfl rfl rfl rfl (by kernel_rfl) Try.func5 (by kernel_rfl)
    (of_decide_eq_true (by kernel_rfl)) (by unfold Func.isWrapper; rw [if_neg (of_decide_eq_false (by kernel_rfl))]; exact ⟨rfl, rfl⟩)
    (fun os started H enc _ => everySays_lifted os started H enc)
end Go.Proofs.Ytjodmimnbpgfcaa
