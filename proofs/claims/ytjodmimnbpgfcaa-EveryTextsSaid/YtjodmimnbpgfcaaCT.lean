/- The row of 'EveryTexts': for every core, every number and every text that can be read, the law returns true, the arguments read as they did, and nothing that was there is turned. No condition. -/
import Derived.Test.YtjodmimnbpgfcaaM36
import Derived.Test.YtjodmimnbpgfcaaM37

/- CT -/
namespace Go.Proofs.Ytjodmimnbpgfcaa
open Go.RowKit Go.ChangeShapes Go.WideShapes Go.ChangeAt Go.Deep

set_option maxRecDepth 100000 in
theorem everyTexts_lifted (os : Os) (started : os.Started) (H : Type) (enc : TypeId × Value → H) :
    ReturnsInHanded {} Try.checked os 3 .any (Rows.everyTextsSpec.pre6 enc Try.prog Try.f3 Rows.everyTextsRow.domain false) (Rows.everyTextsSpec.post enc Try.prog Try.f3 false true false false) := by
  refine returnsInHanded_of_change (C := Try.checked) Try.own started (by kernel_rfl) Try.func3
    (ChangeSpec.witness6 (enc := enc) (C := Try.checked) false ⟨#[], #[.agg #[.int .i64 0, .int .u64 0, .int .u64 0, .int .u64 0, .int .u64 0, .int .i64 0, .slice none 0 0], .int .i64 0, .slice none 0 0], []⟩ 8 (by kernel_rfl) (by kernel_rfl) (by kernel_rfl) (by kernel_rfl)) ?_
  intro W base args ds gs before hval0 hW _ _
  have hval : ∀ (j : Nat) t v, Try.f3.params[j]? = some t → args[j]? = some v → Value.okWide Try.prog W .any base t v := hval0
  have hW' := hW
  obtain ⟨p, q, hA0, hV, rfl, hfz, hnd⟩ := hW
  have hA : DataW.TrodAll enc Try.prog W 0 (fun _ => true) true Try.f3.params.toList args.toList ds p := hA0
  rw [Try.params3] at hA hval
  obtain ⟨v0, v1, v2, d0, d1, d2, p0, p1, p2, rfl, rfl, rfl, h0, h1, h2⟩ := trodAll_three hA
  obtain ⟨rfl, rfl⟩ := trodVars_none hV
  clear hA0 hval0 hfz hnd hV hA
  simp only [List.append_nil] at hW'
  have hlt := fun x hx => hW'.lt x hx
  obtain ⟨r, c, rfl, hc⟩ := core_arg (hval 0 _ v0 rfl rfl) h0
  have h1' := h1
  obtain ⟨n, rfl, rfl, rfl, wn⟩ := open_int Try.underlying3 (hval 1 3 v1 rfl rfl) h1
  obtain ⟨sa, s, sc, rfl, hs⟩ := bytes_open (hval 2 28 v2 rfl rfl) h2
  refine (everyTexts_any hc n (lit_i64 wn) hs W (fut_all W)).mono fun e W' ⟨he, hG⟩ => ?_
  subst he
  refine ⟨_, rfl, post_true hW' rfl (trodAll_mk1 (shut_bool Try.underlying4 true)) ?_ rfl hG ⟨rfl, rfl⟩⟩
  have := trodAll_mk3 (arg_stays (by kernel_rfl) (of_decide_eq_true (by kernel_rfl)) h0 hG (fun x hx => by simpa using hlt x (by simp [hx])))
    (arg_stays (by kernel_rfl) (of_decide_eq_true (by kernel_rfl)) h1' hG (fun x hx => by simp at hx))
    (arg_stays (by kernel_rfl) (of_decide_eq_true (by kernel_rfl)) h2 hG (fun x hx => by simpa using hlt x (by simp [hx])))
  simp only [List.append_assoc]
  exact this

theorem everyTexts_holds : Rows.EveryTextsSaid :=
  OpenClaim.holds_of_wide 3 Try.f3 rfl rfl rfl rfl rfl rfl rfl ⟨rfl, rfl, rfl, rfl, rfl⟩ rfl rfl rfl rfl rfl (by kernel_rfl) Try.func3 (by kernel_rfl)
    (of_decide_eq_true (by kernel_rfl)) (by unfold Func.isWrapper; rw [if_neg (of_decide_eq_false (by kernel_rfl))]; exact ⟨rfl, rfl⟩)
    (fun os started H enc _ => everyTexts_lifted os started H enc)
end Go.Proofs.Ytjodmimnbpgfcaa
