/- The row of 'EveryKnown': for every start, the law returns true; there is no argument, and nothing that was there is turned. No condition. -/
import Derived.Test.YtjodmimnbpgfcaaM39
import Derived.Test.YtjodmimnbpgfcaaM37

/- CK -/
namespace Go.Proofs.Ytjodmimnbpgfcaa
open Go.RowKit Go.ChangeShapes Go.WideShapes Go.ChangeAt Go.Deep

set_option maxRecDepth 100000 in
theorem everyKnown_lifted (os : Os) (started : os.Started) (H : Type) (enc : TypeId × Value → H) :
    ReturnsInHanded {} Try.checked os 4 .any (Rows.everyKnownSpec.pre6 enc Try.prog Try.f4 Rows.everyKnownRow.domain false) (Rows.everyKnownSpec.post enc Try.prog Try.f4 false true false false) := by
  refine returnsInHanded_of_change (C := Try.checked) Try.own started (by kernel_rfl) Try.func4
    (ChangeSpec.witness6 (enc := enc) (C := Try.checked) false ⟨#[], #[], []⟩ 8 (by kernel_rfl) (by kernel_rfl) (by kernel_rfl) (by kernel_rfl)) ?_
  intro W base args ds gs before _ hW _ _
  have hW' := hW
  obtain ⟨p, q, hA0, hV, rfl, hfz, hnd⟩ := hW
  have hA : DataW.TrodAll enc Try.prog W 0 (fun _ => true) true Try.f4.params.toList args.toList ds p := hA0
  rw [Try.params4] at hA
  obtain ⟨h1, rfl, rfl⟩ := trodAll_nil hA
  obtain ⟨rfl, rfl⟩ := trodVars_none hV
  obtain rfl : args = #[] := by simpa using h1
  clear hA0 hfz hnd hV hA h1
  refine (everyKnown_any W (fut_all W)).mono fun e W' ⟨he, hG⟩ => ?_
  subst he
  exact ⟨_, rfl, post_true hW' rfl (trodAll_mk1 (shut_bool Try.underlying4 true)) trodAll_mk0 rfl hG ⟨rfl, rfl⟩⟩

theorem everyKnown_holds : Rows.EveryKnownSaid :=
  OpenClaim.holds_of_wide 4 Try.f4 rfl rfl rfl rfl rfl rfl rfl ⟨rfl, rfl, rfl, rfl, rfl⟩ rfl rfl rfl rfl rfl (by kernel_rfl) Try.func4 (by kernel_rfl)
    (of_decide_eq_true (by kernel_rfl)) (by unfold Func.isWrapper; rw [if_neg (of_decide_eq_false (by kernel_rfl))]; exact ⟨rfl, rfl⟩)
    (fun os started H enc _ => everyKnown_lifted os started H enc)
end Go.Proofs.Ytjodmimnbpgfcaa
