/- BlendWithout: true at every input; what is read is read as before. No condition. -/
import Derived.Test.YtkacpekakpbalaaEWithG
import Derived.Test.YtkacpekakpbalaaERowG
set_option linter.unusedVariables false
set_option linter.unusedSimpArgs false
set_option maxRecDepth 20000

open Go Go.AM Go.AM.E
namespace Go.Proofs.Ytkacpekakpbalaa

set_option maxRecDepth 100000 in
theorem blendWithout_lifted (os : Os) (started : os.Started) (H : Type) (enc : TypeId × Value → H) :
    ReturnsInHanded {} Try.checked os 13 .any (Rows.blendWithoutSpec.pre6 enc Try.prog Try.f13 Rows.blendWithoutRow.domain false) (Rows.blendWithoutSpec.post enc Try.prog Try.f13 false true false false) := by
  refine returnsInHanded_of_change (C := Try.checked) Try.own started (by kernel_rfl) Try.func13
    (ChangeSpec.witness6 (enc := enc) (C := Try.checked) false ⟨#[], #[.agg #[.int .i64 0, .slice none 0 0, .slice none 0 0, .slice none 0 0], .int .i64 0], []⟩ 8 (by kernel_rfl) (by kernel_rfl) (by kernel_rfl) (by kernel_rfl)) ?_
  intro W base args ds gs before hval hW _ _
  refine row_calls (m := 6) E_ok XV_ok mixed Try.laidOut rfl rfl (tb := 4) (by kernel_rfl) (by decide +kernel) (fun ds hds => ?_) (fun avs h => ?_) hval hW
  · match ds, hds with
    | [d0, d1], _ => rfl
  · rw [Try.params13] at h
    obtain ⟨w0, q0, rfl, hv0, w1, q1, rfl, hv1, rfl⟩ := h
    obtain ⟨b, rfl⟩ := hasBlend hv0
    obtain ⟨c, rfl, _⟩ := hasI hv1
    exact c13 b c

theorem blendWithout_holds : Rows.BlendWithoutSaid :=
  OpenClaim.holds_of_wide 13 Try.f13 rfl rfl rfl rfl rfl rfl rfl ⟨rfl, rfl, rfl, rfl, rfl⟩ rfl rfl rfl rfl rfl (by kernel_rfl) Try.func13 (by kernel_rfl)
    (of_decide_eq_true (by kernel_rfl)) (by unfold Func.isWrapper; first | (rw [if_pos (by decide +kernel)]; kernel_rfl) | (rw [if_neg (by decide +kernel)]; exact ⟨rfl, rfl⟩))
    (fun os started H enc _ => blendWithout_lifted os started H enc)

end Go.Proofs.Ytkacpekakpbalaa

