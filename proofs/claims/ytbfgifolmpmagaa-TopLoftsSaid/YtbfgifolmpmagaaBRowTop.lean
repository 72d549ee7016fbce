/- TopLofts: true at every input; what is read is read as before. No condition. -/
import Derived.Test.YtbfgifolmpmagaaBTopLB
import Derived.Test.YtbfgifolmpmagaaBRowU
set_option linter.unusedVariables false
set_option linter.unusedSimpArgs false

open Go Go.AM Go.AM.B
namespace Go.Proofs.Ytbfgifolmpmagaa

set_option maxRecDepth 100000 in
theorem topLofts_lifted (os : Os) (started : os.Started) (H : Type) (enc : TypeId × Value → H) :
    ReturnsInHanded {} Try.checked os 15 .any (Rows.topLoftsSpec.pre6 enc Try.prog Try.f15 Rows.topLoftsRow.domain false) (Rows.topLoftsSpec.post enc Try.prog Try.f15 false true false false) := by
  refine returnsInHanded_of_change (C := Try.checked) Try.own started (by kernel_rfl) Try.func15
    (ChangeSpec.witness6 (enc := enc) (C := Try.checked) false ⟨#[], #[.agg #[.slice none 0 0, .slice none 0 0], .slice none 0 0, .agg #[.int .i64 0, .int .i64 0]], []⟩ 8 (by kernel_rfl) (by kernel_rfl) (by kernel_rfl) (by kernel_rfl)) ?_
  intro W base args ds gs before hval hW _ _
  refine row_calls (m := 6) E_ok X0_ok mixed Try.laidOut rfl rfl (tb := 4) (by kernel_rfl) (by decide +kernel) (fun ds hds => ?_) (fun avs h => ?_) hval hW
  · match ds, hds with
    | [d0, d1, d2], _ => rfl
  · rw [Try.params15] at h
    obtain ⟨w0, q0, rfl, hv0, w1, q1, rfl, hv1, w2, q2, rfl, hv2, rfl⟩ := h
    obtain ⟨wl, wg, rfl⟩ := hasWorks hv0
    obtain ⟨p, rfl, pl⟩ := hasLoads hv1
    obtain ⟨x1, x2, rfl⟩ := hasSpan hv2
    exact c15 wl wg p x1 x2

theorem topLofts_holds : Rows.TopLoftsSaid :=
  OpenClaim.holds_of_wide 15 Try.f15 rfl rfl rfl rfl rfl rfl rfl ⟨rfl, rfl, rfl, rfl, rfl⟩ rfl rfl rfl rfl rfl (by kernel_rfl) Try.func15 (by kernel_rfl)
    (of_decide_eq_true (by kernel_rfl)) (by unfold Func.isWrapper; first | (rw [if_pos (by decide +kernel)]; kernel_rfl) | (rw [if_neg (by decide +kernel)]; exact ⟨rfl, rfl⟩))
    (fun os started H enc _ => topLofts_lifted os started H enc)

end Go.Proofs.Ytbfgifolmpmagaa

