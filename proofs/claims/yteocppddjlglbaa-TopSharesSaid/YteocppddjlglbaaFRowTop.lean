/- TopShares: true at every input; what is read is read as before. No condition. -/
import Derived.Test.YteocppddjlglbaaFLaw
import Derived.Test.YteocppddjlglbaaFRowT
set_option linter.unusedVariables false
set_option linter.unusedSimpArgs false
set_option maxRecDepth 20000

open Go Go.AM Go.AM.F
namespace Go.Proofs.Yteocppddjlglbaa

set_option maxRecDepth 100000 in
theorem topShares_lifted (os : Os) (started : os.Started) (H : Type) (enc : TypeId × Value → H) :
    ReturnsInHanded {} Try.checked os 3 .any (Rows.topSharesSpec.pre6 enc Try.prog Try.f3 Rows.topSharesRow.domain false) (Rows.topSharesSpec.post enc Try.prog Try.f3 false true false false) := by
  refine returnsInHanded_of_change (C := Try.checked) Try.own started (by kernel_rfl) Try.func3
    (ChangeSpec.witness6 (enc := enc) (C := Try.checked) false ⟨#[], #[.slice none 0 0, .agg #[.int .i64 0, .int .i64 0]], []⟩ 8 (by kernel_rfl) (by kernel_rfl) (by kernel_rfl) (by kernel_rfl)) ?_
  intro W base args ds gs before hval hW _ _
  refine row_calls (m := 6) E_ok X0_ok mixed Try.laidOut rfl rfl (tb := 4) (by kernel_rfl) (by decide +kernel) (fun ds hds => ?_) (fun avs h => ?_) hval hW
  · match ds, hds with
    | [d0, d1], _ => rfl
  · rw [Try.params3] at h
    obtain ⟨w0, q0, rfl, hv0, w1, q1, rfl, hv1, rfl⟩ := h
    obtain ⟨l, rfl, ll⟩ := hasLots hv0
    obtain ⟨p1, p2, rfl⟩ := hasPair hv1
    exact c3 l p1 p2

theorem topShares_holds : Rows.TopSharesSaid :=
  OpenClaim.holds_of_wide 3 Try.f3 rfl rfl rfl rfl rfl rfl rfl ⟨rfl, rfl, rfl, rfl, rfl⟩ rfl rfl rfl rfl rfl (by kernel_rfl) Try.func3 (by kernel_rfl)
    (of_decide_eq_true (by kernel_rfl)) (by unfold Func.isWrapper; first | (rw [if_pos (by decide +kernel)]; kernel_rfl) | (rw [if_neg (by decide +kernel)]; exact ⟨rfl, rfl⟩))
    (fun os started H enc _ => topShares_lifted os started H enc)

end Go.Proofs.Yteocppddjlglbaa

