/- RollRecords: true at every input; what is read is read as before. No condition. -/
import Derived.Test.YtffbfhjcpgcdeaaCLaw12
import Derived.Test.YtffbfhjcpgcdeaaCRowU
set_option linter.unusedVariables false
set_option linter.unusedSimpArgs false
set_option maxRecDepth 20000

open Go Go.AM Go.AM.C
namespace Go.Proofs.Ytffbfhjcpgcdeaa

set_option maxRecDepth 100000 in
theorem rollRecords_lifted (os : Os) (started : os.Started) (H : Type) (enc : TypeId × Value → H) :
    ReturnsInHanded {} Try.checked os 12 .any (Rows.rollRecordsSpec.pre6 enc Try.prog Try.f12 Rows.rollRecordsRow.domain false) (Rows.rollRecordsSpec.post enc Try.prog Try.f12 false true false false) := by
  refine returnsInHanded_of_change (C := Try.checked) Try.own started (by kernel_rfl) Try.func12
    (ChangeSpec.witness6 (enc := enc) (C := Try.checked) false ⟨#[], #[.slice none 0 0, .slice none 0 0, .agg #[.slice none 0 0, .int .i64 0, .int .i64 0]], []⟩ 8 (by kernel_rfl) (by kernel_rfl) (by kernel_rfl) (by kernel_rfl)) ?_
  intro W base args ds gs before hval hW _ _
  refine row_calls (m := 6) E_ok X0_ok mixed Try.laidOut rfl rfl (tb := 4) (by kernel_rfl) (by decide +kernel) (fun ds hds => ?_) (fun avs h => ?_) hval hW
  · match ds, hds with
    | [d0, d1, d2], _ => rfl
  · rw [Try.params12] at h
    obtain ⟨w0, q0, rfl, hv0, w1, q1, rfl, hv1, w2, q2, rfl, hv2, rfl⟩ := h
    obtain ⟨b, rfl⟩ := has22 hv0
    obtain ⟨l, rfl⟩ := hasArts hv1
    obtain ⟨x1, x2, x3, rfl⟩ := hasRecd hv2
    exact c12 b l x1 x2 x3

theorem rollRecords_holds : Rows.RollRecordsSaid :=
  OpenClaim.holds_of_wide 12 Try.f12 rfl rfl rfl rfl rfl rfl rfl ⟨rfl, rfl, rfl, rfl, rfl⟩ rfl rfl rfl rfl rfl (by kernel_rfl) Try.func12 (by kernel_rfl)
    (of_decide_eq_true (by kernel_rfl)) (by unfold Func.isWrapper; first | (rw [if_pos (by decide +kernel)]; kernel_rfl) | (rw [if_neg (by decide +kernel)]; exact ⟨rfl, rfl⟩))
    (fun os started H enc _ => rollRecords_lifted os started H enc)

end Go.Proofs.Ytffbfhjcpgcdeaa

