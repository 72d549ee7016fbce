/- FloorMoves: true at every input; what is read is read as before. No condition. -/
import Derived.Test.YtejjeckiplihbaaDMoves
import Derived.Test.YtejjeckiplihbaaDRowT
set_option linter.unusedSimpArgs false

open Go Go.AM Go.AM.D
namespace Go.Proofs.Ytejjeckiplihbaa

set_option maxRecDepth 100000 in
theorem floorMoves_lifted (os : Os) (started : os.Started) (H : Type) (enc : TypeId × Value → H) :
    ReturnsInHanded {} Try.checked os 3 .any (Rows.floorMovesSpec.pre6 enc Try.prog Try.f3 Rows.floorMovesRow.domain false) (Rows.floorMovesSpec.post enc Try.prog Try.f3 false true false false) := by
  refine returnsInHanded_of_change (C := Try.checked) Try.own started (by kernel_rfl) Try.func3
    (ChangeSpec.witness6 (enc := enc) (C := Try.checked) false ⟨#[], #[.agg #[.slice none 0 0, .slice none 0 0], .agg #[.int .i64 0, .int .i64 0], .int .i64 0], []⟩ 8 (by kernel_rfl) (by kernel_rfl) (by kernel_rfl) (by kernel_rfl)) ?_
  intro W base args ds gs before hval hW _ _
  refine row_calls (m := 6) E_ok X0_ok mixed Try.laidOut rfl rfl (tb := 4) (by kernel_rfl) (by decide +kernel) (fun ds hds => ?_) (fun avs h => ?_) hval hW
  · match ds, hds with
    | [d0, d1, d2], _ => rfl
  · rw [Try.params3] at h
    obtain ⟨w0, q0, rfl, hv0, w1, q1, rfl, hv1, w2, q2, rfl, hv2, rfl⟩ := h
    obtain ⟨r, rfl⟩ := hasRoom hv0
    obtain ⟨l1, l2, rfl⟩ := hasLines hv1
    obtain ⟨d, rfl, _⟩ := hasI hv2
    exact c3 r l1 l2 d

theorem floorMoves_holds : Rows.FloorMovesSaid :=
  OpenClaim.holds_of_wide 3 Try.f3 rfl rfl rfl rfl rfl rfl rfl ⟨rfl, rfl, rfl, rfl, rfl⟩ rfl rfl rfl rfl rfl (by kernel_rfl) Try.func3 (by kernel_rfl)
    (of_decide_eq_true (by kernel_rfl)) (by unfold Func.isWrapper; first | (rw [if_pos (by decide +kernel)]; kernel_rfl) | (rw [if_neg (by decide +kernel)]; exact ⟨rfl, rfl⟩))
    (fun os started H enc _ => floorMoves_lifted os started H enc)

end Go.Proofs.Ytejjeckiplihbaa
