/- FloorLays: true at every input; what is read is read as before. No condition. -/
import Derived.Test.YtejjeckiplihbaaDRowV
set_option linter.unusedSimpArgs false
set_option maxRecDepth 20000

open Go Go.AM Go.AM.D
namespace Go.Proofs.Ytejjeckiplihbaa

set_option maxRecDepth 100000 in
theorem floorLays_lifted (os : Os) (started : os.Started) (H : Type) (enc : TypeId × Value → H) :
    ReturnsInHanded {} Try.checked os 9 .any (Rows.floorLaysSpec.pre6 enc Try.prog Try.f9 Rows.floorLaysRow.domain false) (Rows.floorLaysSpec.post enc Try.prog Try.f9 false true false false) := by
  refine returnsInHanded_of_change (C := Try.checked) Try.own started (by kernel_rfl) Try.func9
    (ChangeSpec.witness6 (enc := enc) (C := Try.checked) false ⟨#[], #[.agg #[.int .i64 0, .int .i64 0, .int .i64 0, .slice none 0 0, .int .i64 0, .slice none 0 0, .slice none 0 0, .int .i64 0, .slice none 0 0], .int .i64 0, .int .i64 0], []⟩ 8 (by kernel_rfl) (by kernel_rfl) (by kernel_rfl) (by kernel_rfl)) ?_
  intro W base args ds gs before hval hW _ _
  refine row_calls (m := 6) E_ok X0_ok mixed Try.laidOut rfl rfl (tb := 4) (by kernel_rfl) (by decide +kernel) (fun ds hds => ?_) (fun avs h => ?_) hval hW
  · match ds, hds with
    | [d0, d1, d2], _ => rfl
  · rw [Try.params9] at h
    obtain ⟨w0, q0, rfl, hv0, w1, q1, rfl, hv1, w2, q2, rfl, hv2, rfl⟩ := h
    obtain ⟨l, rfl⟩ := hasLay hv0
    obtain ⟨x, rfl, xb⟩ := hasI hv1
    obtain ⟨y, rfl, _⟩ := hasI hv2
    exact c9 l x y xb

theorem floorLays_holds : Rows.FloorLaysSaid :=
  OpenClaim.holds_of_wide 9 Try.f9 rfl rfl rfl rfl rfl rfl rfl ⟨rfl, rfl, rfl, rfl, rfl⟩ rfl rfl rfl rfl rfl (by kernel_rfl) Try.func9 (by kernel_rfl)
    (of_decide_eq_true (by kernel_rfl)) (by unfold Func.isWrapper; first | (rw [if_pos (by decide +kernel)]; kernel_rfl) | (rw [if_neg (by decide +kernel)]; exact ⟨rfl, rfl⟩))
    (fun os started H enc _ => floorLays_lifted os started H enc)

end Go.Proofs.Ytejjeckiplihbaa
