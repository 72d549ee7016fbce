import Derived.Test.YtdipdaajicceoaaABandH
import Derived.Test.YtdipdaajicceoaaAmRow
import Derived.Test.YtdipdaajicceoaaRows
namespace Go.AM.A
open Go Go.Proofs

theorem X0_ok : ExtOk Try.prog X0 := ⟨(fun _ _ _ h => by cases h), (fun _ _ _ _ _ _ h => by cases h)⟩

theorem has3 {n : Nat} {cs : List V} (h : HasC E n 3 cs) : ∃ i, cs = [.int .i64 i] ∧ -9223372036854775808 ≤ i ∧ i ≤ 9223372036854775807 := by
  cases n with
  | zero => exact h.elim
  | succ n => simp only [HasC, ty3, ti3] at h; exact h

theorem has38 {n : Nat} {cs : List V} (h : HasC E n 38 cs) : ∃ a b c, cs = [.int .i64 a, .int .i64 b, .int .i64 c] := by
  cases n with
  | zero => exact h.elim
  | succ n =>
    simp only [HasC, ty38, ti38, List.map_cons, List.map_nil, HasFs] at h
    obtain ⟨x, _, rfl, h1, y, _, rfl, h2, z, _, rfl, h3, rfl⟩ := h
    obtain ⟨a, rfl, _⟩ := has3 h1
    obtain ⟨b, rfl, _⟩ := has3 h2
    obtain ⟨c, rfl, _⟩ := has3 h3
    exact ⟨a, b, c, rfl⟩

theorem has68 {n : Nat} {cs : List V} (h : HasC E n 68 cs) : ∃ r : Run, pack true cs = encRun r := by
  cases n with
  | zero => exact h.elim
  | succ n =>
    simp only [HasC, ty68, ti68, List.map_cons, List.map_nil, HasFs] at h
    obtain ⟨x, _, rfl, h1, y, _, rfl, h2, rfl⟩ := h
    obtain ⟨l, rfl, _⟩ := has3 h1
    obtain ⟨a, b, c, rfl⟩ := has38 h2
    exact ⟨⟨l, a, b, c⟩, rfl⟩

theorem runs_of {vs : List V} (h : ∀ v ∈ vs, ∃ r : Run, v = encRun r) : ∃ rs : List Run, vs = rs.map encRun := by
  induction vs with
  | nil => exact ⟨[], rfl⟩
  | cons v vs ih =>
    obtain ⟨r, rfl⟩ := h v List.mem_cons_self
    obtain ⟨rs, rfl⟩ := ih fun u hu => h u (List.mem_cons_of_mem _ hu)
    exact ⟨r :: rs, rfl⟩

theorem has22 {n : Nat} {v : V} (h : HasV E n 22 v) : ∃ rs : List Run, v = .sl false (rs.map encRun) := by
  obtain ⟨ti, ds, hti, h, rfl⟩ := h
  rw [ty22] at hti
  cases hti
  cases n with
  | zero => exact h.elim
  | succ n =>
    simp only [HasC, ty22, ti22] at h
    obtain ⟨vs, rfl, _, hv⟩ := h
    obtain ⟨rs, rfl⟩ := runs_of fun v hvm => by
      obtain ⟨ei, ds, hei, h, rfl⟩ := hv v hvm
      rw [ty68] at hei
      cases hei
      exact has68 h
    exact ⟨rs, rfl⟩

end Go.AM.A
namespace Go.Proofs.Ytdipdaajicceoaa
open Go.AM Go.AM.A

theorem Try.own : ownKnob Try.prog.godebug = none := by kernel_rfl
theorem Try.laidOut : laidOutB Try.prog = true := by kernel_rfl

theorem bandNormals_lifted (os : Os) (started : os.Started) (H : Type) (enc : TypeId × Value → H) :
    ReturnsInHanded {} Try.checked os 3 .any (Rows.bandNormalsSpec.pre6 enc Try.prog Try.f3 Rows.bandNormalsRow.domain false) (Rows.bandNormalsSpec.post enc Try.prog Try.f3 false true false false) := by
  refine returnsInHanded_of_change (C := Try.checked) Try.own started (by kernel_rfl) Try.func3
    (ChangeSpec.witness6 (enc := enc) (C := Try.checked) false ⟨#[], #[.slice none 0 0], []⟩ 8 (by kernel_rfl) (by kernel_rfl) (by kernel_rfl) (by kernel_rfl)) ?_
  intro W base args ds gs before hval hW _ _
  refine row_calls (m := 6) E_ok X0_ok mixed Try.laidOut rfl rfl (tb := 4) (by kernel_rfl) (by decide +kernel) (fun ds hds => ?_) (fun avs h => ?_) hval hW
  · match ds, hds with
    | [d], _ => rfl
  · rw [Try.params3] at h
    obtain ⟨v, q, rfl, hv, rfl⟩ := h
    obtain ⟨rs, rfl⟩ := has22 hv
    exact c3 rs

theorem bandNormals_holds : Rows.BandNormalsSaid :=
  OpenClaim.holds_of_wide 3 Try.f3 rfl rfl rfl rfl rfl rfl rfl ⟨rfl, rfl, rfl, rfl, rfl⟩ rfl rfl rfl rfl rfl (by kernel_rfl) Try.func3 (by kernel_rfl)
    (of_decide_eq_true (by kernel_rfl)) (by unfold Func.isWrapper; first | (rw [if_pos (by decide +kernel)]; kernel_rfl) | (rw [if_neg (by decide +kernel)]; exact ⟨rfl, rfl⟩))
    (fun os started H enc _ => bandNormals_lifted os started H enc)

end Go.Proofs.Ytdipdaajicceoaa
