/-
No accepted amounts cost less than an accepted bound (plain).
-/
import Derived.Test.YtkacpekakpbalaaEComp
set_option linter.unusedVariables false
set_option linter.unusedSimpArgs false
set_option maxRecDepth 20000

namespace Go.AM.E
open Go Go.AM Go.Proofs

theorem costR_ok {b : Blend} {x : Amts} (h : checkE b x = 0) : costR b x = makeR (costM b x.x) x.den := by
  obtain ⟨hv, hr, _⟩ := checkE_zero h
  unfold costR
  rw [if_pos (errV_yes hv), if_pos (rightM_iff.2 hr)]
theorem boundR_ok {b : Blend} {p : Pr} (h : (boundR b p).2.2 = 0) : Valid b ∧ RightP b p ∧ (∀ i, i < b.cs.length → gainAt b p i ≤ p.den * coAt b i) ∧ boundR b p = makeR (valueM b p) p.den := by
  unfold boundR at h ⊢
  split at h
  · rename_i h1
    rw [if_pos h1]
    split at h
    · rename_i h2
      rw [if_pos h2]
      split at h
      · cases h
      · rename_i h3
        rw [if_neg h3]
        exact ⟨errV_zero h1, rightP_iff.1 h2, fun i hi => by have := dear_iff.1 (by simpa using h3) i hi; omega, rfl⟩
    · cases h
  · cases h
/-- Nothing is accepted beside a proof. -/
theorem proof_none {b : Blend} {x : Amts} {p : Pr} (hx : checkE b x = 0) : proofB b p = false := by
  cases hp : proofB b p with
  | false => rfl
  | true =>
    obtain ⟨hv, hr, hg, hV⟩ := proofB_iff.1 hp
    obtain ⟨_, rx, _⟩ := checkE_zero hx
    have := weak_all (d := 0) hv (fun n hn => (hr.2.2.2.2.2.1 n hn).1) (fun n hn => (hr.2.2.2.2.2.2.1 n hn).1) (fun n hn => (hr.2.2.2.2.2.2.2 n hn).1) hx (fun i hi => by have := hg i hi; omega)
    rw [Int.zero_mul] at this
    have h1 := Int.mul_pos (show 0 < x.den by have := rx.1; omega) hV
    omega
/-- An accepted bound is at most the cost of accepted amounts. -/
theorem bound_le {b : Blend} {x : Amts} {p : Pr} {n d m e : Int} (hx : checkE b x = 0) (h1 : costR b x = (n, d, 0)) (h2 : boundR b p = (m, e, 0)) : Rat' (n, d) ∧ Rat' (m, e) ∧ m * d ≤ n * e := by
  obtain ⟨_, rx, _⟩ := checkE_zero hx
  obtain ⟨hv, hr, hg, hB⟩ := boundR_ok (b := b) (p := p) (by rw [h2])
  rw [costR_ok hx] at h1
  rw [hB] at h2
  have d1 := rx.1
  have d2 := hr.1
  refine ⟨(make_ok d1.1 h1).1, (make_ok d2.1 h2).1, make_le d1.1 d2.1 h1 h2 ?_⟩
  have := weak_all (d := p.den) hv (fun n hn => (hr.2.2.2.2.2.1 n hn).1) (fun n hn => (hr.2.2.2.2.2.2.1 n hn).1) (fun n hn => (hr.2.2.2.2.2.2.2 n hn).1) hx hg
  rw [Int.mul_comm] at this
  rw [Int.mul_comm p.den] at this
  exact this
end Go.AM.E
