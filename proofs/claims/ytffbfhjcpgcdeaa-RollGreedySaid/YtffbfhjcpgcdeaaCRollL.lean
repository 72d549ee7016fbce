import Derived.Test.YtffbfhjcpgcdeaaCRollK
set_option linter.unusedVariables false
set_option linter.unusedSimpArgs false
set_option maxRecDepth 20000

namespace Go.AM.C
open Go Go.Proofs

theorem hold_step {ms : List Mk} {l : List Art} {us : List Int} (hr : rightB us ms.length = true) (hc : coverB ms l us = true) (hl : validA l = 0) : ∀ {ps : List (Int × Int)} {e : Int}, 0 ≤ e → e ≤ (ms.length : Int) → checkL ms l e ps = 0 → sumP l ps + at0 us e.toNat ≤ at0 us ms.length
  | [], e, h0, h1, _ => by
    have := sort_le (right_iff.1 hr).2.2.1 (i := e.toNat) (j := ms.length) (by omega) (by have := (right_iff.1 hr).1; omega)
    simp [sumP]
    exact this
  | p :: ps, e, h0, h1, h => by
    rw [checkL] at h
    split at h
    · rename_i hf
      split at h
      · cases h
      · rename_i hlt
        obtain ⟨a, f1, f2, f3, f4, f5, f6, f7, _⟩ := fits_in hf
        have hmem := List.mem_of_getElem? f1
        have a2 := (validA_len hl).2 a hmem
        rw [f6] at h
        have ih := hold_step hr hc hl (ps := ps) (e := p.1 + a.len) (by omega) (by omega) h
        have h2 := coverB_iff.1 hc a hmem p.1.toNat (by omega)
        unfold coverI at h2
        rw [fitsM_some f2 f1] at hf
        rw [Int.toNat_of_nonneg f4, hf] at h2
        simp only [Bool.not_true, Bool.false_or, decide_eq_true_eq] at h2
        have h3 := sort_le (right_iff.1 hr).2.2.1 (i := e.toNat) (j := p.1.toNat) (by omega) (by have := (right_iff.1 hr).1; omega)
        have h4 : sumP l (p :: ps) = priceAt l p.2 + sumP l ps := by simp [sumP]
        rw [h4, f7]
        rw [show (p.1 + a.len).toNat = p.1.toNat + a.len.toNat by omega] at ih
        omega
    · cases h

end Go.AM.C

