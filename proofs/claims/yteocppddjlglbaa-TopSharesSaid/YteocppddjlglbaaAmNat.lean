/-
Loops that count.
-/
import Derived.Test.YteocppddjlglbaaAmR
set_option linter.unusedVariables false
set_option linter.unusedSimpArgs false

namespace Go.AM
open Go

section
variable {E : Env} {X : Ext} {fc : FC} {base : Nat} {b : Code}

theorem loop_nat {σ : Type} {K : Option (Ex × St) → Prop} {s0 : St} (n : Nat) (vs : Nat → σ → List (Nat × V)) (os : Nat → σ → List (Nat × Ob)) (I : Nat → σ → Prop) (c0 : σ)
    (hn : n ≤ 1000000000000) (h0 : s0 = s0.with (vs 0 c0) (os 0 c0)) (hI : I 0 c0)
    (hend : ∀ c, I n c → after fc b (den E X fc base b (s0.with (vs n c) (os n c))) (fun _ => False) (fun q => K (some q)))
    (hstep : ∀ i c, I i c → i < n → (i : Int) < n → IntKind.i64.wrap ((i : Int) + 1) = ((i + 1 : Nat) : Int) →
      after fc b (den E X fc base b (s0.with (vs i c) (os i c))) (fun s => ∃ c', s = s0.with (vs (i + 1) c') (os (i + 1) c') ∧ I (i + 1) c') (fun q => K (some q))) : ∀ r, loopAt E X fc base b s0 = r → K r := by
  refine loop_inv (ι := { p : Nat × σ // p.1 ≤ n ∧ I p.1 p.2 }) (fun i => vs i.1.1 i.1.2) (fun i => os i.1.1 i.1.2) (fun i => n - i.1.1) ⟨(0, c0), Nat.zero_le _, hI⟩ h0 ?_
  rintro ⟨⟨i, c⟩, hi, hc⟩
  dsimp only at hi hc ⊢
  rcases Nat.lt_or_ge i n with h | h
  · have := hstep i c hc h (by omega) (by rw [Go.IntWalk.i64_in _ (by omega)]; simp)
    revert this
    cases den E X fc base b (s0.with (vs i c) (os i c)) with
    | none => exact fun h => h
    | some p =>
      obtain ⟨e, s⟩ := p
      cases e with
      | normal =>
        rintro ⟨c', h1, h2⟩
        exact ⟨⟨(i + 1, c'), h, h2⟩, h1, by dsimp only; omega⟩
      | exit i => exact fun h => h
      | ret => exact fun h => h
  · obtain rfl : i = n := by omega
    have := hend c hc
    revert this
    cases den E X fc base b (s0.with (vs i c) (os i c)) with
    | none => exact fun h => h
    | some p =>
      obtain ⟨e, s⟩ := p
      cases e with
      | normal => exact fun h => h.elim
      | exit i => exact fun h => h
      | ret => exact fun h => h
end
end Go.AM

