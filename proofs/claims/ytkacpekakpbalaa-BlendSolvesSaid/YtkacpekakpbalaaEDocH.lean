/- A part of the proof: the texts EDocV, EFeas, EDocW, ELaw4, one after another. No condition. -/
import Derived.Test.YtkacpekakpbalaaEDocG
import Derived.Test.YtkacpekakpbalaaEDocL
import Derived.Test.YtkacpekakpbalaaEOptQ
set_option linter.unusedVariables false
set_option linter.unusedSimpArgs false
set_option maxRecDepth 20000

section
/-
The least of what the document accepts (plain).
-/
namespace Go.AM.E
open Go LP

theorem frac_nat {a d a' d' : Nat} (hd : 0 < d) (hd' : 0 < d') (h : a * d' = a' * d) : a / Nat.gcd a d = a' / Nat.gcd a' d' ∧ d / Nat.gcd a d = d' / Nat.gcd a' d' := by
  have e1 : Nat.gcd a d * d' = Nat.gcd a' d' * d := by
    rw [← Nat.gcd_mul_right, ← Nat.gcd_mul_right, h, Nat.mul_comm d d']
  constructor
  · rw [← Nat.mul_div_mul_right a (Nat.gcd a d) hd', ← Nat.mul_div_mul_right a' (Nat.gcd a' d') hd, h, e1]
  · rw [← Nat.mul_div_mul_right d (Nat.gcd a d) hd', ← Nat.mul_div_mul_right d' (Nat.gcd a' d') hd, e1, Nat.mul_comm d d']
theorem make_eq {n d n' d' : Int} (hn : 0 ≤ n) (hn' : 0 ≤ n') (hd : 1 ≤ d) (hd' : 1 ≤ d') (h : n * d' = n' * d) : makeR n d = makeR n' d' := by
  have h1 : n.natAbs * d'.natAbs = n'.natAbs * d.natAbs := by rw [← Int.natAbs_mul, ← Int.natAbs_mul, h]
  obtain ⟨e1, e2⟩ := frac_nat (by omega) (by omega) h1
  unfold makeR
  rw [e1, e2, if_neg (show ¬ n < 0 by omega), if_neg (show ¬ n' < 0 by omega)]
theorem lst_spec {b : Blend} (hb : Valid b) : ∀ m, ((lstTo b m).found = false → ∀ n, n < m → accR b n = none) ∧
    ((lstTo b m).found = true → (∃ n, n < m ∧ accR b n = some ((lstTo b m).num, (lstTo b m).den)) ∧ ∀ n c d, n < m → accR b n = some (c, d) → (lstTo b m).num * d ≤ c * (lstTo b m).den)
  | 0 => ⟨fun _ n h => by omega, fun h => by cases h⟩
  | m + 1 => by
    have ih := lst_spec hb m
    have hl := lst_in hb m
    have e : lstTo b (m + 1) = lstStep (lstTo b m) (accR b m) := rfl
    rw [e]
    generalize lstTo b m = s at *
    obtain ⟨num, den, found⟩ := s
    dsimp only at ih hl
    cases ha : accR b m with
    | none =>
      unfold lstStep
      dsimp only
      constructor
      · intro hf n hn
        rcases Nat.lt_or_ge n m with h | h
        · exact ih.1 hf n h
        · rw [show n = m by omega]; exact ha
      · intro hf
        obtain ⟨⟨n, h1, h2⟩, h3⟩ := ih.2 hf
        refine ⟨⟨n, by omega, h2⟩, fun k c d hk hc => ?_⟩
        rcases Nat.lt_or_ge k m with h | h
        · exact h3 k c d h hc
        · rw [show k = m by omega, ha] at hc; cases hc
    | some r =>
      obtain ⟨c0, d0⟩ := r
      have hd0 : 1 ≤ d0 := by
        obtain ⟨hv, _, _, hd⟩ := accR_yes hb ha
        rw [hd]; exact denB_pos hv.base
      unfold lstStep
      dsimp only
      by_cases hc : found = false ∨ c0 * den < num * d0
      · rw [if_pos hc]
        refine ⟨fun h => (by cases h), fun _ => ⟨⟨m, by omega, ha⟩, fun k c d hk hkc => ?_⟩⟩
        dsimp only
        rcases Nat.lt_or_ge k m with h | h
        · have hd1 : 1 ≤ d := by
            obtain ⟨hv, _, _, hd⟩ := accR_yes hb hkc
            rw [hd]; exact denB_pos hv.base
          cases found with
          | false => rw [ih.1 rfl k h] at hkc; cases hkc
          | true =>
            have hc' : c0 * den < num * d0 := by simpa using hc
            have h3 := (ih.2 rfl).2 k c d h hkc
            have m1 := Int.mul_le_mul_of_nonneg_right (Int.le_of_lt hc') (show 0 ≤ d by omega)
            have m2 := Int.mul_le_mul_of_nonneg_right h3 (show 0 ≤ d0 by omega)
            have m3 : (c0 * d) * den ≤ (c * d0) * den := by grind
            exact Int.le_of_mul_le_mul_right m3 (by omega)
        · rw [show k = m by omega, ha] at hkc
          cases hkc
          exact Int.le_refl _
      · rw [if_neg hc]
        have hf : found = true := by cases found <;> simp_all
        subst hf
        have hc' : ¬ c0 * den < num * d0 := fun h => hc (.inr h)
        refine ⟨fun h => (by cases h), fun _ => ?_⟩
        obtain ⟨⟨n, h1, h2⟩, h3⟩ := ih.2 rfl
        refine ⟨⟨n, by omega, h2⟩, fun k c d hk hkc => ?_⟩
        dsimp only
        rcases Nat.lt_or_ge k m with h | h
        · exact h3 k c d h hkc
        · rw [show k = m by omega, ha] at hkc
          cases hkc
          omega
end Go.AM.E
end

section
/-
Accepted amounts are a blend (plain).
-/
namespace Go.AM.E
open Go Go.AM Go.Proofs

def zOf (a : Amts) (i : Nat) : Rat := ((a.x.getD i 0 : Int) : Rat) / (a.den : Rat)
theorem feas_ok {b : Blend} {a : Amts} (h : checkE b a = 0) : FeasR b (zOf a) ∧ ((costM b a.x : Int) : Rat) = (a.den : Rat) * costQ b (zOf a) := by
  obtain ⟨hv, hr, hb⟩ := checkE_zero h
  have ht : Times b a (zOf a) := times_self hr.1.1
  exact ⟨(broken_iff (fun i hi => by rw [getD_in (by have := hr.2.1; omega)]; exact (hr.2.2 _ (List.getElem_mem _)).1) ht).1 hb, cost_cast ht⟩
end Go.AM.E
end

section
/-
The document's least cost is the program's (plain).
-/
namespace Go.AM.E
open Go LP

theorem accR_feas {b : Blend} (hb : Valid b) {n : Nat} {c d : Int} (h : accR b n = some (c, d)) : ∃ z, FeasR b z ∧ (c : Rat) = (d : Rat) * costQ b z ∧ 1 ≤ d ∧ d ≤ 192000 := by
  obtain ⟨hv, ha, hc, hd⟩ := accR_yes hb h
  refine ⟨_, (vx_feas hb hv).1 ha, ?_, ?_⟩
  · rw [hc, hd]; exact vx_cost hb hv
  · rw [hd]; exact denB_small hb hv.base
theorem doc_least (b : Blend) : docR b = leastR b := by
  by_cases hv : Valid b
  rotate_left
  · have he := errV_no hv
    unfold docR leastR
    rw [if_neg (by omega), solveR_err, if_neg (by rw [he]; simp), he]
  have he := errV_yes hv
  unfold docR
  rw [if_pos he]
  dsimp only
  obtain ⟨hno, hyes⟩ := lst_spec hv (3 ^ (b.cs.length + b.lo.length))
  have hin := lst_in hv (3 ^ (b.cs.length + b.lo.length))
  generalize lstTo b (3 ^ (b.cs.length + b.lo.length)) = s at *
  rcases solve_cases hv with ⟨a, p, hs, ho⟩ | ⟨p, hs, _, hnf⟩
  · obtain ⟨hf, hcost⟩ := feas_ok ho.check
    obtain ⟨x, high, full, hx, hh, hfu, hacc, hmin⟩ := vx_least hv ⟨_, hf⟩
    obtain ⟨e1, e2, e3⟩ := numX_ok hv hx hh hfu
    have hsome := accR_some (n := numX b x high full) hv (by rw [e1]; exact hx.base) (by rw [e1, e2, e3]; exact hacc)
    rw [e1, e2, e3] at hsome
    have hlt := numX_lt b x high full
    have hfound : s.found = true := by
      cases hq : s.found with
      | true => rfl
      | false => rw [hno hq _ hlt] at hsome; cases hsome
    obtain ⟨⟨n, hn1, hn2⟩, hle⟩ := hyes hfound
    obtain ⟨z, hz, hzc, hd1, hd2⟩ := accR_feas hv hn2
    have h1 := hle _ _ _ hlt hsome
    have h2 := vx_cost hv hx
    have hdx : (0 : Rat) < (denB b x : Rat) := denQ_pos hx.base
    have hsd : (0 : Rat) < (s.den : Rat) := by simpa using cast_lt.2 (show (0 : Int) < s.den by omega)
    have had : (0 : Rat) < (a.den : Rat) := by have := ho.small.1; simpa using cast_lt.2 (show (0 : Int) < a.den by omega)
    -- the least among the choices is the least of all
    have h3 : costQ b z ≤ costQ b (zOf a) := by
      have h4 := hmin _ hf
      rw [← cast_le, Rat.intCast_mul, Rat.intCast_mul, hzc, h2] at h1
      have h5 : (s.den : Rat) * (denB b x : Rat) * costQ b z ≤ (s.den : Rat) * (denB b x : Rat) * costQ b (zAt b x high full) := by grind
      have h6 : (0 : Rat) < (s.den : Rat) * (denB b x : Rat) := Rat.mul_pos hsd hdx
      have := (mul_le_pos h6).1 h5
      grind
    have h7 := ho.least z hz
    rw [hcost] at h7
    have h8 := (mul_le_pos had).1 h7
    have h9 : costQ b z = costQ b (zOf a) := Rat.le_antisymm h3 h8
    have hprod : s.num * a.den = costM b a.x * s.den := by
      have : ((s.num * a.den : Int) : Rat) = ((costM b a.x * s.den : Int) : Rat) := by
        rw [Rat.intCast_mul, Rat.intCast_mul, hzc, hcost, h9]
        grind
      exact Rat.intCast_inj.1 this
    have hsm := cost_small hv ho.check ho.small.2
    have hmk := make_eq (by omega) hsm.1 (by omega) ho.small.1 hprod
    obtain ⟨l1, _, l3, _⟩ := least_yes hv hs ho
    rw [l1, if_pos hfound, hmk, l3]
    rfl
  · have hfound : s.found = false := by
      cases hq : s.found with
      | false => rfl
      | true =>
        obtain ⟨⟨n, hn1, hn2⟩, _⟩ := hyes hq
        obtain ⟨z, hz, _⟩ := accR_feas hv hn2
        exact absurd ⟨z, hz⟩ hnf
    rw [least_no hs, if_neg (by rw [hfound]; decide)]
end Go.AM.E
end

section
/-
BlendLeast: the program's least cost is the document's.
-/
namespace Go.AM.E
open Go Go.AM Go.Proofs

set_option maxRecDepth 20000 in
set_option maxHeartbeats 4000000 in
theorem c4 (b : Blend) : (orcω E XS).call 4 [encBlend b] = some (.bool true) := by
  refine call_of rfl fn4 rfl ?_
  have k0 := c17
  have k1 := c18 b
  have k2 := c19 b
  rw [doc_least] at k2
  unfold encLst at k1 k2
  generalize leastR b = m at *
  obtain ⟨tot, cs, lo, hi⟩ := b
  simp only [encBlend] at k1 k2 ⊢
  simp (maxSteps := 1000000) (implicitDefEqProofs := false) only [Try.ntmps4, Try.results4, efc4, k0, k1, k2, beq_self_eq_true, Bool.and_self, ss, sd, zI, qG, zG, zH, St.get, qE, qF, qB, zD, norm, look, zF, qA, qI, St.alloc, St.drop, zA, part, zC, depth, qD, ↓reduceIte, Nat.reduceBEq, Nat.reduceAdd, Nat.reduceSub, Nat.reduceMul, Nat.reduceEqDiff, Nat.reduceLeDiff, Nat.reduceLT, qJ, qK, qL, qM, qN, qO, qP, qQ, qR, zJ, qS, qC, qT, qU, qV, qW, qX, qY, qZ, zK, fixed, zL, wit, Option.isSome_some, qH, St.with, zE, Array.size, te, einl, inls, efr]
end Go.AM.E
end

