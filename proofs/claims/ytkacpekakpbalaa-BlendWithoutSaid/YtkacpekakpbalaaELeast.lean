/-
The least cost (blend.Least), and the search as plain facts.
-/
import Derived.Test.YtkacpekakpbalaaESolve
import Derived.Test.YtkacpekakpbalaaEComp
set_option linter.unusedVariables false
set_option linter.unusedSimpArgs false
set_option maxRecDepth 20000

namespace Go.AM.E
open Go Go.AM Go.Proofs

def leastR (b : Blend) : (Int × Int) × Bool × Int :=
  if (solveR b).2 = 0 ∧ (solveR b).1.kind = 1 then (((costR b (solveR b).1.a).1, (costR b (solveR b).1.a).2.1), decide ((costR b (solveR b).1.a).2.2 = 0), (costR b (solveR b).1.a).2.2) else ((0, 0), false, (solveR b).2)
def encLst (r : (Int × Int) × Bool × Int) : V := .tup [.agg [.int .i64 r.1.1, .int .i64 r.1.2], .bool r.2.1, .int .i64 r.2.2]
set_option maxRecDepth 20000 in
set_option maxHeartbeats 8000000 in
theorem c18 (b : Blend) : (orcω E XS).call 18 [encBlend b] = some (encLst (leastR b)) := by
  refine call_of rfl fn18 rfl ?_
  have k20 := c20 b
  have k28 := c28 b (solveR b).1.a
  unfold leastR
  generalize (solveR b).2 = e at *
  generalize (solveR b).1 = o at *
  obtain ⟨kind, ⟨ad, ax⟩, ⟨pd, y, u, v, w⟩⟩ := o
  dsimp only at *
  obtain ⟨tot, cs, lo, up⟩ := b
  generalize costR _ _ = cr at *
  obtain ⟨n, d, e2⟩ := cr
  simp only [encBlend, encAmts, encR, encOut] at k20 k28 ⊢
  by_cases he : e = 0
  rotate_left
  · have q1 : (e != 0) = true := by simpa using he
    rw [if_neg (fun h => he h.1)]
    simp (maxSteps := 1000000) (implicitDefEqProofs := false) only [Try.ntmps18, Try.results18, efc18, k20, q1, encLst, ss, sd, zI, qG, zG, zH, St.get, qE, qF, qB, zD, norm, look, zF, qA, qI, St.alloc, St.drop, zA, part, zC, depth, qD, ↓reduceIte, Nat.reduceBEq, Nat.reduceAdd, Nat.reduceSub, Nat.reduceMul, Nat.reduceEqDiff, Nat.reduceLeDiff, Nat.reduceLT, qJ, qK, qL, qM, qN, qO, qP, qQ, qR, zJ, qS, qC, qT, evSlice0, qV, qW, qX, qY, qZ, zK, fixed, zL, wit, Option.isSome_some, qH, evSliceP, evPre, St.with, zE, Array.size, te, einl, inls, efr]
  subst he
  by_cases hk : kind = 1
  rotate_left
  · have q1 : (kind != 1) = true := by simpa using hk
    rw [if_neg (fun h => hk h.2)]
    simp (maxSteps := 1000000) (implicitDefEqProofs := false) only [Try.ntmps18, Try.results18, efc18, k20, q1, encLst, bne_self_eq_false, ss, sd, zI, qG, zG, zH, St.get, qE, qF, qB, zD, norm, look, zF, qA, qI, St.alloc, St.drop, zA, part, zC, depth, qD, ↓reduceIte, Nat.reduceBEq, Nat.reduceAdd, Nat.reduceSub, Nat.reduceMul, Nat.reduceEqDiff, Nat.reduceLeDiff, Nat.reduceLT, qJ, qK, qL, qM, qN, qO, qP, qQ, qR, zJ, qS, qC, qT, evSlice0, qV, qW, qX, qY, qZ, zK, fixed, zL, wit, Option.isSome_some, qH, evSliceP, evPre, St.with, zE, Array.size, te, einl, inls, efr]
  subst hk
  rw [if_pos ⟨rfl, rfl⟩]
  have q3 : (e2 == 0) = decide (e2 = 0) := by by_cases h : e2 = 0 <;> simp [h]
  simp (maxSteps := 1000000) (implicitDefEqProofs := false) only [Try.ntmps18, Try.results18, efc18, k20, k28, q3, encLst, bne_self_eq_false, ss, sd, zI, qG, zG, zH, St.get, qE, qF, qB, zD, norm, look, zF, qA, qI, St.alloc, St.drop, zA, part, zC, depth, qD, ↓reduceIte, Nat.reduceBEq, Nat.reduceAdd, Nat.reduceSub, Nat.reduceMul, Nat.reduceEqDiff, Nat.reduceLeDiff, Nat.reduceLT, qJ, qK, qL, qM, qN, qO, qP, qQ, qR, zJ, qS, qC, qT, evSlice0, qV, qW, qX, qY, qZ, zK, fixed, zL, wit, Option.isSome_some, qH, evSliceP, evPre, St.with, zE, Array.size, te, einl, inls, efr]

structure Opt (b : Blend) (a : Amts) (p : Pr) : Prop where
  check : checkE b a = 0
  bound : boundR b p = makeR (costM b a.x) a.den
  least : ∀ z, FeasR b z → ((costM b a.x : Int) : Rat) ≤ (a.den : Rat) * costQ b z
  small : 1 ≤ a.den ∧ a.den ≤ 192000
theorem firstM_eq (b : Blend) : firstM b = (basesM b).findSome? fun x => (bestX b x).map fun a => (a, dualM b x) := rfl
theorem solve_cases {b : Blend} (hb : Valid b) : (∃ a p, solveR b = (⟨1, a, p⟩, 0) ∧ Opt b a p) ∨ (∃ p, solveR b = (⟨2, a0, p⟩, 0) ∧ proofB b p = true ∧ ¬ ∃ z, FeasR b z) := by
  have hs : solveR b = (outM b, 0) := by unfold solveR; rw [if_pos (errV_yes hb)]
  rw [hs]
  rcases first_some hb with ⟨a, p, h⟩ | ⟨h1, ⟨p, h2⟩, h3⟩
  · left
    obtain ⟨g1, g2, g3⟩ := firstM_ok hb h
    refine ⟨a, p, ?_, ⟨g1, g2, g3, ?_⟩⟩
    · rw [firstM_eq] at h
      unfold outM
      rw [h]
    · rw [firstM_eq] at h
      obtain ⟨x, hx, h⟩ := List.exists_of_findSome?_eq_some h
      obtain ⟨a', ha, e⟩ := Option.map_eq_some_iff.1 h
      cases e
      obtain ⟨_, _, h3⟩ := best_ok hb (mem_bases.1 hx) ha
      rw [h3]
      exact denB_small hb (mem_bases.1 hx)
  · right
    refine ⟨p, ?_, firstP_ok hb h2, h3⟩
    rw [firstM_eq] at h1
    unfold firstP at h2
    unfold outM
    rw [h1]
    dsimp only
    rw [h2]
theorem make_small {n d : Int} (hn : -1099511627776 ≤ n ∧ n ≤ 1099511627776) (hd : 1 ≤ d ∧ d ≤ 1048576) : (makeR n d).2.2 = 0 ∧ Rat' ((makeR n d).1, (makeR n d).2.1) ∧ (makeR n d).1 * d = n * (makeR n d).2.1 := by
  have h : (makeR n d).2.2 = 0 := by
    unfold makeR
    have h1 := Nat.div_le_self n.natAbs (Nat.gcd n.natAbs d.natAbs)
    have h2 := Nat.div_le_self d.natAbs (Nat.gcd n.natAbs d.natAbs)
    rw [if_neg (by omega)]
  have := make_ok (n := n) (d := d) (a := (makeR n d).1) (b := (makeR n d).2.1) hd.1 (by rw [← h])
  exact ⟨h, this.1, this.2⟩
theorem cost_small {b : Blend} (hb : Valid b) {a : Amts} (h : checkE b a = 0) (hd : a.den ≤ 192000) : 0 ≤ costM b a.x ∧ costM b a.x ≤ 192000000000 := by
  obtain ⟨_, hr, hbr⟩ := checkE_zero h
  obtain ⟨hs, hsum, _⟩ := brokenE_zero hbr
  have hx : ∀ n ∈ a.x, 0 ≤ n := fun n hn => (hr.2.2 n hn).1
  have key : ∀ k, k ≤ b.cs.length → 0 ≤ dotTo (·.co) b.cs a.x k ∧ dotTo (·.co) b.cs a.x k ≤ 1000 * sumX a.x k := by
    intro k
    induction k with
    | zero => intro _; exact ⟨Int.le_refl 0, Int.le_refl 0⟩
    | succ k ih =>
      intro hk
      obtain ⟨i1, i2⟩ := ih (by omega)
      have hc := cost_f hb (b.cs.getD k cem0) (by rw [getD_in (by omega)]; exact List.getElem_mem _)
      have hn : 0 ≤ a.x.getD k 0 := by rw [getD_in (by have := hr.2.1; omega)]; exact hx _ (List.getElem_mem _)
      have m1 := Int.mul_nonneg hc.1 hn
      have m2 := Int.mul_le_mul_of_nonneg_right hc.2 hn
      show 0 ≤ dotTo (·.co) b.cs a.x k + (b.cs.getD k cem0).co * a.x.getD k 0 ∧ dotTo (·.co) b.cs a.x k + (b.cs.getD k cem0).co * a.x.getD k 0 ≤ 1000 * (sumX a.x k + a.x.getD k 0)
      rw [Int.mul_add]
      omega
  have h1 := key b.cs.length (Nat.le_refl _)
  rw [hsum] at h1
  have h2 := Int.mul_le_mul hb.1.2 hd (by have := hr.1; omega) (by decide)
  have h3 : costM b a.x = dotTo (·.co) b.cs a.x b.cs.length := rfl
  omega
theorem least_yes {b : Blend} (hb : Valid b) {a : Amts} {p : Pr} (hs : solveR b = (⟨1, a, p⟩, 0)) (ho : Opt b a p) :
    leastR b = (((makeR (costM b a.x) a.den).1, (makeR (costM b a.x) a.den).2.1), true, 0) ∧ costR b a = makeR (costM b a.x) a.den ∧ (makeR (costM b a.x) a.den).2.2 = 0 ∧ Rat' ((makeR (costM b a.x) a.den).1, (makeR (costM b a.x) a.den).2.1) ∧ (makeR (costM b a.x) a.den).1 * a.den = costM b a.x * (makeR (costM b a.x) a.den).2.1 := by
  have hc : costR b a = makeR (costM b a.x) a.den := by
    obtain ⟨hv, hr, _⟩ := checkE_zero ho.check
    unfold costR
    rw [if_pos (errV_yes hv), if_pos (rightM_iff.2 hr)]
  have hsm := cost_small hb ho.check ho.small.2
  obtain ⟨m1, m2, m3⟩ := make_small (n := costM b a.x) (d := a.den) (by omega) (by have := ho.small; omega)
  refine ⟨?_, hc, m1, m2, m3⟩
  unfold leastR
  rw [hs]
  dsimp only
  rw [if_pos ⟨rfl, rfl⟩, hc, m1]
  simp
theorem least_no {b : Blend} {p : Pr} (hs : solveR b = (⟨2, a0, p⟩, 0)) : leastR b = ((0, 0), false, 0) := by
  unfold leastR
  rw [hs]
  rw [if_neg (fun h => by cases h.2)]
end Go.AM.E

