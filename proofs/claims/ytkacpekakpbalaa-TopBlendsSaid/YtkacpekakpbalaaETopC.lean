/-
TopBlends.
-/
import Derived.Test.YtkacpekakpbalaaETopB
set_option linter.unusedVariables false
set_option linter.unusedSimpArgs false
set_option maxRecDepth 20000

namespace Go.AM.E
open Go Go.AM Go.Proofs

def exB : Blend := ⟨10, [⟨10, 2, [4]⟩, ⟨10, 5, [8]⟩], [6], [8]⟩
theorem exB_solved : ∃ a p, solveR exB = (⟨1, a, p⟩, 0) := by
  have hv : Valid exB := validM_iff.1 (by decide)
  rcases solve_cases hv with ⟨a, p, h, _⟩ | ⟨p, _, _, h⟩
  · exact ⟨a, p, h⟩
  · exfalso
    apply h
    have hc : checkE exB ⟨1, [5, 5]⟩ = 0 := by decide
    exact ⟨_, (feas_ok hc).1⟩
set_option maxRecDepth 20000 in
set_option maxHeartbeats 16000000 in
theorem t14 (b : Blend) (x : Amts) (c : Pr) : (orcω E XL).call 14 [encBlend b, encAmts x, encPr c] = some (.bool true) := by
  refine call_of rfl fn14 rfl ?_
  obtain ⟨ea, ep, hex⟩ := exB_solved
  have kx := l20 true exB
  rw [hex] at kx
  simp only [encBlendT, exB, List.map_cons, List.map_nil, vI, encOut] at kx
  have k20 := l20 false b
  have k18 := l18 false b
  rw [encBlendT_false] at k20 k18
  have k25 := fun a => l25 b a
  have k30 := fun p => l30 b p
  have k28 := fun a => l28 b a
  have k29 := fun p => l29 b p
  have k44 := t44
  have k45 := t45 b x
  have k46 := t46 b c
  have hpn := proof_none (b := b) (x := x) (p := c)
  rcases errV_cases b with he | he
  rotate_left
  · -- the blend is not valid
    have hs : solveR b = (⟨0, a0, p0⟩, 1) := by unfold solveR; rw [if_neg (by omega)]
    have hc : checkE b x = 1 := by unfold checkE; rw [if_neg (by omega)]
    have hp : proofB b c = false := by unfold proofB; rw [he]; rfl
    rw [hs] at k20
    have k25 := k25 x
    have k30 := k30 c
    rw [hc] at k25
    rw [hp] at k30
    clear k18 k28 k29 k45 k46 hpn hs hc hp he hex
    obtain ⟨tot, cs, lo, up⟩ := b
    obtain ⟨xd, xs⟩ := x
    obtain ⟨pd, y, u, v, w⟩ := c
    simp only [encBlend, encAmts, encPr, encOut, a0, p0, List.map_nil] at k20 k25 k30 ⊢
    simp (maxSteps := 1000000) (implicitDefEqProofs := false) only [Try.ntmps14, Try.results14, efc14, ss, sd, evOp, evPlain, evVal, evMem, St.get, sliceOf, arrayOf, fieldsOf, normOf, norm, look, evVar, evFieldAddr, nameOf, St.alloc, St.drop, killOb, part, splice, depth, resultsV, ↓reduceIte, Nat.reduceBEq, Nat.reduceAdd, Nat.reduceSub, Nat.reduceMul, Nat.reduceEqDiff, Nat.reduceLeDiff, Nat.reduceLT, effOf, effMem, effVar, effLit, effMake, effApp, lend, evLit, evNil, freeze, evField, evIndexT, orNil, evSlice, placeOf, evMap, mapOf, keyOk, evFrame, closed, fixed, sameEs, wit, Option.isSome_some, St.with, wantedD, Array.size, te, einl, inls, efr]
    rw [inl_of (b := 1000) (g := 43) rfl fn43 rfl ?h43]
    case h43 =>
      simp (maxSteps := 1000000) (implicitDefEqProofs := false) only [Try.ntmps43, Try.results43, efc43, ss, sd, evOp, evPlain, evVal, evMem, St.get, sliceOf, arrayOf, fieldsOf, normOf, norm, look, evVar, evFieldAddr, nameOf, St.alloc, St.drop, killOb, part, splice, depth, resultsV, ↓reduceIte, Nat.reduceBEq, Nat.reduceAdd, Nat.reduceSub, Nat.reduceMul, Nat.reduceEqDiff, Nat.reduceLeDiff, Nat.reduceLT, effOf, effMem, effVar, effLit, effMake, effApp, lend, evLit, evNil, freeze, evField, evIndexT, orNil, evSlice, placeOf, evMap, mapOf, keyOk, evFrame, closed, fixed, sameEs, wit, Option.isSome_some, St.with, wantedD, Array.size, te, einl, inls, efr]
      exact rfl
    simp (maxSteps := 1000000) (implicitDefEqProofs := false) only [kx, k20, k25, k30, bne_self_eq_false, beq_self_eq_true, show ((1 : Int) != 0) = true by decide, Try.ntmps14, Try.results14, efc14, ss, sd, evOp, evPlain, evVal, evMem, St.get, sliceOf, arrayOf, fieldsOf, normOf, norm, look, evVar, evFieldAddr, nameOf, St.alloc, St.drop, killOb, part, splice, depth, resultsV, ↓reduceIte, Nat.reduceBEq, Nat.reduceAdd, Nat.reduceSub, Nat.reduceMul, Nat.reduceEqDiff, Nat.reduceLeDiff, Nat.reduceLT, effOf, effMem, effVar, effLit, effMake, effApp, lend, evLit, evNil, freeze, evField, evIndexT, orNil, evSlice, placeOf, evMap, mapOf, keyOk, evFrame, closed, fixed, sameEs, wit, Option.isSome_some, St.with, wantedD, Array.size, te, einl, inls, efr]
  have hb := errV_zero he
  rcases solve_cases hb with ⟨a, p, hs, ho⟩ | ⟨p, hs, hp, hno⟩
  · -- amounts of the least cost
    obtain ⟨hl, hca, m1, m2, m3⟩ := least_yes hb hs ho
    have hbp := ho.bound
    have hax := fun (h : checkE b x = 0) => least_le ho h
    have hda := ho.small
    rw [hs] at k20
    rw [hl] at k18
    have k28a := k28 a
    have k29p := k29 p
    rw [hca] at k28a
    rw [hbp] at k29p
    have k25a := k25 a
    rw [ho.check] at k25a
    have k25x := k25 x
    have k46' := k46 _ _ m2 (fun h0 => by
      obtain ⟨_, h2⟩ := bound_le (b := b) (x := a) (p := c) (n := (makeR (costM b a.x) a.den).1) (d := (makeR (costM b a.x) a.den).2.1) (m := (boundR b c).1) (e := (boundR b c).2.1) ho.check (by rw [hca]; rw [← m1]) (by rw [← h0])
      exact ⟨h2.1, h2.2⟩)
    have k45' := fun ac hac => k45 _ _ m2 ac hac
    have hcost : (checkE b x = 0) → (costR b x).2.2 = 0 → Rat' ((costR b x).1, (costR b x).2.1) ∧ (makeR (costM b a.x) a.den).1 * (costR b x).2.1 ≤ (costR b x).1 * (makeR (costM b a.x) a.den).2.1 := by
      intro hx h0
      have hcx := costR_ok hx
      obtain ⟨_, rx, _⟩ := checkE_zero hx
      rw [hcx] at h0 ⊢
      have hm := make_ok (n := costM b x.x) (d := x.den) (a := (makeR (costM b x.x) x.den).1) (b := (makeR (costM b x.x) x.den).2.1) rx.1.1 (by rw [← h0])
      exact ⟨hm.1, make_le (n := costM b x.x) (d := x.den) (m := costM b a.x) (e := a.den) rx.1.1 hda.1 (by rw [← h0]) (by rw [← m1]) (hax hx)⟩
    have hsame : ((makeR (costM b a.x) a.den).1 == (makeR (costM b a.x) a.den).1 && (makeR (costM b a.x) a.den).2.1 == (makeR (costM b a.x) a.den).2.1 && decide (0 < (makeR (costM b a.x) a.den).2.1)) = true := by
      have := m2.1
      dsimp only at this
      simp; omega
    have k44' := k44 (makeR (costM b a.x) a.den).1 (makeR (costM b a.x) a.den).2.1 (makeR (costM b a.x) a.den).1 (makeR (costM b a.x) a.den).2.1
    rw [hsame] at k44'
    unfold encR at k28a k29p
    rw [m1] at k28a k29p
    have k30c := k30 c
    generalize (makeR (costM b a.x) a.den).1 = n at *
    generalize (makeR (costM b a.x) a.den).2.1 = d at *
    have hacc : ∀ ac : Bool, (ac = true → checkE b x = 0) → (orcω E XL).call 45 [encBlend b, encAmts x, .bool ac, .agg [.int .i64 n, .int .i64 d]] = some (.bool true) := fun ac h => k45' ac fun h1 h2 => hcost (h h1) h2
    clear k45 k46 k45' hcost hax k44 k28 k29 k25 k30 hbp hca m1 m2 m3 hs ho hl hex hsame
    by_cases hce : checkE b x = 0
    · have kac := hacc true (fun _ => hce)
      have hpc := hpn hce
      rw [hce] at k25x
      rw [hpc] at k30c
      clear hacc hpn he hb hce hpc
      obtain ⟨tot, cs, lo, up⟩ := b
      obtain ⟨xd, xs⟩ := x
      obtain ⟨pd, y, u, v, w⟩ := c
      obtain ⟨pd', y', u', v', w'⟩ := p
      obtain ⟨ad, as'⟩ := a
      simp only [encBlend, encAmts, encPr, encOut, encLst] at k18 k20 k25a k25x k30c k28a k29p k46' kac ⊢
      simp (maxSteps := 1000000) (implicitDefEqProofs := false) only [Try.ntmps14, Try.results14, efc14, ss, sd, evOp, evPlain, evVal, evMem, St.get, sliceOf, arrayOf, fieldsOf, normOf, norm, look, evVar, evFieldAddr, nameOf, St.alloc, St.drop, killOb, part, splice, depth, resultsV, ↓reduceIte, Nat.reduceBEq, Nat.reduceAdd, Nat.reduceSub, Nat.reduceMul, Nat.reduceEqDiff, Nat.reduceLeDiff, Nat.reduceLT, effOf, effMem, effVar, effLit, effMake, effApp, lend, evLit, evNil, freeze, evField, evIndexT, orNil, evSlice, placeOf, evMap, mapOf, keyOk, evFrame, closed, fixed, sameEs, wit, Option.isSome_some, St.with, wantedD, Array.size, te, einl, inls, efr]
      rw [inl_of (b := 1000) (g := 43) rfl fn43 rfl ?h43]
      case h43 =>
        simp (maxSteps := 1000000) (implicitDefEqProofs := false) only [Try.ntmps43, Try.results43, efc43, ss, sd, evOp, evPlain, evVal, evMem, St.get, sliceOf, arrayOf, fieldsOf, normOf, norm, look, evVar, evFieldAddr, nameOf, St.alloc, St.drop, killOb, part, splice, depth, resultsV, ↓reduceIte, Nat.reduceBEq, Nat.reduceAdd, Nat.reduceSub, Nat.reduceMul, Nat.reduceEqDiff, Nat.reduceLeDiff, Nat.reduceLT, effOf, effMem, effVar, effLit, effMake, effApp, lend, evLit, evNil, freeze, evField, evIndexT, orNil, evSlice, placeOf, evMap, mapOf, keyOk, evFrame, closed, fixed, sameEs, wit, Option.isSome_some, St.with, wantedD, Array.size, te, einl, inls, efr]
        exact rfl
      simp (maxSteps := 1000000) (implicitDefEqProofs := false) only [kx, k18, k20, k25a, k25x, k30c, k28a, k29p, k46', kac, k44', bne_self_eq_false, beq_self_eq_true, Bool.not_true, Bool.not_false, Try.ntmps14, Try.results14, efc14, ss, sd, evOp, evPlain, evVal, evMem, St.get, sliceOf, arrayOf, fieldsOf, normOf, norm, look, evVar, evFieldAddr, nameOf, St.alloc, St.drop, killOb, part, splice, depth, resultsV, ↓reduceIte, Nat.reduceBEq, Nat.reduceAdd, Nat.reduceSub, Nat.reduceMul, Nat.reduceEqDiff, Nat.reduceLeDiff, Nat.reduceLT, effOf, effMem, effVar, effLit, effMake, effApp, lend, evLit, evNil, freeze, evField, evIndexT, orNil, evSlice, placeOf, evMap, mapOf, keyOk, evFrame, closed, fixed, sameEs, wit, Option.isSome_some, St.with, wantedD, Array.size, te, einl, inls, efr]
    · have kac := hacc false (fun h => by cases h)
      have q1 : (checkE b x == 0) = false := by simpa using hce
      generalize checkE b x = ce at *
      clear hacc hpn he hb hce
      obtain ⟨tot, cs, lo, up⟩ := b
      obtain ⟨xd, xs⟩ := x
      obtain ⟨pd, y, u, v, w⟩ := c
      obtain ⟨pd', y', u', v', w'⟩ := p
      obtain ⟨ad, as'⟩ := a
      simp only [encBlend, encAmts, encPr, encOut, encLst] at k18 k20 k25a k25x k28a k29p k46' kac ⊢
      simp (maxSteps := 1000000) (implicitDefEqProofs := false) only [Try.ntmps14, Try.results14, efc14, ss, sd, evOp, evPlain, evVal, evMem, St.get, sliceOf, arrayOf, fieldsOf, normOf, norm, look, evVar, evFieldAddr, nameOf, St.alloc, St.drop, killOb, part, splice, depth, resultsV, ↓reduceIte, Nat.reduceBEq, Nat.reduceAdd, Nat.reduceSub, Nat.reduceMul, Nat.reduceEqDiff, Nat.reduceLeDiff, Nat.reduceLT, effOf, effMem, effVar, effLit, effMake, effApp, lend, evLit, evNil, freeze, evField, evIndexT, orNil, evSlice, placeOf, evMap, mapOf, keyOk, evFrame, closed, fixed, sameEs, wit, Option.isSome_some, St.with, wantedD, Array.size, te, einl, inls, efr]
      rw [inl_of (b := 1000) (g := 43) rfl fn43 rfl ?h43]
      case h43 =>
        simp (maxSteps := 1000000) (implicitDefEqProofs := false) only [Try.ntmps43, Try.results43, efc43, ss, sd, evOp, evPlain, evVal, evMem, St.get, sliceOf, arrayOf, fieldsOf, normOf, norm, look, evVar, evFieldAddr, nameOf, St.alloc, St.drop, killOb, part, splice, depth, resultsV, ↓reduceIte, Nat.reduceBEq, Nat.reduceAdd, Nat.reduceSub, Nat.reduceMul, Nat.reduceEqDiff, Nat.reduceLeDiff, Nat.reduceLT, effOf, effMem, effVar, effLit, effMake, effApp, lend, evLit, evNil, freeze, evField, evIndexT, orNil, evSlice, placeOf, evMap, mapOf, keyOk, evFrame, closed, fixed, sameEs, wit, Option.isSome_some, St.with, wantedD, Array.size, te, einl, inls, efr]
        exact rfl
      simp (maxSteps := 1000000) (implicitDefEqProofs := false) only [kx, k18, k20, k25a, k25x, k28a, k29p, k46', kac, k44', q1, bne_self_eq_false, beq_self_eq_true, Bool.not_true, Bool.not_false, Try.ntmps14, Try.results14, efc14, ss, sd, evOp, evPlain, evVal, evMem, St.get, sliceOf, arrayOf, fieldsOf, normOf, norm, look, evVar, evFieldAddr, nameOf, St.alloc, St.drop, killOb, part, splice, depth, resultsV, ↓reduceIte, Nat.reduceBEq, Nat.reduceAdd, Nat.reduceSub, Nat.reduceMul, Nat.reduceEqDiff, Nat.reduceLeDiff, Nat.reduceLT, effOf, effMem, effVar, effLit, effMake, effApp, lend, evLit, evNil, freeze, evField, evIndexT, orNil, evSlice, placeOf, evMap, mapOf, keyOk, evFrame, closed, fixed, sameEs, wit, Option.isSome_some, St.with, wantedD, Array.size, te, einl, inls, efr]
  · -- there are none
    have hl := least_no hs
    have hc : ¬ checkE b x = 0 := fun h => hno ⟨_, (feas_ok h).1⟩
    have q1 : (checkE b x == 0) = false := by simpa using hc
    rw [hs] at k20
    rw [hl] at k18
    have k25 := k25 x
    have k30 := k30 p
    rw [hp] at k30
    generalize checkE b x = ce at *
    clear k28 k29 k45 k46 hpn hs he hex hl hp hno hb
    obtain ⟨tot, cs, lo, up⟩ := b
    obtain ⟨xd, xs⟩ := x
    obtain ⟨pd, y, u, v, w⟩ := c
    obtain ⟨pd', y', u', v', w'⟩ := p
    simp only [encBlend, encAmts, encPr, encOut, encLst, a0, List.map_nil] at k18 k20 k25 k30 ⊢
    simp (maxSteps := 1000000) (implicitDefEqProofs := false) only [Try.ntmps14, Try.results14, efc14, ss, sd, evOp, evPlain, evVal, evMem, St.get, sliceOf, arrayOf, fieldsOf, normOf, norm, look, evVar, evFieldAddr, nameOf, St.alloc, St.drop, killOb, part, splice, depth, resultsV, ↓reduceIte, Nat.reduceBEq, Nat.reduceAdd, Nat.reduceSub, Nat.reduceMul, Nat.reduceEqDiff, Nat.reduceLeDiff, Nat.reduceLT, effOf, effMem, effVar, effLit, effMake, effApp, lend, evLit, evNil, freeze, evField, evIndexT, orNil, evSlice, placeOf, evMap, mapOf, keyOk, evFrame, closed, fixed, sameEs, wit, Option.isSome_some, St.with, wantedD, Array.size, te, einl, inls, efr]
    rw [inl_of (b := 1000) (g := 43) rfl fn43 rfl ?h43]
    case h43 =>
      simp (maxSteps := 1000000) (implicitDefEqProofs := false) only [Try.ntmps43, Try.results43, efc43, ss, sd, evOp, evPlain, evVal, evMem, St.get, sliceOf, arrayOf, fieldsOf, normOf, norm, look, evVar, evFieldAddr, nameOf, St.alloc, St.drop, killOb, part, splice, depth, resultsV, ↓reduceIte, Nat.reduceBEq, Nat.reduceAdd, Nat.reduceSub, Nat.reduceMul, Nat.reduceEqDiff, Nat.reduceLeDiff, Nat.reduceLT, effOf, effMem, effVar, effLit, effMake, effApp, lend, evLit, evNil, freeze, evField, evIndexT, orNil, evSlice, placeOf, evMap, mapOf, keyOk, evFrame, closed, fixed, sameEs, wit, Option.isSome_some, St.with, wantedD, Array.size, te, einl, inls, efr]
      exact rfl
    simp (maxSteps := 1000000) (implicitDefEqProofs := false) only [kx, k18, k20, k25, k30, q1, bne_self_eq_false, beq_self_eq_true, show ((2 : Int) == 1) = false by decide, Bool.not_true, Bool.not_false, Try.ntmps14, Try.results14, efc14, ss, sd, evOp, evPlain, evVal, evMem, St.get, sliceOf, arrayOf, fieldsOf, normOf, norm, look, evVar, evFieldAddr, nameOf, St.alloc, St.drop, killOb, part, splice, depth, resultsV, ↓reduceIte, Nat.reduceBEq, Nat.reduceAdd, Nat.reduceSub, Nat.reduceMul, Nat.reduceEqDiff, Nat.reduceLeDiff, Nat.reduceLT, effOf, effMem, effVar, effLit, effMake, effApp, lend, evLit, evNil, freeze, evField, evIndexT, orNil, evSlice, placeOf, evMap, mapOf, keyOk, evFrame, closed, fixed, sameEs, wit, Option.isSome_some, St.with, wantedD, Array.size, te, einl, inls, efr]
end Go.AM.E
