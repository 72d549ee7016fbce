/-
The equations of a choice of conditions (the document).
-/
import Derived.Test.YtkacpekakpbalaaEEqsP
set_option linter.unusedVariables false
set_option linter.unusedSimpArgs false
set_option maxRecDepth 20000

namespace Go.AM.E
open Go Go.AM Go.Proofs

theorem shareE {C D P G : Prop} (h : C ∨ D) (ha : C → P → G) (hb : D → P → G) (hp : P) : G := by
  rcases h with h | h
  · exact ha h hp
  · exact hb h hp
def encV (vc vp : List Int) : V := .agg [.sl false (vc.map vI), .sl false (vp.map vI)]
theorem okT81 : okCode (Try.f81.body.getD .skip) = true := by decide +kernel
set_option maxRecDepth 20000 in
set_option maxHeartbeats 8000000 in
theorem c81 (b : Blend) (vc vp : List Int) (hb : Valid b) (hc : vc.length = b.cs.length) (hp : vp.length = b.lo.length) :
    (orcω E XS).call 81 [encBlend b, encV vc vp] = some (.tup [encM true (eqRows b vc vp b.lo.length), .sl true ((eqRight b vc vp b.lo.length).map vI)]) := by
  refine call_of rfl fn81 rfl ?_
  have hok := okT81
  simp only [Try.f81, Option.getD_some, okCode, Bool.and_eq_true, Bool.and_true, Bool.true_and] at hok
  obtain ⟨hk1, hk2, hk3⟩ := hok
  obtain ⟨⟨ht1, ht2⟩, ⟨hn1, hn2⟩, hl3, hhl, hlo, hhi, _, hcem⟩ := hb
  obtain ⟨tot, cs, lo, hi⟩ := b
  dsimp only at *
  have hst : ∀ c ∈ cs, 0 ≤ c.st ∧ c.st ≤ 1000 := fun c h => (cemOk_iff.1 (hcem c h)).1
  have hpl : ∀ c ∈ cs, c.ps.length = lo.length := fun c h => (cemOk_iff.1 (hcem c h)).2.2.1
  unfold encBlend encV
  dsimp only
  simp (maxSteps := 1000000) (implicitDefEqProofs := false) only [Try.ntmps81, Try.results81, efc81, fc81, List.length_map, ss, sd, zI, qG, zG, zH, St.get, qE, qF, qB, zD, norm, look, zF, qA, qI, St.alloc, St.drop, zA, part, zC, depth, qD, ↓reduceIte, Nat.reduceBEq, Nat.reduceAdd, Nat.reduceSub, Nat.reduceMul, Nat.reduceEqDiff, Nat.reduceLeDiff, Nat.reduceLT, qJ, qK, qL, qM, qN, qO, qP, qQ, qR, zJ, qS, qC, qT, qU, qV, qW, qX, qY, qZ, zK, fixed, zL, wit, Option.isSome_some, qH, St.with, zE, Array.size, te, einl, inls, efr]
  generalize hr : loopAt _ _ _ _ _ _ = r; revert r
  refine loop_nat cs.length (fun i _ => [(6, .int .i64 (eqTot tot cs vc i)), (7, .own 7 0 (eqOnes vc i).length), (8, .int .i64 (i : Nat))]) (fun i _ => [(7, grow 1 ((eqOnes vc i).map vI))]) (fun _ (_ : Unit) => True) () (by omega) (by simp (maxSteps := 1000000) (implicitDefEqProofs := false) only [eqTot, eqOnes, grow, List.map_nil, List.length_nil, Int.natCast_zero, ss, sd, zI, qG, zG, zH, St.get, qE, qF, qB, zD, norm, look, zF, qA, qI, St.alloc, St.drop, zA, part, zC, depth, qD, ↓reduceIte, Nat.reduceBEq, Nat.reduceAdd, Nat.reduceSub, Nat.reduceMul, Nat.reduceEqDiff, Nat.reduceLeDiff, Nat.reduceLT, qJ, qK, qL, qM, qN, qO, qP, qQ, qR, zJ, qS, qC, qT, qU, qV, qW, qX, qY, qZ, zK, fixed, zL, wit, Option.isSome_some, qH, St.with, zE, Array.size, te, einl, inls, efr]) trivial (fun _ _ => ?_) (fun i _ _ a1 a2 a3 => ?_)
  · have t1 : ((eqOnes vc cs.length).map vI).take (eqOnes vc cs.length).length = (eqOnes vc cs.length).map vI := List.take_of_length_le (by simp)
    simp (maxSteps := 1000000) (implicitDefEqProofs := false) only [Int.lt_irrefl, grow, t1, List.length_map, ss, sd, zI, qG, zG, zH, St.get, qE, qF, qB, zD, norm, look, zF, qA, qI, St.alloc, St.drop, zA, part, zC, depth, qD, ↓reduceIte, Nat.reduceBEq, Nat.reduceAdd, Nat.reduceSub, Nat.reduceMul, Nat.reduceEqDiff, Nat.reduceLeDiff, Nat.reduceLT, qJ, qK, qL, qM, qN, qO, qP, qQ, qR, zJ, qS, qC, qT, qU, qV, qW, qX, qY, qZ, zK, fixed, zL, wit, Option.isSome_some, qH, St.with, zE, Array.size, te, einl, inls, efr]
    generalize hr : loopAt _ _ _ _ _ _ = r; revert r
    have r0 : eqRows ⟨tot, cs, lo, hi⟩ vc vp 0 = [eqOnes vc cs.length] := rfl
    have r1 : eqRight ⟨tot, cs, lo, hi⟩ vc vp 0 = [eqTot tot cs vc cs.length] := rfl
    have hR := fun k => eqRows_len ⟨tot, cs, lo, hi⟩ vc vp k
    have hI := fun k => eqRight_len ⟨tot, cs, lo, hi⟩ vc vp k
    have sR : ∀ k, eqRows ⟨tot, cs, lo, hi⟩ vc vp (k + 1) = if vp.getD k 0 = 0 then eqRows ⟨tot, cs, lo, hi⟩ vc vp k else eqRows ⟨tot, cs, lo, hi⟩ vc vp k ++ [eqRow cs vc k cs.length] := fun _ => rfl
    have sI : ∀ k, eqRight ⟨tot, cs, lo, hi⟩ vc vp (k + 1) = if vp.getD k 0 = 0 then eqRight ⟨tot, cs, lo, hi⟩ vc vp k else eqRight ⟨tot, cs, lo, hi⟩ vc vp k ++ [eqWant (if vp.getD k 0 = 2 then hi.getD k 0 * tot else lo.getD k 0 * tot) cs vc k cs.length] := fun _ => rfl
    generalize eqRows ⟨tot, cs, lo, hi⟩ vc vp = RR at *
    generalize eqRight ⟨tot, cs, lo, hi⟩ vc vp = RI at *
    unfold encM
    refine loop_nat lo.length (fun k _ => [(9, .own 9 0 (RR k).length), (10, .own 10 0 (RI k).length), (11, .int .i64 (k : Nat))]) (fun k _ => [(9, grow 1 ((RR k).map encI)), (10, grow 1 ((RI k).map vI))]) (fun _ (_ : Unit) => True) () (by omega) (by simp (maxSteps := 1000000) (implicitDefEqProofs := false) only [r0, r1, grow, encI, vI, List.map_cons, List.map_nil, List.length_cons, List.length_nil, Int.natCast_zero, Nat.zero_add, ss, sd, zI, qG, zG, zH, St.get, qE, qF, qB, zD, norm, look, zF, qA, qI, St.alloc, St.drop, zA, part, zC, depth, qD, ↓reduceIte, Nat.reduceBEq, Nat.reduceAdd, Nat.reduceSub, Nat.reduceMul, Nat.reduceEqDiff, Nat.reduceLeDiff, Nat.reduceLT, qJ, qK, qL, qM, qN, qO, qP, qQ, qR, zJ, qS, qC, qT, qU, qV, qW, qX, qY, qZ, zK, fixed, zL, wit, Option.isSome_some, qH, St.with, zE, Array.size, te, einl, inls, efr]) trivial (fun _ _ => ?_) (fun k _ _ a1 a2 a3 => ?_)
    · have t2 : ((RR lo.length).map encI).take (RR lo.length).length = (RR lo.length).map encI := List.take_of_length_le (by simp)
      have t3 : ((RI lo.length).map vI).take (RI lo.length).length = (RI lo.length).map vI := List.take_of_length_le (by simp)
      simp (maxSteps := 1000000) (implicitDefEqProofs := false) only [Int.lt_irrefl, grow, t2, t3, List.length_map, Try.ntmps81, Try.results81, efc81, fc81, ss, sd, zI, qG, zG, zH, St.get, qE, qF, qB, zD, norm, look, zF, qA, qI, St.alloc, St.drop, zA, part, zC, depth, qD, ↓reduceIte, Nat.reduceBEq, Nat.reduceAdd, Nat.reduceSub, Nat.reduceMul, Nat.reduceEqDiff, Nat.reduceLeDiff, Nat.reduceLT, qJ, qK, qL, qM, qN, qO, qP, qQ, qR, zJ, qS, qC, qT, qU, qV, qW, qX, qY, qZ, zK, fixed, zL, wit, Option.isSome_some, qH, St.with, zE, Array.size, te, einl, inls, efr]
    · have g1 : lo[k]? = some lo[k] := List.getElem?_eq_getElem a1
      have g2 : hi[k]? = some hi[k] := List.getElem?_eq_getElem (by omega)
      have g3 : vp[k]? = some vp[k] := List.getElem?_eq_getElem (by omega)
      have a4 : (k : Int) < vp.length := by omega
      have a5 : (k : Int) < hi.length := by omega
      have e1 : vp.getD k 0 = vp[k] := by rw [List.getD_eq_getElem?_getD, g3]; rfl
      have e2 : hi.getD k 0 = hi[k] := by rw [List.getD_eq_getElem?_getD, g2]; rfl
      have e3 : lo.getD k 0 = lo[k] := by rw [List.getD_eq_getElem?_getD, g1]; rfl
      have bl := hlo lo[k] (List.getElem_mem _)
      have bh := hhi hi[k] (List.getElem_mem _)
      have m1 := mul_in bl (show 0 ≤ tot ∧ tot ≤ 1000 by omega)
      have m2 := mul_in bh (show 0 ≤ tot ∧ tot ≤ 1000 by omega)
      have w1 : IntKind.i64.wrap (lo[k] * tot) = lo[k] * tot := wrap_in (by omega)
      have w2 : IntKind.i64.wrap (hi[k] * tot) = hi[k] * tot := wrap_in (by omega)
      have x1 := sR k
      have x2 := sI k
      rw [e1] at x1 x2
      rw [e2, e3] at x2
      have hRk := hR k
      have hIk := hI k
      have hw : 0 ≤ (if vp[k] = 2 then hi[k] * tot else lo[k] * tot) ∧ (if vp[k] = 2 then hi[k] * tot else lo[k] * tot) ≤ 20000 := by split <;> omega
      have hp20 : ∀ c ∈ cs, 0 ≤ c.ps.getD k 0 ∧ c.ps.getD k 0 ≤ 20 := fun c h => by
        have h4 := (cemOk_iff.1 (hcem c h)).2.2.2
        rw [List.getD_eq_getElem?_getD]
        cases hk : c.ps[k]? with
        | none => exact ⟨Int.le_refl 0, by decide⟩
        | some p => exact h4 p (List.mem_of_getElem? hk)
      clear e1 e2 e3 sR sI hR hI
      generalize lo[k] = l at *
      generalize hi[k] = h at *
      generalize vp[k] = v at *
      generalize RR (k + 1) = R1 at *
      generalize RI (k + 1) = I1 at *
      generalize RR k = R0 at *
      generalize RI k = I0 at *
      subst x1
      subst x2
      by_cases h0 : v = 0
      · subst h0
        simp (maxSteps := 1000000) (implicitDefEqProofs := false) only [a1, a2, a3, a4, g3, grow, vI, beq_self_eq_true, Int.natCast_nonneg, Int.toNat_natCast, List.getElem?_map, List.length_map, ss, sd, zI, qG, zG, zH, St.get, qE, qF, qB, zD, norm, look, zF, qA, qI, St.alloc, St.drop, zA, part, zC, depth, qD, ↓reduceIte, Nat.reduceBEq, Nat.reduceAdd, Nat.reduceSub, Nat.reduceMul, Nat.reduceEqDiff, Nat.reduceLeDiff, Nat.reduceLT, qJ, qK, qL, qM, qN, qO, qP, qQ, qR, zJ, qS, qC, qT, qU, qV, qW, qX, qY, qZ, zK, fixed, zL, wit, Option.isSome_some, qH, St.with, zE, Array.size, te, einl, inls, efr]
        (first | exact ⟨(), trivial⟩ | refine ⟨(), ?_, trivial⟩ | skip)
      · have q0 : (v == 0) = false := by simpa using h0
        generalize hw0 : (if v = 2 then h * tot else l * tot) = w0 at *
        rw [if_neg h0, if_neg h0]
        apply shareE (Decidable.em (v = 2))
        · intro h2 main
          have q2 : (v == 2) = true := by simpa using h2
          have w2' : IntKind.i64.wrap (h * tot) = w0 := by rw [w2, ← hw0, if_pos h2]
          simp (maxSteps := 1000000) (implicitDefEqProofs := false) only [a1, a2, a3, a4, a5, g1, g2, g3, q0, q2, w1, w2', grow, vI, evRegion_st hk1, evRegion_st hk2, Int.natCast_nonneg, Int.toNat_natCast, List.getElem?_map, List.length_map, ss, sd, zI, qG, zG, zH, St.get, qE, qF, qB, zD, norm, look, zF, qA, qI, St.alloc, St.drop, zA, part, zC, depth, qD, ↓reduceIte, Nat.reduceBEq, Nat.reduceAdd, Nat.reduceSub, Nat.reduceMul, Nat.reduceEqDiff, Nat.reduceLeDiff, Nat.reduceLT, qJ, qK, qL, qM, qN, qO, qP, qQ, qR, zJ, qS, qC, qT, qU, qV, qW, qX, qY, qZ, zK, fixed, zL, wit, Option.isSome_some, qH, St.with, zE, Array.size, te, einl, inls, efr]
          generalize hr : loopAt _ _ _ _ _ _ = r; revert r
          exact main
        · intro h2 main
          have q2 : (v == 2) = false := by simpa using h2
          have w1' : IntKind.i64.wrap (l * tot) = w0 := by rw [w1, ← hw0, if_neg h2]
          simp (maxSteps := 1000000) (implicitDefEqProofs := false) only [a1, a2, a3, a4, a5, g1, g2, g3, q0, q2, w1', grow, vI, evRegion_st hk1, evRegion_st hk2, Int.natCast_nonneg, Int.toNat_natCast, List.getElem?_map, List.length_map, ss, sd, zI, qG, zG, zH, St.get, qE, qF, qB, zD, norm, look, zF, qA, qI, St.alloc, St.drop, zA, part, zC, depth, qD, ↓reduceIte, Nat.reduceBEq, Nat.reduceAdd, Nat.reduceSub, Nat.reduceMul, Nat.reduceEqDiff, Nat.reduceLeDiff, Nat.reduceLT, qJ, qK, qL, qM, qN, qO, qP, qQ, qR, zJ, qS, qC, qT, qU, qV, qW, qX, qY, qZ, zK, fixed, zL, wit, Option.isSome_some, qH, St.with, zE, Array.size, te, einl, inls, efr]
          generalize hr : loopAt _ _ _ _ _ _ = r; revert r
          exact main
        have b1 := eqWant_in vc k hw hst hp20
        have ol := eqRow_len cs vc k
        have s1 : ∀ i, eqWant w0 cs vc k (i + 1) = if vc.getD i 0 = 1 then eqWant w0 cs vc k i - (cs.getD i cem0).ps.getD k 0 * (cs.getD i cem0).st else eqWant w0 cs vc k i := fun _ => rfl
        have s2 : ∀ i, eqRow cs vc k (i + 1) = if vc.getD i 0 = 2 then eqRow cs vc k i ++ [(cs.getD i cem0).ps.getD k 0] else eqRow cs vc k i := fun _ => rfl
        have z1 : eqWant w0 cs vc k 0 = w0 := rfl
        have z2 : eqRow cs vc k 0 = [] := rfl
        generalize eqWant w0 cs vc k = EW at *
        generalize eqRow cs vc k = ER at *
        refine loop_nat cs.length (fun i _ => [(12, .int .i64 (EW i)), (13, .own 13 0 (ER i).length), (14, .int .i64 (i : Nat))]) (fun i _ => [(13, grow 1 ((ER i).map vI))]) (fun _ (_ : Unit) => True) () (by omega) (by simp (maxSteps := 1000000) (implicitDefEqProofs := false) only [z1, z2, grow, List.map_nil, List.length_nil, Int.natCast_zero, ss, sd, zI, qG, zG, zH, St.get, qE, qF, qB, zD, norm, look, zF, qA, qI, St.alloc, St.drop, zA, part, zC, depth, qD, ↓reduceIte, Nat.reduceBEq, Nat.reduceAdd, Nat.reduceSub, Nat.reduceMul, Nat.reduceEqDiff, Nat.reduceLeDiff, Nat.reduceLT, qJ, qK, qL, qM, qN, qO, qP, qQ, qR, zJ, qS, qC, qT, qU, qV, qW, qX, qY, qZ, zK, fixed, zL, wit, Option.isSome_some, qH, St.with, zE, Array.size, te, einl, inls, efr]) trivial (fun _ _ => ?_) (fun i _ _ c1 c2 c3 => ?_)
        · have t1 : ((ER cs.length).map vI).take (ER cs.length).length = (ER cs.length).map vI := List.take_of_length_le (by simp)
          have ro1 : roomy (R0.length + 1) 24 = true := by simp [roomy]; omega
          have ro2 : roomy (I0.length + 1) 8 = true := by simp [roomy]; omega
          have bi1 : R0.length + 1 ≤ 4294967296 := by omega
          have bi2 : I0.length + 1 ≤ 4294967296 := by omega
          have z3 := sized_encI R0
          have z4 : sized 1 (I0.map vI) = true := sized_vI _
          have e3 : R0.map encI ++ [.sl true ((ER cs.length).map vI)] = (R0 ++ [ER cs.length]).map encI := by simp [encI]
          have e4 : I0.map vI ++ [.int .i64 (EW cs.length)] = (I0 ++ [EW cs.length]).map vI := by simp [vI]
          have e5 : (R0 ++ [ER cs.length]).length = R0.length + 1 := by simp
          have e6 : (I0 ++ [EW cs.length]).length = I0.length + 1 := by simp
          simp (maxSteps := 1000000) (implicitDefEqProofs := false) only [Int.lt_irrefl, a3, grow, t1, ro1, ro2, bi1, bi2, z3, z4, e3, e4, e5, e6, List.length_map, ss, sd, zI, qG, zG, zH, St.get, qE, qF, qB, zD, norm, look, zF, qA, qI, St.alloc, St.drop, zA, part, zC, depth, qD, ↓reduceIte, Nat.reduceBEq, Nat.reduceAdd, Nat.reduceSub, Nat.reduceMul, Nat.reduceEqDiff, Nat.reduceLeDiff, Nat.reduceLT, qJ, qK, qL, qM, qN, qO, qP, qQ, qR, zJ, qS, qC, qT, qU, qV, qW, qX, qY, qZ, zK, fixed, zL, wit, Option.isSome_some, qH, St.with, zE, Array.size, te, einl, inls, efr]
          (first | exact ⟨(), trivial⟩ | refine ⟨(), ?_, trivial⟩ | skip)
        · have g4 : cs[i]? = some cs[i] := List.getElem?_eq_getElem c1
          have g5 : vc[i]? = some vc[i] := List.getElem?_eq_getElem (by omega)
          have c4 : (i : Int) < vc.length := by omega
          have e1 : vc.getD i 0 = vc[i] := by rw [List.getD_eq_getElem?_getD, g5]; rfl
          have e2 : cs.getD i cem0 = cs[i] := by rw [List.getD_eq_getElem?_getD, g4]; rfl
          have hpc := hpl cs[i] (List.getElem_mem _)
          have hp1 := hp20 cs[i] (List.getElem_mem _)
          have hs1 := hst cs[i] (List.getElem_mem _)
          have y1 := s1 i
          have y2 := s2 i
          rw [e1, e2] at y1 y2
          have gp : cs[i].ps[k]? = some (cs[i].ps.getD k 0) := by rw [List.getD_eq_getElem?_getD, List.getElem?_eq_getElem (by omega)]; rfl
          have c5 : (k : Int) < cs[i].ps.length := by omega
          have d0 := b1 i (by omega)
          have d1 := b1 (i + 1) (by omega)
          have oi := ol i
          have mm := mul_in hp1 hs1
          have w3 : IntKind.i64.wrap (cs[i].ps.getD k 0 * cs[i].st) = cs[i].ps.getD k 0 * cs[i].st := wrap_in (by omega)
          clear e1 e2 s1 s2
          generalize cs[i] = c at *
          generalize vc[i] = u at *
          generalize c.ps.getD k 0 = p at *
          generalize EW (i + 1) = E1 at *
          generalize ER (i + 1) = O1 at *
          generalize EW i = E0 at *
          generalize ER i = O0 at *
          subst y2
          have ro : roomy (O0.length + 1) 8 = true := by simp [roomy]; omega
          have bi : O0.length + 1 ≤ 4294967296 := by omega
          have z3 : sized 1 (O0.map vI) = true := sized_vI _
          have e3 : O0.map vI ++ [.int .i64 p] = (O0 ++ [p]).map vI := by simp [vI]
          have e4 : (O0 ++ [p]).length = O0.length + 1 := by simp
          by_cases h1 : u = 1
          · subst h1
            have w4 : IntKind.i64.wrap (E0 - p * c.st) = E1 := by rw [y1, if_pos rfl]; rw [if_pos rfl] at y1; exact wrap_in (by omega)
            have q1 : ((1 : Int) == 2) = false := by decide
            have q2 : ¬ (1 : Int) = 2 := by decide
            simp (maxSteps := 1000000) (implicitDefEqProofs := false) only [c1, c2, c3, c4, c5, g4, g5, gp, w3, w4, q1, q2, grow, encCem, vI, evRegion_st hk3, beq_self_eq_true, Int.natCast_nonneg, Int.toNat_natCast, List.getElem?_map, List.length_map, ss, sd, zI, qG, zG, zH, St.get, qE, qF, qB, zD, norm, look, zF, qA, qI, St.alloc, St.drop, zA, part, zC, depth, qD, ↓reduceIte, Nat.reduceBEq, Nat.reduceAdd, Nat.reduceSub, Nat.reduceMul, Nat.reduceEqDiff, Nat.reduceLeDiff, Nat.reduceLT, qJ, qK, qL, qM, qN, qO, qP, qQ, qR, zJ, qS, qC, qT, qU, qV, qW, qX, qY, qZ, zK, fixed, zL, wit, Option.isSome_some, qH, St.with, zE, Array.size, te, einl, inls, efr]
            (first | exact ⟨(), trivial⟩ | refine ⟨(), ?_, trivial⟩ | skip)
          · rw [if_neg h1] at y1
            subst y1
            have q1 : (u == 1) = false := by simpa using h1
            by_cases h2 : u = 2
            · subst h2
              simp (maxSteps := 1000000) (implicitDefEqProofs := false) only [c1, c2, c3, c4, c5, g4, g5, gp, q1, grow, encCem, vI, ro, bi, z3, e3, e4, beq_self_eq_true, Int.natCast_nonneg, Int.toNat_natCast, List.getElem?_map, List.length_map, ss, sd, zI, qG, zG, zH, St.get, qE, qF, qB, zD, norm, look, zF, qA, qI, St.alloc, St.drop, zA, part, zC, depth, qD, ↓reduceIte, Nat.reduceBEq, Nat.reduceAdd, Nat.reduceSub, Nat.reduceMul, Nat.reduceEqDiff, Nat.reduceLeDiff, Nat.reduceLT, qJ, qK, qL, qM, qN, qO, qP, qQ, qR, zJ, qS, qC, qT, qU, qV, qW, qX, qY, qZ, zK, fixed, zL, wit, Option.isSome_some, qH, St.with, zE, Array.size, te, einl, inls, efr]
              (first | exact ⟨(), trivial⟩ | refine ⟨(), ?_, trivial⟩ | skip)
            · have q2 : (u == 2) = false := by simpa using h2
              simp (maxSteps := 1000000) (implicitDefEqProofs := false) only [c1, c2, c3, c4, c5, g4, g5, gp, q1, q2, h2, grow, encCem, vI, beq_self_eq_true, Int.natCast_nonneg, Int.toNat_natCast, List.getElem?_map, List.length_map, ss, sd, zI, qG, zG, zH, St.get, qE, qF, qB, zD, norm, look, zF, qA, qI, St.alloc, St.drop, zA, part, zC, depth, qD, ↓reduceIte, Nat.reduceBEq, Nat.reduceAdd, Nat.reduceSub, Nat.reduceMul, Nat.reduceEqDiff, Nat.reduceLeDiff, Nat.reduceLT, qJ, qK, qL, qM, qN, qO, qP, qQ, qR, zJ, qS, qC, qT, qU, qV, qW, qX, qY, qZ, zK, fixed, zL, wit, Option.isSome_some, qH, St.with, zE, Array.size, te, einl, inls, efr]
              (first | exact ⟨(), trivial⟩ | refine ⟨(), ?_, trivial⟩ | skip)
  · have g1 : cs[i]? = some cs[i] := List.getElem?_eq_getElem a1
    have g2 : vc[i]? = some vc[i] := List.getElem?_eq_getElem (by omega)
    have a4 : (i : Int) < vc.length := by omega
    have e1 : vc.getD i 0 = vc[i] := by rw [List.getD_eq_getElem?_getD, g2]; rfl
    have e2 : cs.getD i cem0 = cs[i] := by rw [List.getD_eq_getElem?_getD, g1]; rfl
    have b1 := eqTot_in vc ⟨ht1, ht2⟩ hst i (by omega)
    have b2 := eqTot_in vc ⟨ht1, ht2⟩ hst (i + 1) (by omega)
    have ol := eqOnes_len vc i
    have s1 : eqTot tot cs vc (i + 1) = if vc[i] = 1 then eqTot tot cs vc i - cs[i].st else eqTot tot cs vc i := by rw [← e1, ← e2]; rfl
    have s2 : eqOnes vc (i + 1) = if vc[i] = 2 then eqOnes vc i ++ [1] else eqOnes vc i := by rw [← e1]; rfl
    have ro : roomy ((eqOnes vc i).length + 1) 8 = true := by simp [roomy]; omega
    have bi : (eqOnes vc i).length + 1 ≤ 4294967296 := by omega
    have z1 : sized 1 ((eqOnes vc i).map vI) = true := sized_vI _
    have e3 : (eqOnes vc i).map vI ++ [.int .i64 1] = (eqOnes vc i ++ [1]).map vI := by simp [vI]
    have e4 : (eqOnes vc i ++ [1]).length = (eqOnes vc i).length + 1 := by simp
    clear e1 e2
    generalize cs[i] = c at *
    generalize vc[i] = v at *
    generalize eqTot tot cs vc (i + 1) = t1 at *
    generalize eqOnes vc (i + 1) = o1 at *
    generalize eqTot tot cs vc i = t0 at *
    generalize eqOnes vc i = o0 at *
    subst s2
    by_cases h1 : v = 1
    · subst h1
      have w1 : IntKind.i64.wrap (t0 - c.st) = t1 := by rw [s1, if_pos rfl]; rw [if_pos rfl] at s1; exact wrap_in (by omega)
      have q1 : ((1 : Int) == 2) = false := by decide
      have q2 : ¬ (1 : Int) = 2 := by decide
      simp (maxSteps := 1000000) (implicitDefEqProofs := false) only [a1, a2, a3, a4, g1, g2, w1, q1, q2, grow, encCem, vI, beq_self_eq_true, Int.natCast_nonneg, Int.toNat_natCast, List.getElem?_map, List.length_map, ss, sd, zI, qG, zG, zH, St.get, qE, qF, qB, zD, norm, look, zF, qA, qI, St.alloc, St.drop, zA, part, zC, depth, qD, ↓reduceIte, Nat.reduceBEq, Nat.reduceAdd, Nat.reduceSub, Nat.reduceMul, Nat.reduceEqDiff, Nat.reduceLeDiff, Nat.reduceLT, qJ, qK, qL, qM, qN, qO, qP, qQ, qR, zJ, qS, qC, qT, qU, qV, qW, qX, qY, qZ, zK, fixed, zL, wit, Option.isSome_some, qH, St.with, zE, Array.size, te, einl, inls, efr]
      (first | exact ⟨(), trivial⟩ | refine ⟨(), ?_, trivial⟩ | skip)
    · rw [if_neg h1] at s1
      subst s1
      have q1 : (v == 1) = false := by simpa using h1
      by_cases h2 : v = 2
      · subst h2
        simp (maxSteps := 1000000) (implicitDefEqProofs := false) only [a1, a2, a3, a4, g1, g2, q1, grow, encCem, vI, ro, bi, z1, e3, e4, beq_self_eq_true, Int.natCast_nonneg, Int.toNat_natCast, List.getElem?_map, List.length_map, ss, sd, zI, qG, zG, zH, St.get, qE, qF, qB, zD, norm, look, zF, qA, qI, St.alloc, St.drop, zA, part, zC, depth, qD, ↓reduceIte, Nat.reduceBEq, Nat.reduceAdd, Nat.reduceSub, Nat.reduceMul, Nat.reduceEqDiff, Nat.reduceLeDiff, Nat.reduceLT, qJ, qK, qL, qM, qN, qO, qP, qQ, qR, zJ, qS, qC, qT, qU, qV, qW, qX, qY, qZ, zK, fixed, zL, wit, Option.isSome_some, qH, St.with, zE, Array.size, te, einl, inls, efr]
        (first | exact ⟨(), trivial⟩ | refine ⟨(), ?_, trivial⟩ | skip)
      · have q2 : (v == 2) = false := by simpa using h2
        simp (maxSteps := 1000000) (implicitDefEqProofs := false) only [a1, a2, a3, a4, g1, g2, q1, q2, h2, grow, encCem, vI, beq_self_eq_true, Int.natCast_nonneg, Int.toNat_natCast, List.getElem?_map, List.length_map, ss, sd, zI, qG, zG, zH, St.get, qE, qF, qB, zD, norm, look, zF, qA, qI, St.alloc, St.drop, zA, part, zC, depth, qD, ↓reduceIte, Nat.reduceBEq, Nat.reduceAdd, Nat.reduceSub, Nat.reduceMul, Nat.reduceEqDiff, Nat.reduceLeDiff, Nat.reduceLT, qJ, qK, qL, qM, qN, qO, qP, qQ, qR, zJ, qS, qC, qT, qU, qV, qW, qX, qY, qZ, zK, fixed, zL, wit, Option.isSome_some, qH, St.with, zE, Array.size, te, einl, inls, efr]
        (first | exact ⟨(), trivial⟩ | refine ⟨(), ?_, trivial⟩ | skip)
end Go.AM.E

