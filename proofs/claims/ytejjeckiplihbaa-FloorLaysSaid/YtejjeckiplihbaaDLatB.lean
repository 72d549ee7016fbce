/-
The least lattice of a pattern: the document's search.
-/
import Derived.Test.YtejjeckiplihbaaDLat
set_option linter.unusedSimpArgs false
set_option maxRecDepth 20000

namespace Go.AM.D
open Go Go.AM Go.Proofs

def latOb (w s h : Int) : Ob := { es := 4, flat := true, t := true, app := false, elems := [.agg [.int .i64 w, .int .i64 s, .int .i64 h, .emp]] }
def latObs (w s h : Int) : List Int → List (Nat × Ob)
  | [] => [(3, latOb w s h)]
  | c :: r => [(3, { es := 4, flat := false, t := true, app := false, elems := [.agg [.int .i64 w, .int .i64 s, .int .i64 h, .own 80 0 (r.length + 1)]] }), (80, { es := 1, flat := true, t := true, app := true, elems := (c :: r).map vI })]
theorem latObs_cons (w s h : Int) {l : List Int} (hl : ¬ l = []) : latObs w s h l = [(3, { es := 4, flat := false, t := true, app := false, elems := [.agg [.int .i64 w, .int .i64 s, .int .i64 h, .own 80 0 l.length]] }), (80, { es := 1, flat := true, t := true, app := true, elems := l.map vI })] := by
  cases l with
  | nil => exact absurd rfl hl
  | cons c r => rfl
theorem inf119 : (drawn (Try.f119.body.getD .skip)).map infosOf = [[([], false), ([], false), ([], false), ([], false), ([], false), ([], false), ([1], false), ([], true), ([], true), ([], true)]] := by decide +kernel
theorem okD119 : (drawn (Try.f119.body.getD .skip)).all okBad = true := by decide +kernel

set_option maxHeartbeats 8000000 in
theorem c119 (p : Pat) (hp : PatOk p) :
    (orcω E X0).call 119 [encPat p] = some (.agg [.int .i64 (leastW p : Nat), .int .i64 (leastS p : Nat), .int .i64 (leastH p : Nat), .sl true ((rowsP p (leastW p) (leastH p)).map vI)]) := by
  refine call_of rfl fn119 rfl ?_
  have hi := inf119
  have ho := okD119
  simp only [Try.f119, Option.getD_some, drawn, List.map_cons, List.map_nil, List.nil_append, List.append_nil, List.cons_append, List.cons.injEq, and_true] at hi
  simp only [Try.f119, Option.getD_some, drawn, List.nil_append, List.append_nil, List.cons_append, List.all_cons, List.all_nil, Bool.and_true, Bool.and_eq_true] at ho
  obtain ⟨u1, u2, u3, u4⟩ := leastW_spec hp
  obtain ⟨v1, v2, v3, v4⟩ := leastH_spec hp
  obtain ⟨x1, x2, x3⟩ := leastS_spec hp
  have w2 := hp.w2
  have h2 := hp.h2
  have kp := fun a b ha hb => c140 p a b hp ha hb
  have kc := fun x y hx hy => c122 p x y hp hx hy
  have hitno : ∀ h, 1 ≤ h → h < leastH p → ∀ s, s < leastW p → okS p h s = false := fun h e1 e2 s e3 => by
    have := v4 h e1 e2
    unfold hitH at this
    rw [List.any_eq_false] at this
    simpa using this s (List.mem_range.2 e3)
  have q1 := hp.w1
  have q2 := hp.h1
  unfold okW okS at *
  generalize leastW p = W at *
  generalize leastH p = H at *
  generalize leastS p = S at *
  unfold encPat at *
  simp (maxSteps := 1000000) (implicitDefEqProofs := false) only [Try.ntmps119, Try.results119, efc119, fc119, ss, sd, evOp, evPlain, evVal, evMem, St.get, sliceOf, arrayOf, fieldsOf, normOf, norm, look, evVar, evFieldAddr, nameOf, St.alloc, St.drop, killOb, part, splice, depth, resultsV, ↓reduceIte, Nat.reduceBEq, Nat.reduceAdd, Nat.reduceSub, Nat.reduceMul, Nat.reduceEqDiff, Nat.reduceLeDiff, Nat.reduceLT, effOf, effMem, effVar, effLit, effMake, effApp, lend, evLit, evNil, freeze, evField, evIndexT, orNil, evSlice, placeOf, evMap, mapOf, keyOk, evFrame, closed, fixed, sameEs, wit, Option.isSome_some, St.with, wantedD, Array.size, te, einl, inls, efr]
  generalize hr : loopAt _ _ _ _ _ _ = r; revert r
  refine loop_inv (ι := { n : Nat // 1 ≤ n ∧ n ≤ W }) (fun _ => []) (fun n => [(3, latOb (n.1 : Nat) 0 1)]) (fun n => W - n.1) ⟨1, by omega, u1⟩ (by simp (maxSteps := 1000000) (implicitDefEqProofs := false) only [latOb, Int.natCast_one, ss, sd, evOp, evPlain, evVal, evMem, St.get, sliceOf, arrayOf, fieldsOf, normOf, norm, look, evVar, evFieldAddr, nameOf, St.alloc, St.drop, killOb, part, splice, depth, resultsV, ↓reduceIte, Nat.reduceBEq, Nat.reduceAdd, Nat.reduceSub, Nat.reduceMul, Nat.reduceEqDiff, Nat.reduceLeDiff, Nat.reduceLT, effOf, effMem, effVar, effLit, effMake, effApp, lend, evLit, evNil, freeze, evField, evIndexT, orNil, evSlice, placeOf, evMap, mapOf, keyOk, evFrame, closed, fixed, sameEs, wit, Option.isSome_some, St.with, wantedD, Array.size, te, einl, inls, efr]) ?_
  rintro ⟨n, n1, n2⟩
  dsimp only
  have nz : ¬ (n : Int) = 0 := by omega
  have tm : p.w.tmod n = p.w % n := mod_nat (by omega)
  have b1 := Int.emod_nonneg p.w nz
  have b2 := Int.emod_lt_of_pos p.w (show (0 : Int) < n by omega)
  have w1 : IntKind.i64.wrap (p.w % (n : Int)) = p.w % n := wrap_in (by omega)
  have m1 := kp n 0 (by omega) (by omega)
  by_cases e : n = W
  · subst e
    rw [Bool.and_eq_true] at u3
    have z : (p.w % (n : Int) != 0) = false := by simpa using u3.1
    rw [u3.2] at m1
    simp (maxSteps := 1000000) (implicitDefEqProofs := false) only [latOb, nz, tm, w1, m1, z, ne_eq, not_false_eq_true, ss, sd, evOp, evPlain, evVal, evMem, St.get, sliceOf, arrayOf, fieldsOf, normOf, norm, look, evVar, evFieldAddr, nameOf, St.alloc, St.drop, killOb, part, splice, depth, resultsV, ↓reduceIte, Nat.reduceBEq, Nat.reduceAdd, Nat.reduceSub, Nat.reduceMul, Nat.reduceEqDiff, Nat.reduceLeDiff, Nat.reduceLT, effOf, effMem, effVar, effLit, effMake, effApp, lend, evLit, evNil, freeze, evField, evIndexT, orNil, evSlice, placeOf, evMap, mapOf, keyOk, evFrame, closed, fixed, sameEs, wit, Option.isSome_some, St.with, wantedD, Array.size, te, einl, inls, efr]
    generalize hr : loopAt _ _ _ _ _ _ = r; revert r
    refine loop_inv (ι := { q : Nat × Nat × Bool // 1 ≤ q.1 ∧ q.1 ≤ H ∧ q.2.1 ≤ n ∧ (q.2.2 = true → q.1 = H ∧ q.2.1 = S) }) (fun q => [(4, .bool q.1.2.2)]) (fun q => [(3, latOb n (q.1.2.1 : Nat) (q.1.1 : Nat))]) (fun q => if q.1.2.2 = true then 0 else H - q.1.1 + 1) ⟨(1, 0, false), Nat.le_refl _, v1, Nat.zero_le _, fun h => by cases h⟩ (by simp (maxSteps := 1000000) (implicitDefEqProofs := false) only [latOb, Int.natCast_one, Int.natCast_zero, ss, sd, evOp, evPlain, evVal, evMem, St.get, sliceOf, arrayOf, fieldsOf, normOf, norm, look, evVar, evFieldAddr, nameOf, St.alloc, St.drop, killOb, part, splice, depth, resultsV, ↓reduceIte, Nat.reduceBEq, Nat.reduceAdd, Nat.reduceSub, Nat.reduceMul, Nat.reduceEqDiff, Nat.reduceLeDiff, Nat.reduceLT, effOf, effMem, effVar, effLit, effMake, effApp, lend, evLit, evNil, freeze, evField, evIndexT, orNil, evSlice, placeOf, evMap, mapOf, keyOk, evFrame, closed, fixed, sameEs, wit, Option.isSome_some, St.with, wantedD, Array.size, te, einl, inls, efr]) ?_
    rintro ⟨⟨h, s, found⟩, h1, h2', h3, h4⟩
    dsimp only at h1 h2' h3 h4 ⊢
    cases found with
    | true =>
      obtain ⟨rfl, rfl⟩ := h4 rfl
      simp (maxSteps := 1000000) (implicitDefEqProofs := false) only [latOb, ss, sd, evOp, evPlain, evVal, evMem, St.get, sliceOf, arrayOf, fieldsOf, normOf, norm, look, evVar, evFieldAddr, nameOf, St.alloc, St.drop, killOb, part, splice, depth, resultsV, ↓reduceIte, Nat.reduceBEq, Nat.reduceAdd, Nat.reduceSub, Nat.reduceMul, Nat.reduceEqDiff, Nat.reduceLeDiff, Nat.reduceLT, effOf, effMem, effVar, effLit, effMake, effApp, lend, evLit, evNil, freeze, evField, evIndexT, orNil, evSlice, placeOf, evMap, mapOf, keyOk, evFrame, closed, fixed, sameEs, wit, Option.isSome_some, St.with, wantedD, Array.size, te, einl, inls, efr]
      generalize hr : loopAt _ _ _ _ _ _ = r; revert r
      refine loop_nat h (fun i _ => [(5, .int .i64 (i : Nat))]) (fun i _ => latObs n s h (rowsP p n i)) (fun _ (_ : Unit) => True) () (by omega) (by simp (maxSteps := 1000000) (implicitDefEqProofs := false) only [latObs, latOb, rowsP, Int.natCast_zero, ss, sd, evOp, evPlain, evVal, evMem, St.get, sliceOf, arrayOf, fieldsOf, normOf, norm, look, evVar, evFieldAddr, nameOf, St.alloc, St.drop, killOb, part, splice, depth, resultsV, ↓reduceIte, Nat.reduceBEq, Nat.reduceAdd, Nat.reduceSub, Nat.reduceMul, Nat.reduceEqDiff, Nat.reduceLeDiff, Nat.reduceLT, effOf, effMem, effVar, effLit, effMake, effApp, lend, evLit, evNil, freeze, evField, evIndexT, orNil, evSlice, placeOf, evMap, mapOf, keyOk, evFrame, closed, fixed, sameEs, wit, Option.isSome_some, St.with, wantedD, Array.size, te, einl, inls, efr]) trivial (fun _ _ => ?_) (fun i _ _ a1 a2 a3 => ?_)
      · have hl : ¬ rowsP p n h = [] := fun e => by
          have := rowsP_len p n h
          rw [e] at this
          have := Nat.mul_pos (show 0 < h by omega) (show 0 < n by omega)
          simp at *
          omega
        rw [latObs_cons _ _ _ hl]
        generalize rowsP p n h = l at *
        have tz : (l.map vI).take l.length = l.map vI := List.take_of_length_le (by simp)
        simp (maxSteps := 1000000) (implicitDefEqProofs := false) only [Int.lt_irrefl, tz, List.length_map, Try.ntmps119, Try.results119, efc119, fc119, ss, sd, evOp, evPlain, evVal, evMem, St.get, sliceOf, arrayOf, fieldsOf, normOf, norm, look, evVar, evFieldAddr, nameOf, St.alloc, St.drop, killOb, part, splice, depth, resultsV, ↓reduceIte, Nat.reduceBEq, Nat.reduceAdd, Nat.reduceSub, Nat.reduceMul, Nat.reduceEqDiff, Nat.reduceLeDiff, Nat.reduceLT, effOf, effMem, effVar, effLit, effMake, effApp, lend, evLit, evNil, freeze, evField, evIndexT, orNil, evSlice, placeOf, evMap, mapOf, keyOk, evFrame, closed, fixed, sameEs, wit, Option.isSome_some, St.with, wantedD, Array.size, te, einl, inls, efr]
      · have hlen := rowsP_len p n i
        have hmul : i * n ≤ 144 * 144 := Nat.mul_le_mul (by omega) (by omega)
        have hs := rowsP_succ p n i
        have hl0 := fun j => cellsP_succ p i j
        have hl1 := fun j => cellsP_len p i j
        generalize rowsP p n (i + 1) = l1 at *
        generalize hR : rowsP p n i = l0 at *
        have hne : ¬ l1 = [] := fun e => by
          have q := congrArg List.length hs
          rw [e, List.length_append, hl1 n, List.length_nil] at q
          omega
        rw [latObs_cons _ _ _ hne]
        by_cases h0 : l0 = []
        · subst h0
          simp (maxSteps := 1000000) (implicitDefEqProofs := false) only [a2, a3, latObs, latOb, ss, sd, evOp, evPlain, evVal, evMem, St.get, sliceOf, arrayOf, fieldsOf, normOf, norm, look, evVar, evFieldAddr, nameOf, St.alloc, St.drop, killOb, part, splice, depth, resultsV, ↓reduceIte, Nat.reduceBEq, Nat.reduceAdd, Nat.reduceSub, Nat.reduceMul, Nat.reduceEqDiff, Nat.reduceLeDiff, Nat.reduceLT, effOf, effMem, effVar, effLit, effMake, effApp, lend, evLit, evNil, freeze, evField, evIndexT, orNil, evSlice, placeOf, evMap, mapOf, keyOk, evFrame, closed, fixed, sameEs, wit, Option.isSome_some, St.with, wantedD, Array.size, te, einl, inls, efr]
          generalize hr : loopAt _ _ _ _ _ _ = r; revert r
          refine loop_nat n (fun j _ => [(6, .int .i64 (j : Nat))]) (fun j _ => latObs n s h ([] ++ cellsP p i j)) (fun _ (_ : Unit) => True) () (by omega) (by simp (maxSteps := 1000000) (implicitDefEqProofs := false) only [show cellsP p i 0 = [] from rfl, latObs, latOb, List.append_nil, Int.natCast_zero, ss, sd, evOp, evPlain, evVal, evMem, St.get, sliceOf, arrayOf, fieldsOf, normOf, norm, look, evVar, evFieldAddr, nameOf, St.alloc, St.drop, killOb, part, splice, depth, resultsV, ↓reduceIte, Nat.reduceBEq, Nat.reduceAdd, Nat.reduceSub, Nat.reduceMul, Nat.reduceEqDiff, Nat.reduceLeDiff, Nat.reduceLT, effOf, effMem, effVar, effLit, effMake, effApp, lend, evLit, evNil, freeze, evField, evIndexT, orNil, evSlice, placeOf, evMap, mapOf, keyOk, evFrame, closed, fixed, sameEs, wit, Option.isSome_some, St.with, wantedD, Array.size, te, einl, inls, efr]) trivial (fun _ _ => ?_) (fun j _ _ b1 b2 b3 => ?_)
          · rw [← hs, latObs_cons _ _ _ hne]
            simp (maxSteps := 1000000) (implicitDefEqProofs := false) only [Int.lt_irrefl, a3, ss, sd, evOp, evPlain, evVal, evMem, St.get, sliceOf, arrayOf, fieldsOf, normOf, norm, look, evVar, evFieldAddr, nameOf, St.alloc, St.drop, killOb, part, splice, depth, resultsV, ↓reduceIte, Nat.reduceBEq, Nat.reduceAdd, Nat.reduceSub, Nat.reduceMul, Nat.reduceEqDiff, Nat.reduceLeDiff, Nat.reduceLT, effOf, effMem, effVar, effLit, effMake, effApp, lend, evLit, evNil, freeze, evField, evIndexT, orNil, evSlice, placeOf, evMap, mapOf, keyOk, evFrame, closed, fixed, sameEs, wit, Option.isSome_some, St.with, wantedD, Array.size, te, einl, inls, efr]
            (first | exact ⟨(), trivial⟩ | refine ⟨(), ?_, trivial⟩ | skip)
          · have m1 := kc j i (by omega) (by omega)
            have hc := hl0 j
            have hc1 := hl1 j
            generalize colP p (j : Int) (i : Int) = c at *
            rw [hc, ← List.append_assoc]
            generalize hL : [] ++ cellsP p i j = l at *
            have hll : l.length ≤ 30000 := by rw [← hL, List.length_append]; omega
            by_cases hn : l = []
            · subst hn
              rw [latObs_cons _ _ _ (show ¬ [] ++ [c] = [] by simp)]
              have q5 : roomy 1 8 = true := by decide
              simp (maxSteps := 1000000) (implicitDefEqProofs := false) only [b2, b3, m1, q5, vI, latObs, latOb, regT ho hi, evBT_nil, evBT_cons, effT_true, effT_false, effT2_some, effT2_none, calmT, free, Eff.writes, supp, isBar, Option.toList_some, Option.toList_none, List.nil_append, List.length_nil, Nat.zero_add, Int.le_refl, Int.natCast_nonneg, Int.toNat_natCast, ss, sd, evOp, evPlain, evVal, evMem, St.get, sliceOf, arrayOf, fieldsOf, normOf, norm, look, evVar, evFieldAddr, nameOf, St.alloc, St.drop, killOb, part, splice, depth, resultsV, ↓reduceIte, Nat.reduceBEq, Nat.reduceAdd, Nat.reduceSub, Nat.reduceMul, Nat.reduceEqDiff, Nat.reduceLeDiff, Nat.reduceLT, effOf, effMem, effVar, effLit, effMake, effApp, lend, evLit, evNil, freeze, evField, evIndexT, orNil, evSlice, placeOf, evMap, mapOf, keyOk, evFrame, closed, fixed, sameEs, wit, Option.isSome_some, St.with, wantedD, Array.size, te, einl, inls, efr]
              (first | exact ⟨(), trivial⟩ | refine ⟨(), ?_, trivial⟩ | skip)
            · rw [latObs_cons _ _ _ hn, latObs_cons _ _ _ (show ¬ l ++ [c] = [] by simp)]
              have e1 : (l ++ [c]).map vI = l.map vI ++ [.int .i64 c] := by rw [List.map_append]; rfl
              have e2 : (l ++ [c]).length = l.length + 1 := by simp
              have hroom : roomy (l.length + 1) 8 = true := by simp [roomy]; omega
              have hbig : l.length + 1 ≤ 4294967296 := by omega
              have z2 : sized 1 (l.map vI) = true := sized_vI _
              rw [e1, e2]
              simp (maxSteps := 1000000) (implicitDefEqProofs := false) only [b2, b3, m1, hroom, hbig, z2, regT ho hi, evBT_nil, evBT_cons, effT_true, effT_false, effT2_some, effT2_none, calmT, free, Eff.writes, supp, isBar, Option.toList_some, Option.toList_none, List.length_map, Int.natCast_nonneg, Int.toNat_natCast, ss, sd, evOp, evPlain, evVal, evMem, St.get, sliceOf, arrayOf, fieldsOf, normOf, norm, look, evVar, evFieldAddr, nameOf, St.alloc, St.drop, killOb, part, splice, depth, resultsV, ↓reduceIte, Nat.reduceBEq, Nat.reduceAdd, Nat.reduceSub, Nat.reduceMul, Nat.reduceEqDiff, Nat.reduceLeDiff, Nat.reduceLT, effOf, effMem, effVar, effLit, effMake, effApp, lend, evLit, evNil, freeze, evField, evIndexT, orNil, evSlice, placeOf, evMap, mapOf, keyOk, evFrame, closed, fixed, sameEs, wit, Option.isSome_some, St.with, wantedD, Array.size, te, einl, inls, efr]
              (first | exact ⟨(), trivial⟩ | refine ⟨(), ?_, trivial⟩ | skip)
        · rw [latObs_cons _ _ _ h0]
          simp (maxSteps := 1000000) (implicitDefEqProofs := false) only [a2, a3, ss, sd, evOp, evPlain, evVal, evMem, St.get, sliceOf, arrayOf, fieldsOf, normOf, norm, look, evVar, evFieldAddr, nameOf, St.alloc, St.drop, killOb, part, splice, depth, resultsV, ↓reduceIte, Nat.reduceBEq, Nat.reduceAdd, Nat.reduceSub, Nat.reduceMul, Nat.reduceEqDiff, Nat.reduceLeDiff, Nat.reduceLT, effOf, effMem, effVar, effLit, effMake, effApp, lend, evLit, evNil, freeze, evField, evIndexT, orNil, evSlice, placeOf, evMap, mapOf, keyOk, evFrame, closed, fixed, sameEs, wit, Option.isSome_some, St.with, wantedD, Array.size, te, einl, inls, efr]
          generalize hr : loopAt _ _ _ _ _ _ = r; revert r
          refine loop_nat n (fun j _ => [(6, .int .i64 (j : Nat))]) (fun j _ => latObs n s h (l0 ++ cellsP p i j)) (fun _ (_ : Unit) => True) () (by omega) (by rw [show cellsP p i 0 = [] from rfl, List.append_nil, latObs_cons _ _ _ h0]; simp (maxSteps := 1000000) (implicitDefEqProofs := false) only [Int.natCast_zero, ss, sd, evOp, evPlain, evVal, evMem, St.get, sliceOf, arrayOf, fieldsOf, normOf, norm, look, evVar, evFieldAddr, nameOf, St.alloc, St.drop, killOb, part, splice, depth, resultsV, ↓reduceIte, Nat.reduceBEq, Nat.reduceAdd, Nat.reduceSub, Nat.reduceMul, Nat.reduceEqDiff, Nat.reduceLeDiff, Nat.reduceLT, effOf, effMem, effVar, effLit, effMake, effApp, lend, evLit, evNil, freeze, evField, evIndexT, orNil, evSlice, placeOf, evMap, mapOf, keyOk, evFrame, closed, fixed, sameEs, wit, Option.isSome_some, St.with, wantedD, Array.size, te, einl, inls, efr]) trivial (fun _ _ => ?_) (fun j _ _ b1 b2 b3 => ?_)
          · rw [← hs, latObs_cons _ _ _ hne]
            simp (maxSteps := 1000000) (implicitDefEqProofs := false) only [Int.lt_irrefl, a3, ss, sd, evOp, evPlain, evVal, evMem, St.get, sliceOf, arrayOf, fieldsOf, normOf, norm, look, evVar, evFieldAddr, nameOf, St.alloc, St.drop, killOb, part, splice, depth, resultsV, ↓reduceIte, Nat.reduceBEq, Nat.reduceAdd, Nat.reduceSub, Nat.reduceMul, Nat.reduceEqDiff, Nat.reduceLeDiff, Nat.reduceLT, effOf, effMem, effVar, effLit, effMake, effApp, lend, evLit, evNil, freeze, evField, evIndexT, orNil, evSlice, placeOf, evMap, mapOf, keyOk, evFrame, closed, fixed, sameEs, wit, Option.isSome_some, St.with, wantedD, Array.size, te, einl, inls, efr]
            (first | exact ⟨(), trivial⟩ | refine ⟨(), ?_, trivial⟩ | skip)
          · have m1 := kc j i (by omega) (by omega)
            have hc := hl0 j
            have hc1 := hl1 j
            generalize colP p (j : Int) (i : Int) = c at *
            rw [hc, ← List.append_assoc]
            generalize hL : l0 ++ cellsP p i j = l at *
            have hll : l.length ≤ 30000 := by rw [← hL, List.length_append]; omega
            by_cases hn : l = []
            · subst hn
              exact absurd (List.append_eq_nil_iff.1 hL).1 h0
            · rw [latObs_cons _ _ _ hn, latObs_cons _ _ _ (show ¬ l ++ [c] = [] by simp)]
              have e1 : (l ++ [c]).map vI = l.map vI ++ [.int .i64 c] := by rw [List.map_append]; rfl
              have e2 : (l ++ [c]).length = l.length + 1 := by simp
              have hroom : roomy (l.length + 1) 8 = true := by simp [roomy]; omega
              have hbig : l.length + 1 ≤ 4294967296 := by omega
              have z2 : sized 1 (l.map vI) = true := sized_vI _
              rw [e1, e2]
              simp (maxSteps := 1000000) (implicitDefEqProofs := false) only [b2, b3, m1, hroom, hbig, z2, regT ho hi, evBT_nil, evBT_cons, effT_true, effT_false, effT2_some, effT2_none, calmT, free, Eff.writes, supp, isBar, Option.toList_some, Option.toList_none, List.length_map, Int.natCast_nonneg, Int.toNat_natCast, ss, sd, evOp, evPlain, evVal, evMem, St.get, sliceOf, arrayOf, fieldsOf, normOf, norm, look, evVar, evFieldAddr, nameOf, St.alloc, St.drop, killOb, part, splice, depth, resultsV, ↓reduceIte, Nat.reduceBEq, Nat.reduceAdd, Nat.reduceSub, Nat.reduceMul, Nat.reduceEqDiff, Nat.reduceLeDiff, Nat.reduceLT, effOf, effMem, effVar, effLit, effMake, effApp, lend, evLit, evNil, freeze, evField, evIndexT, orNil, evSlice, placeOf, evMap, mapOf, keyOk, evFrame, closed, fixed, sameEs, wit, Option.isSome_some, St.with, wantedD, Array.size, te, einl, inls, efr]
              (first | exact ⟨(), trivial⟩ | refine ⟨(), ?_, trivial⟩ | skip)
    | false =>
      have w5 : IntKind.i64.wrap ((h : Int) + 1) = ((h + 1 : Nat) : Int) := by rw [wrap_in (by omega)]; omega
      have hz : ¬ (h : Int) = 0 := by omega
      have tm2 : p.h.tmod h = p.h % h := mod_nat (by omega)
      have d1 := Int.emod_nonneg p.h hz
      have d2 := Int.emod_lt_of_pos p.h (show (0 : Int) < h by omega)
      have w6 : IntKind.i64.wrap (p.h % (h : Int)) = p.h % h := wrap_in (by omega)
      simp (maxSteps := 1000000) (implicitDefEqProofs := false) only [latOb, ss, sd, evOp, evPlain, evVal, evMem, St.get, sliceOf, arrayOf, fieldsOf, normOf, norm, look, evVar, evFieldAddr, nameOf, St.alloc, St.drop, killOb, part, splice, depth, resultsV, ↓reduceIte, Nat.reduceBEq, Nat.reduceAdd, Nat.reduceSub, Nat.reduceMul, Nat.reduceEqDiff, Nat.reduceLeDiff, Nat.reduceLT, effOf, effMem, effVar, effLit, effMake, effApp, lend, evLit, evNil, freeze, evField, evIndexT, orNil, evSlice, placeOf, evMap, mapOf, keyOk, evFrame, closed, fixed, sameEs, wit, Option.isSome_some, St.with, wantedD, Array.size, te, einl, inls, efr]
      generalize hr : loopAt _ _ _ _ _ _ = r; revert r
      refine loop_inv (ι := { q : Nat × Bool // q.1 ≤ n ∧ (h = H → q.1 ≤ S) ∧ (q.2 = true → h = H ∧ q.1 = S) }) (fun q => [(4, .bool q.1.2)]) (fun q => [(3, latOb n (q.1.1 : Nat) (h : Nat))]) (fun q => if q.1.2 = true then 0 else n - q.1.1 + 1) ⟨(0, false), by omega, fun _ => by omega, fun h => by cases h⟩ (by simp (maxSteps := 1000000) (implicitDefEqProofs := false) only [latOb, Int.natCast_zero, ss, sd, evOp, evPlain, evVal, evMem, St.get, sliceOf, arrayOf, fieldsOf, normOf, norm, look, evVar, evFieldAddr, nameOf, St.alloc, St.drop, killOb, part, splice, depth, resultsV, ↓reduceIte, Nat.reduceBEq, Nat.reduceAdd, Nat.reduceSub, Nat.reduceMul, Nat.reduceEqDiff, Nat.reduceLeDiff, Nat.reduceLT, effOf, effMem, effVar, effLit, effMake, effApp, lend, evLit, evNil, freeze, evField, evIndexT, orNil, evSlice, placeOf, evMap, mapOf, keyOk, evFrame, closed, fixed, sameEs, wit, Option.isSome_some, St.with, wantedD, Array.size, te, einl, inls, efr]) ?_
      rintro ⟨⟨t, found⟩, t1, t2, t3⟩
      dsimp only at t1 t2 t3 ⊢
      cases found with
      | true =>
        obtain ⟨rfl, rfl⟩ := t3 rfl
        have t4 : (t : Int) < n := by omega
        simp (maxSteps := 1000000) (implicitDefEqProofs := false) only [latOb, t4, ss, sd, evOp, evPlain, evVal, evMem, St.get, sliceOf, arrayOf, fieldsOf, normOf, norm, look, evVar, evFieldAddr, nameOf, St.alloc, St.drop, killOb, part, splice, depth, resultsV, ↓reduceIte, Nat.reduceBEq, Nat.reduceAdd, Nat.reduceSub, Nat.reduceMul, Nat.reduceEqDiff, Nat.reduceLeDiff, Nat.reduceLT, effOf, effMem, effVar, effLit, effMake, effApp, lend, evLit, evNil, freeze, evField, evIndexT, orNil, evSlice, placeOf, evMap, mapOf, keyOk, evFrame, closed, fixed, sameEs, wit, Option.isSome_some, St.with, wantedD, Array.size, te, einl, inls, efr]
        exact ⟨⟨(h, t, true), h1, h2', by dsimp only; omega, fun _ => ⟨rfl, rfl⟩⟩, rfl, by dsimp only; simp⟩
      | false =>
        by_cases tn : t = n
        · have hH : ¬ h = H := fun e => by have := t2 e; omega
          subst tn
          simp (maxSteps := 1000000) (implicitDefEqProofs := false) only [latOb, Int.lt_irrefl, w5, ss, sd, evOp, evPlain, evVal, evMem, St.get, sliceOf, arrayOf, fieldsOf, normOf, norm, look, evVar, evFieldAddr, nameOf, St.alloc, St.drop, killOb, part, splice, depth, resultsV, ↓reduceIte, Nat.reduceBEq, Nat.reduceAdd, Nat.reduceSub, Nat.reduceMul, Nat.reduceEqDiff, Nat.reduceLeDiff, Nat.reduceLT, effOf, effMem, effVar, effLit, effMake, effApp, lend, evLit, evNil, freeze, evField, evIndexT, orNil, evSlice, placeOf, evMap, mapOf, keyOk, evFrame, closed, fixed, sameEs, wit, Option.isSome_some, St.with, wantedD, Array.size, te, einl, inls, efr]
          exact ⟨⟨(h + 1, t, false), by dsimp only; omega, by dsimp only; omega, Nat.le_refl _, fun h => by cases h⟩, rfl, by dsimp only; simp; omega⟩
        · have t4 : (t : Int) < n := by omega
          have m2 := kp t h (by omega) (by omega)
          have w7 : IntKind.i64.wrap ((t : Int) + 1) = ((t + 1 : Nat) : Int) := by rw [wrap_in (by omega)]; omega
          by_cases z2 : p.h % (h : Int) = 0
          · have zz : (p.h % (h : Int) == 0) = true := by simpa using z2
            by_cases hit : h = H ∧ t = S
            · obtain ⟨rfl, rfl⟩ := hit
              rw [Bool.and_eq_true] at x2
              rw [x2.2] at m2
              simp (maxSteps := 1000000) (implicitDefEqProofs := false) only [latOb, t4, hz, tm2, w6, zz, m2, ne_eq, not_false_eq_true, ss, sd, evOp, evPlain, evVal, evMem, St.get, sliceOf, arrayOf, fieldsOf, normOf, norm, look, evVar, evFieldAddr, nameOf, St.alloc, St.drop, killOb, part, splice, depth, resultsV, ↓reduceIte, Nat.reduceBEq, Nat.reduceAdd, Nat.reduceSub, Nat.reduceMul, Nat.reduceEqDiff, Nat.reduceLeDiff, Nat.reduceLT, effOf, effMem, effVar, effLit, effMake, effApp, lend, evLit, evNil, freeze, evField, evIndexT, orNil, evSlice, placeOf, evMap, mapOf, keyOk, evFrame, closed, fixed, sameEs, wit, Option.isSome_some, St.with, wantedD, Array.size, te, einl, inls, efr]
              exact ⟨⟨(t, true), t1, fun _ => Nat.le_refl _, fun _ => ⟨rfl, rfl⟩⟩, rfl, by dsimp only; simp⟩
            · have pf : perP p t h = false := by
                by_cases e : h = H
                · subst e
                  have := x3 t (by have := t2 rfl; omega)
                  rw [zz, Bool.true_and] at this
                  exact this
                · have := hitno h h1 (by omega) t (by omega)
                  rw [zz, Bool.true_and] at this
                  exact this
              rw [pf] at m2
              simp (maxSteps := 1000000) (implicitDefEqProofs := false) only [latOb, t4, hz, tm2, w6, w7, zz, m2, ne_eq, not_false_eq_true, ss, sd, evOp, evPlain, evVal, evMem, St.get, sliceOf, arrayOf, fieldsOf, normOf, norm, look, evVar, evFieldAddr, nameOf, St.alloc, St.drop, killOb, part, splice, depth, resultsV, ↓reduceIte, Nat.reduceBEq, Nat.reduceAdd, Nat.reduceSub, Nat.reduceMul, Nat.reduceEqDiff, Nat.reduceLeDiff, Nat.reduceLT, effOf, effMem, effVar, effLit, effMake, effApp, lend, evLit, evNil, freeze, evField, evIndexT, orNil, evSlice, placeOf, evMap, mapOf, keyOk, evFrame, closed, fixed, sameEs, wit, Option.isSome_some, St.with, wantedD, Array.size, te, einl, inls, efr]
              exact ⟨⟨(t + 1, false), by dsimp only; omega, fun e => by have := t2 e; dsimp only; omega, fun h => by cases h⟩, rfl, by dsimp only; simp; omega⟩
          · have zz : (p.h % (h : Int) == 0) = false := by simpa using z2
            have hH : ¬ h = H := fun e => by
              subst e
              rw [Bool.and_eq_true, zz] at x2
              exact absurd x2.1 (by decide)
            simp (maxSteps := 1000000) (implicitDefEqProofs := false) only [latOb, t4, hz, tm2, w6, w7, zz, ne_eq, not_false_eq_true, ss, sd, evOp, evPlain, evVal, evMem, St.get, sliceOf, arrayOf, fieldsOf, normOf, norm, look, evVar, evFieldAddr, nameOf, St.alloc, St.drop, killOb, part, splice, depth, resultsV, ↓reduceIte, Nat.reduceBEq, Nat.reduceAdd, Nat.reduceSub, Nat.reduceMul, Nat.reduceEqDiff, Nat.reduceLeDiff, Nat.reduceLT, effOf, effMem, effVar, effLit, effMake, effApp, lend, evLit, evNil, freeze, evField, evIndexT, orNil, evSlice, placeOf, evMap, mapOf, keyOk, evFrame, closed, fixed, sameEs, wit, Option.isSome_some, St.with, wantedD, Array.size, te, einl, inls, efr]
            exact ⟨⟨(t + 1, false), by dsimp only; omega, fun e => absurd e hH, fun h => by cases h⟩, rfl, by dsimp only; simp; omega⟩
  · have f := u4 n n1 (by omega)
    have w3 : IntKind.i64.wrap ((n : Int) + 1) = ((n + 1 : Nat) : Int) := by rw [wrap_in (by omega)]; omega
    rw [Bool.and_eq_false_iff] at f
    by_cases z0 : p.w % (n : Int) = 0
    · have z : (p.w % (n : Int) != 0) = false := by simpa using z0
      have pf : perP p n 0 = false := by
        rcases f with f | f
        · rw [z0] at f; simp at f
        · exact f
      rw [pf] at m1
      simp (maxSteps := 1000000) (implicitDefEqProofs := false) only [latOb, nz, tm, w1, m1, z, w3, ne_eq, not_false_eq_true, ss, sd, evOp, evPlain, evVal, evMem, St.get, sliceOf, arrayOf, fieldsOf, normOf, norm, look, evVar, evFieldAddr, nameOf, St.alloc, St.drop, killOb, part, splice, depth, resultsV, ↓reduceIte, Nat.reduceBEq, Nat.reduceAdd, Nat.reduceSub, Nat.reduceMul, Nat.reduceEqDiff, Nat.reduceLeDiff, Nat.reduceLT, effOf, effMem, effVar, effLit, effMake, effApp, lend, evLit, evNil, freeze, evField, evIndexT, orNil, evSlice, placeOf, evMap, mapOf, keyOk, evFrame, closed, fixed, sameEs, wit, Option.isSome_some, St.with, wantedD, Array.size, te, einl, inls, efr]
      exact ⟨⟨n + 1, by omega, by omega⟩, rfl, by dsimp only; omega⟩
    · have z : (p.w % (n : Int) != 0) = true := by simpa using z0
      simp (maxSteps := 1000000) (implicitDefEqProofs := false) only [latOb, nz, tm, w1, z, w3, ne_eq, not_false_eq_true, ss, sd, evOp, evPlain, evVal, evMem, St.get, sliceOf, arrayOf, fieldsOf, normOf, norm, look, evVar, evFieldAddr, nameOf, St.alloc, St.drop, killOb, part, splice, depth, resultsV, ↓reduceIte, Nat.reduceBEq, Nat.reduceAdd, Nat.reduceSub, Nat.reduceMul, Nat.reduceEqDiff, Nat.reduceLeDiff, Nat.reduceLT, effOf, effMem, effVar, effLit, effMake, effApp, lend, evLit, evNil, freeze, evField, evIndexT, orNil, evSlice, placeOf, evMap, mapOf, keyOk, evFrame, closed, fixed, sameEs, wit, Option.isSome_some, St.with, wantedD, Array.size, te, einl, inls, efr]
      exact ⟨⟨n + 1, by omega, by omega⟩, rfl, by dsimp only; omega⟩
end Go.AM.D
