/-
Programs of heats (loft.program, loft.Program).
-/
import Derived.Test.YtbfgifolmpmagaaBFin
set_option linter.unusedVariables false
set_option linter.unusedSimpArgs false

namespace Go.AM.B
open Go Go.AM Go.Proofs

def progFrom (f : Loft) (need most : Int) : Nat → Nat → Option (List Int)
  | _, 0 => none
  | d, n + 1 => match finS f need most d 0 0 with
    | some l => some l
    | none => progFrom f need most (d + 1) n
def progS (f : Loft) (need most : Int) : Option (List Int) := progFrom f need most 1 12
def encO : Option (List Int) → V
  | none => .tup [.sl true [], .bool false]
  | some l => .tup [.sl true (l.map vI), .bool true]

set_option maxHeartbeats 8000000 in
theorem c64 (f : Loft) (need most : Int) (hf : loftOk f = true) : (orcω E X0).call 64 [encL f, .int .i64 need, .int .i64 most] = some (encO (progS f need most)) := by
  refine call_of rfl fn64 rfl ?_
  unfold encL
  simp (maxSteps := 1000000) (implicitDefEqProofs := false) only [Try.ntmps64, Try.results64, efc64, fc64, ss, List.replicate, zH, qG, zF, zG, St.eval, St.put, St.get, constV, List.set, lenV, qE, qF, qB, zC, norm, xQ, look, xP, xX, zO, zM, zE, zN, qA, qI, St.alloc, St.drop, killL, kill, xU, xV, zA, upd, cells?, part, retag, xT, putIn, refFree, xR, isNew, xS, Ty.isAgg, zB, idsL, ids, idsLL, reach, depth, St.dropL, qD, resultV, ↓reduceIte, Nat.reduceBEq, Nat.reduceAdd, Nat.reduceSub, Nat.reduceMul, Nat.reduceEqDiff, Nat.reduceLeDiff, Nat.reduceLT, qJ, qK, zV, zW, qL, qM, qN, qO, Eff.ap, qP, qQ, xW, qR, zI, onto, dropO, xA, sized, zP, eqT, eqG, minV, evUn, qS, zQ, zR, zS, qC, qT, upO, evSlice0, optInt, xC, qV, xD, del, xB, plain, plainL, zY, zZ, zT, qW, zU, zX, xY, qX, qY, qZ, xE, zJ, zK, zL, xF, xG, wit, xH, Option.isSome_some, xI, qH, xJ, evPre, St.with, xK, xL, zD, xM, xN, xO, Array.size, te, einl, inls, efr]
  generalize hr : loopAt _ _ _ _ _ _ = r; revert r
  refine loop_inv (ι := { i : Nat × Nat × List Key // 1 ≤ i.1 ∧ i.1 + i.2.1 = 13 ∧ progFrom f need most i.1 i.2.1 = progS f need most ∧ Dead f need most i.2.2 })
    (fun i => [(9, .int .i64 i.1.1)]) (fun i => [(15, deadOb i.1.2.2)]) (fun i => i.1.2.1) ⟨(1, 12, []), Nat.le_refl _, rfl, rfl, fun _ _ _ h => by cases h⟩ (by simp (maxSteps := 1000000) (implicitDefEqProofs := false) only [deadOb, deadV, List.map_nil, Int.natCast_one, ss, List.replicate, zH, qG, zF, zG, St.eval, St.put, St.get, constV, List.set, lenV, qE, qF, qB, zC, norm, xQ, look, xP, xX, zO, zM, zE, zN, qA, qI, St.alloc, St.drop, killL, kill, xU, xV, zA, upd, cells?, part, retag, xT, putIn, refFree, xR, isNew, xS, Ty.isAgg, zB, idsL, ids, idsLL, reach, depth, St.dropL, qD, resultV, ↓reduceIte, Nat.reduceBEq, Nat.reduceAdd, Nat.reduceSub, Nat.reduceMul, Nat.reduceEqDiff, Nat.reduceLeDiff, Nat.reduceLT, qJ, qK, zV, zW, qL, qM, qN, qO, Eff.ap, qP, qQ, xW, qR, zI, onto, dropO, xA, sized, zP, eqT, eqG, minV, evUn, qS, zQ, zR, zS, qC, qT, upO, evSlice0, optInt, xC, qV, xD, del, xB, plain, plainL, zY, zZ, zT, qW, zU, zX, xY, qX, qY, qZ, xE, zJ, zK, zL, xF, xG, wit, xH, Option.isSome_some, xI, qH, xJ, evPre, St.with, xK, xL, zD, xM, xN, xO, Array.size, te, einl, inls, efr]) ?_
  rintro ⟨⟨d, n, D⟩, i1, i2, i3, i4⟩
  dsimp only at i1 i2 i3 i4 ⊢
  cases n with
  | zero =>
    have le : ¬ (d : Int) ≤ 12 := by omega
    rw [← i3]
    simp (maxSteps := 1000000) (implicitDefEqProofs := false) only [le, Try.ntmps64, Try.results64, efc64, fc64, progFrom, encO, ss, List.replicate, zH, qG, zF, zG, St.eval, St.put, St.get, constV, List.set, lenV, qE, qF, qB, zC, norm, xQ, look, xP, xX, zO, zM, zE, zN, qA, qI, St.alloc, St.drop, killL, kill, xU, xV, zA, upd, cells?, part, retag, xT, putIn, refFree, xR, isNew, xS, Ty.isAgg, zB, idsL, ids, idsLL, reach, depth, St.dropL, qD, resultV, ↓reduceIte, Nat.reduceBEq, Nat.reduceAdd, Nat.reduceSub, Nat.reduceMul, Nat.reduceEqDiff, Nat.reduceLeDiff, Nat.reduceLT, qJ, qK, zV, zW, qL, qM, qN, qO, Eff.ap, qP, qQ, xW, qR, zI, onto, dropO, xA, sized, zP, eqT, eqG, minV, evUn, qS, zQ, zR, zS, qC, qT, upO, evSlice0, optInt, xC, qV, xD, del, xB, plain, plainL, zY, zZ, zT, qW, zU, zX, xY, qX, qY, qZ, xE, zJ, zK, zL, xF, xG, wit, xH, Option.isSome_some, xI, qH, xJ, evPre, St.with, xK, xL, zD, xM, xN, xO, Array.size, te, einl, inls, efr]
  | succ n =>
    have le : (d : Int) ≤ 12 := by omega
    have w1 : IntKind.i64.wrap ((d : Int) + 1) = ((d + 1 : Nat) : Int) := by rw [wrap_in (by omega)]; omega
    obtain ⟨sl1, k1⟩ := finIs_to (fin_is (need := need) (most := most) hf d 0 0 D (by omega) (by omega) (by omega))
    obtain ⟨s1, s2, s3⟩ := fin_spec (f := f) (need := need) (most := most) d 0 0 D i4
    rw [progFrom] at i3
    cases hr : finM f need most d 0 0 D with
    | mk a D2 =>
    rw [hr] at k1 s1 s2
    dsimp only at k1 s1 s2
    rw [← s1] at i3
    match a, k1, i3 with
    | none, k1, i3 =>
      simp only [finSt, keyV, deadOb, searchOb, finV, finObs, boxOb] at k1
      simp (maxSteps := 1000000) (implicitDefEqProofs := false) only [deadOb, le, w1, k1, List.isEmpty_cons, Option.isNone_none, ss, List.replicate, zH, qG, zF, zG, St.eval, St.put, St.get, constV, List.set, lenV, qE, qF, qB, zC, norm, xQ, look, xP, xX, zO, zM, zE, zN, qA, qI, St.alloc, St.drop, killL, kill, xU, xV, zA, upd, cells?, part, retag, xT, putIn, refFree, xR, isNew, xS, Ty.isAgg, zB, idsL, ids, idsLL, reach, depth, St.dropL, qD, resultV, ↓reduceIte, Nat.reduceBEq, Nat.reduceAdd, Nat.reduceSub, Nat.reduceMul, Nat.reduceEqDiff, Nat.reduceLeDiff, Nat.reduceLT, qJ, qK, zV, zW, qL, qM, qN, qO, Eff.ap, qP, qQ, xW, qR, zI, onto, dropO, xA, sized, zP, eqT, eqG, minV, evUn, qS, zQ, zR, zS, qC, qT, upO, evSlice0, optInt, xC, qV, xD, del, xB, plain, plainL, zY, zZ, zT, qW, zU, zX, xY, qX, qY, qZ, xE, zJ, zK, zL, xF, xG, wit, xH, Option.isSome_some, xI, qH, xJ, evPre, St.with, xK, xL, zD, xM, xN, xO, Array.size, te, einl, inls, efr]
      exact ⟨⟨(d + 1, n, D2), by dsimp only; omega, by dsimp only; omega, i3, s2⟩, rfl, Nat.lt_succ_self _⟩
    | some [], k1, i3 =>
      simp only [finSt, keyV, deadOb, searchOb, finV, finObs, boxOb] at k1
      replace i3 : some [] = progS f need most := i3
      rw [← i3]
      simp (maxSteps := 1000000) (implicitDefEqProofs := false) only [deadOb, le, w1, k1, List.isEmpty_cons, Option.isNone_none, encO, List.map_nil, Try.ntmps64, Try.results64, efc64, fc64, ss, List.replicate, zH, qG, zF, zG, St.eval, St.put, St.get, constV, List.set, lenV, qE, qF, qB, zC, norm, xQ, look, xP, xX, zO, zM, zE, zN, qA, qI, St.alloc, St.drop, killL, kill, xU, xV, zA, upd, cells?, part, retag, xT, putIn, refFree, xR, isNew, xS, Ty.isAgg, zB, idsL, ids, idsLL, reach, depth, St.dropL, qD, resultV, ↓reduceIte, Nat.reduceBEq, Nat.reduceAdd, Nat.reduceSub, Nat.reduceMul, Nat.reduceEqDiff, Nat.reduceLeDiff, Nat.reduceLT, qJ, qK, zV, zW, qL, qM, qN, qO, Eff.ap, qP, qQ, xW, qR, zI, onto, dropO, xA, sized, zP, eqT, eqG, minV, evUn, qS, zQ, zR, zS, qC, qT, upO, evSlice0, optInt, xC, qV, xD, del, xB, plain, plainL, zY, zZ, zT, qW, zU, zX, xY, qX, qY, qZ, xE, zJ, zK, zL, xF, xG, wit, xH, Option.isSome_some, xI, qH, xJ, evPre, St.with, xK, xL, zD, xM, xN, xO, Array.size, te, einl, inls, efr]
    | some (b :: l), k1, i3 =>
      simp only [finSt, keyV, deadOb, searchOb, finV, finObs, boxOb, heatsOb] at k1
      replace i3 : some (b :: l) = progS f need most := i3
      rw [← i3]
      simp (maxSteps := 1000000) (implicitDefEqProofs := false) only [deadOb, le, w1, k1, List.isEmpty_cons, Option.isNone_none, encO, List.map_cons, List.length_cons, Try.ntmps64, Try.results64, efc64, fc64, ss, List.replicate, zH, qG, zF, zG, St.eval, St.put, St.get, constV, List.set, lenV, qE, qF, qB, zC, norm, xQ, look, xP, xX, zO, zM, zE, zN, qA, qI, St.alloc, St.drop, killL, kill, xU, xV, zA, upd, cells?, part, retag, xT, putIn, refFree, xR, isNew, xS, Ty.isAgg, zB, idsL, ids, idsLL, reach, depth, St.dropL, qD, resultV, ↓reduceIte, Nat.reduceBEq, Nat.reduceAdd, Nat.reduceSub, Nat.reduceMul, Nat.reduceEqDiff, Nat.reduceLeDiff, Nat.reduceLT, qJ, qK, zV, zW, qL, qM, qN, qO, Eff.ap, qP, qQ, xW, qR, zI, onto, dropO, xA, sized, zP, eqT, eqG, minV, evUn, qS, zQ, zR, zS, qC, qT, upO, evSlice0, optInt, xC, qV, xD, del, xB, plain, plainL, zY, zZ, zT, qW, zU, zX, xY, qX, qY, qZ, xE, zJ, zK, zL, xF, xG, wit, xH, Option.isSome_some, xI, qH, xJ, evPre, St.with, xK, xL, zD, xM, xN, xO, Array.size, te, einl, inls, efr]

def progR (f : Loft) (need most : Int) : Option (List Int) × Int := if validLs [f] = 0 then (if inB need 1 60 = true ∧ inB most need 60 = true then (progS f need most, 0) else (none, 1)) else (none, validLs [f])
def encP : Option (List Int) × Int → V
  | (none, e) => .tup [.sl true [], .bool false, .int .i64 e]
  | (some l, e) => .tup [.sl true (l.map vI), .bool true, .int .i64 e]

set_option maxHeartbeats 8000000 in
theorem c32 (f : Loft) (need most : Int) : (orcω E X0).call 32 [encL f, .int .i64 need, .int .i64 most] = some (encP (progR f need most)) := by
  refine call_of rfl fn32 rfl ?_
  have k1 := c30 [f]
  have k2 := c58 need 1 60
  have k3 := c58 most need 60
  have k4 := c64 f need most
  unfold progR
  unfold encL at k1 k4 ⊢
  simp only [List.map_cons, List.map_nil, encL] at k1
  rcases validLs_one [f] with h1 | h1
  · have hf := (validLs_zero h1).2 f (by simp)
    rw [h1] at k1
    cases h2 : inB need 1 60 with
    | false => simp (maxSteps := 1000000) (implicitDefEqProofs := false) only [Try.ntmps32, Try.results32, efc32, k1, k2, h1, h2, encP, bne_self_eq_false, false_and, ss, List.replicate, zH, qG, zF, zG, St.eval, St.put, St.get, constV, List.set, lenV, qE, qF, qB, zC, norm, xQ, look, xP, xX, zO, zM, zE, zN, qA, qI, St.alloc, St.drop, killL, kill, xU, xV, zA, upd, cells?, part, retag, xT, putIn, refFree, xR, isNew, xS, Ty.isAgg, zB, idsL, ids, idsLL, reach, depth, St.dropL, qD, resultV, ↓reduceIte, Nat.reduceBEq, Nat.reduceAdd, Nat.reduceSub, Nat.reduceMul, Nat.reduceEqDiff, Nat.reduceLeDiff, Nat.reduceLT, qJ, qK, zV, zW, qL, qM, qN, qO, Eff.ap, qP, qQ, xW, qR, zI, onto, dropO, xA, sized, zP, eqT, eqG, minV, evUn, qS, zQ, zR, zS, qC, qT, upO, evSlice0, optInt, xC, qV, xD, del, xB, plain, plainL, zY, zZ, zT, qW, zU, zX, xY, qX, qY, qZ, xE, zJ, zK, zL, xF, xG, wit, xH, Option.isSome_some, xI, qH, xJ, evPre, St.with, xK, xL, zD, xM, xN, xO, Array.size, te, einl, inls, efr]
    | true =>
    cases h3 : inB most need 60 with
    | false => simp (maxSteps := 1000000) (implicitDefEqProofs := false) only [Try.ntmps32, Try.results32, efc32, k1, k2, k3, h1, h2, h3, encP, bne_self_eq_false, and_false, ss, List.replicate, zH, qG, zF, zG, St.eval, St.put, St.get, constV, List.set, lenV, qE, qF, qB, zC, norm, xQ, look, xP, xX, zO, zM, zE, zN, qA, qI, St.alloc, St.drop, killL, kill, xU, xV, zA, upd, cells?, part, retag, xT, putIn, refFree, xR, isNew, xS, Ty.isAgg, zB, idsL, ids, idsLL, reach, depth, St.dropL, qD, resultV, ↓reduceIte, Nat.reduceBEq, Nat.reduceAdd, Nat.reduceSub, Nat.reduceMul, Nat.reduceEqDiff, Nat.reduceLeDiff, Nat.reduceLT, qJ, qK, zV, zW, qL, qM, qN, qO, Eff.ap, qP, qQ, xW, qR, zI, onto, dropO, xA, sized, zP, eqT, eqG, minV, evUn, qS, zQ, zR, zS, qC, qT, upO, evSlice0, optInt, xC, qV, xD, del, xB, plain, plainL, zY, zZ, zT, qW, zU, zX, xY, qX, qY, qZ, xE, zJ, zK, zL, xF, xG, wit, xH, Option.isSome_some, xI, qH, xJ, evPre, St.with, xK, xL, zD, xM, xN, xO, Array.size, te, einl, inls, efr]
    | true =>
    have k4 := k4 hf
    cases hp : progS f need most with
    | none =>
      rw [hp] at k4
      simp only [encO] at k4
      simp (maxSteps := 1000000) (implicitDefEqProofs := false) only [Try.ntmps32, Try.results32, efc32, k1, k2, k3, k4, h1, h2, h3, encP, hp, bne_self_eq_false, and_self, ss, List.replicate, zH, qG, zF, zG, St.eval, St.put, St.get, constV, List.set, lenV, qE, qF, qB, zC, norm, xQ, look, xP, xX, zO, zM, zE, zN, qA, qI, St.alloc, St.drop, killL, kill, xU, xV, zA, upd, cells?, part, retag, xT, putIn, refFree, xR, isNew, xS, Ty.isAgg, zB, idsL, ids, idsLL, reach, depth, St.dropL, qD, resultV, ↓reduceIte, Nat.reduceBEq, Nat.reduceAdd, Nat.reduceSub, Nat.reduceMul, Nat.reduceEqDiff, Nat.reduceLeDiff, Nat.reduceLT, qJ, qK, zV, zW, qL, qM, qN, qO, Eff.ap, qP, qQ, xW, qR, zI, onto, dropO, xA, sized, zP, eqT, eqG, minV, evUn, qS, zQ, zR, zS, qC, qT, upO, evSlice0, optInt, xC, qV, xD, del, xB, plain, plainL, zY, zZ, zT, qW, zU, zX, xY, qX, qY, qZ, xE, zJ, zK, zL, xF, xG, wit, xH, Option.isSome_some, xI, qH, xJ, evPre, St.with, xK, xL, zD, xM, xN, xO, Array.size, te, einl, inls, efr]
    | some l =>
      rw [hp] at k4
      simp only [encO] at k4
      simp (maxSteps := 1000000) (implicitDefEqProofs := false) only [Try.ntmps32, Try.results32, efc32, k1, k2, k3, k4, h1, h2, h3, encP, hp, bne_self_eq_false, and_self, ss, List.replicate, zH, qG, zF, zG, St.eval, St.put, St.get, constV, List.set, lenV, qE, qF, qB, zC, norm, xQ, look, xP, xX, zO, zM, zE, zN, qA, qI, St.alloc, St.drop, killL, kill, xU, xV, zA, upd, cells?, part, retag, xT, putIn, refFree, xR, isNew, xS, Ty.isAgg, zB, idsL, ids, idsLL, reach, depth, St.dropL, qD, resultV, ↓reduceIte, Nat.reduceBEq, Nat.reduceAdd, Nat.reduceSub, Nat.reduceMul, Nat.reduceEqDiff, Nat.reduceLeDiff, Nat.reduceLT, qJ, qK, zV, zW, qL, qM, qN, qO, Eff.ap, qP, qQ, xW, qR, zI, onto, dropO, xA, sized, zP, eqT, eqG, minV, evUn, qS, zQ, zR, zS, qC, qT, upO, evSlice0, optInt, xC, qV, xD, del, xB, plain, plainL, zY, zZ, zT, qW, zU, zX, xY, qX, qY, qZ, xE, zJ, zK, zL, xF, xG, wit, xH, Option.isSome_some, xI, qH, xJ, evPre, St.with, xK, xL, zD, xM, xN, xO, Array.size, te, einl, inls, efr]
  · rw [h1] at k1
    simp (maxSteps := 1000000) (implicitDefEqProofs := false) only [Try.ntmps32, Try.results32, efc32, k1, h1, encP, Int.reduceBNe, Int.reduceEq, ↓reduceIte, ss, List.replicate, zH, qG, zF, zG, St.eval, St.put, St.get, constV, List.set, lenV, qE, qF, qB, zC, norm, xQ, look, xP, xX, zO, zM, zE, zN, qA, qI, St.alloc, St.drop, killL, kill, xU, xV, zA, upd, cells?, part, retag, xT, putIn, refFree, xR, isNew, xS, Ty.isAgg, zB, idsL, ids, idsLL, reach, depth, St.dropL, qD, resultV, ↓reduceIte, Nat.reduceBEq, Nat.reduceAdd, Nat.reduceSub, Nat.reduceMul, Nat.reduceEqDiff, Nat.reduceLeDiff, Nat.reduceLT, qJ, qK, zV, zW, qL, qM, qN, qO, Eff.ap, qP, qQ, xW, qR, zI, onto, dropO, xA, sized, zP, eqT, eqG, minV, evUn, qS, zQ, zR, zS, qC, qT, upO, evSlice0, optInt, xC, qV, xD, del, xB, plain, plainL, zY, zZ, zT, qW, zU, zX, xY, qX, qY, qZ, xE, zJ, zK, zL, xF, xG, wit, xH, Option.isSome_some, xI, qH, xJ, evPre, St.with, xK, xL, zD, xM, xN, xO, Array.size, te, einl, inls, efr]
end Go.AM.B

