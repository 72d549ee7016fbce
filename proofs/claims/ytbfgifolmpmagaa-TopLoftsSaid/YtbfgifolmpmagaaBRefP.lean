/-
Programs of heats of the reference.
-/
import Derived.Test.YtbfgifolmpmagaaBSums
import Derived.Test.YtbfgifolmpmagaaBProg
set_option linter.unusedVariables false
set_option linter.unusedSimpArgs false

namespace Go.AM.B
open Go Go.AM Go.Proofs

def anyB (F : Nat → Bool) (sum need most : Int) : Bool := (List.range 109).any fun s => F s && inB (sum + s) need most

theorem anyB_upto (F : Nat → Bool) (sum need most : Int) (k : Nat) (hk : k < 109) (_h0 : (List.range k).any (fun s => F s && inB (sum + s) need most) = false) :
    (F k && inB (sum + k) need most) = true → anyB F sum need most = true := fun h => by
  unfold anyB
  rw [List.any_eq_true]
  exact ⟨k, List.mem_range.2 hk, h⟩

set_option maxHeartbeats 4000000 in
theorem c106 (F : Nat → Bool) (t : Bool) (sum need most : Int) (hs : 0 ≤ sum ∧ sum ≤ 1000000) : (orcω E X0).call 106 [.int .i64 sum, .sl t (bL 109 F), .int .i64 need, .int .i64 most] = some (.bool (anyB F sum need most)) := by
  refine call_of rfl fn106 rfl ?_
  have k1 := fun x => c59 x need most
  have c109 : ((109 : Nat) : Int) = 109 := rfl
  simp (maxSteps := 1000000) (implicitDefEqProofs := false) only [Try.ntmps106, Try.results106, efc106, fc106, ss, List.replicate, zH, qG, zF, zG, St.eval, St.put, St.get, constV, List.set, lenV, qE, qF, qB, zC, norm, xQ, look, xP, xX, zO, zM, zE, zN, qA, qI, St.alloc, St.drop, killL, kill, xU, xV, zA, upd, cells?, part, retag, xT, putIn, refFree, xR, isNew, xS, Ty.isAgg, zB, idsL, ids, idsLL, reach, depth, St.dropL, qD, resultV, ↓reduceIte, Nat.reduceBEq, Nat.reduceAdd, Nat.reduceSub, Nat.reduceMul, Nat.reduceEqDiff, Nat.reduceLeDiff, Nat.reduceLT, qJ, qK, zV, zW, qL, qM, qN, qO, Eff.ap, qP, qQ, xW, qR, zI, onto, dropO, xA, sized, zP, eqT, eqG, minV, evUn, qS, zQ, zR, zS, qC, qT, upO, evSlice0, optInt, xC, qV, xD, del, xB, plain, plainL, zY, zZ, zT, qW, zU, zX, xY, qX, qY, qZ, xE, zJ, zK, zL, xF, xG, wit, xH, Option.isSome_some, xI, qH, xJ, evPre, St.with, xK, xL, zD, xM, xN, xO, Array.size, te, einl, inls, efr]
  generalize hr : loopAt _ _ _ _ _ _ = r; revert r
  refine loop_inv (ι := { k : Nat // k ≤ 109 ∧ (List.range k).any (fun s => F s && inB (sum + s) need most) = false }) (fun i => [(9, .int .i64 i.1)]) (fun _ => []) (fun i => 109 - i.1) ⟨0, by omega, rfl⟩ (by simp (maxSteps := 1000000) (implicitDefEqProofs := false) only [Int.natCast_zero, ss, List.replicate, zH, qG, zF, zG, St.eval, St.put, St.get, constV, List.set, lenV, qE, qF, qB, zC, norm, xQ, look, xP, xX, zO, zM, zE, zN, qA, qI, St.alloc, St.drop, killL, kill, xU, xV, zA, upd, cells?, part, retag, xT, putIn, refFree, xR, isNew, xS, Ty.isAgg, zB, idsL, ids, idsLL, reach, depth, St.dropL, qD, resultV, ↓reduceIte, Nat.reduceBEq, Nat.reduceAdd, Nat.reduceSub, Nat.reduceMul, Nat.reduceEqDiff, Nat.reduceLeDiff, Nat.reduceLT, qJ, qK, zV, zW, qL, qM, qN, qO, Eff.ap, qP, qQ, xW, qR, zI, onto, dropO, xA, sized, zP, eqT, eqG, minV, evUn, qS, zQ, zR, zS, qC, qT, upO, evSlice0, optInt, xC, qV, xD, del, xB, plain, plainL, zY, zZ, zT, qW, zU, zX, xY, qX, qY, qZ, xE, zJ, zK, zL, xF, xG, wit, xH, Option.isSome_some, xI, qH, xJ, evPre, St.with, xK, xL, zD, xM, xN, xO, Array.size, te, einl, inls, efr]) ?_
  rintro ⟨k, hk, h0⟩
  dsimp only
  by_cases hlt : k < 109
  case neg =>
    obtain rfl : k = 109 := by omega
    have e : anyB F sum need most = false := h0
    simp (maxSteps := 1000000) (implicitDefEqProofs := false) only [bL_len, Int.lt_irrefl, e, Try.ntmps106, Try.results106, efc106, fc106, ss, List.replicate, zH, qG, zF, zG, St.eval, St.put, St.get, constV, List.set, lenV, qE, qF, qB, zC, norm, xQ, look, xP, xX, zO, zM, zE, zN, qA, qI, St.alloc, St.drop, killL, kill, xU, xV, zA, upd, cells?, part, retag, xT, putIn, refFree, xR, isNew, xS, Ty.isAgg, zB, idsL, ids, idsLL, reach, depth, St.dropL, qD, resultV, ↓reduceIte, Nat.reduceBEq, Nat.reduceAdd, Nat.reduceSub, Nat.reduceMul, Nat.reduceEqDiff, Nat.reduceLeDiff, Nat.reduceLT, qJ, qK, zV, zW, qL, qM, qN, qO, Eff.ap, qP, qQ, xW, qR, zI, onto, dropO, xA, sized, zP, eqT, eqG, minV, evUn, qS, zQ, zR, zS, qC, qT, upO, evSlice0, optInt, xC, qV, xD, del, xB, plain, plainL, zY, zZ, zT, qW, zU, zX, xY, qX, qY, qZ, xE, zJ, zK, zL, xF, xG, wit, xH, Option.isSome_some, xI, qH, xJ, evPre, St.with, xK, xL, zD, xM, xN, xO, Array.size, te, einl, inls, efr]
  case pos =>
    have hlt' : (k : Int) < 109 := by omega
    have gb := bL_get F hlt
    have w1 : IntKind.i64.wrap ((k : Int) + 1) = ((k + 1 : Nat) : Int) := by rw [wrap_in (by omega)]; omega
    have w2 : IntKind.i64.wrap (sum + (k : Int)) = sum + k := wrap_in (by omega)
    have e1 := anyB_upto F sum need most k hlt h0
    have e2 : (List.range (k + 1)).any (fun s => F s && inB (sum + s) need most) = (F k && inB (sum + k) need most) := by
      rw [List.range_succ, List.any_append, h0]; simp
    cases hF : F k with
    | false =>
      rw [hF] at gb
      simp (maxSteps := 1000000) (implicitDefEqProofs := false) only [bL_len, c109, hlt', gb, w1, Int.natCast_nonneg, Int.toNat_natCast, ss, List.replicate, zH, qG, zF, zG, St.eval, St.put, St.get, constV, List.set, lenV, qE, qF, qB, zC, norm, xQ, look, xP, xX, zO, zM, zE, zN, qA, qI, St.alloc, St.drop, killL, kill, xU, xV, zA, upd, cells?, part, retag, xT, putIn, refFree, xR, isNew, xS, Ty.isAgg, zB, idsL, ids, idsLL, reach, depth, St.dropL, qD, resultV, ↓reduceIte, Nat.reduceBEq, Nat.reduceAdd, Nat.reduceSub, Nat.reduceMul, Nat.reduceEqDiff, Nat.reduceLeDiff, Nat.reduceLT, qJ, qK, zV, zW, qL, qM, qN, qO, Eff.ap, qP, qQ, xW, qR, zI, onto, dropO, xA, sized, zP, eqT, eqG, minV, evUn, qS, zQ, zR, zS, qC, qT, upO, evSlice0, optInt, xC, qV, xD, del, xB, plain, plainL, zY, zZ, zT, qW, zU, zX, xY, qX, qY, qZ, xE, zJ, zK, zL, xF, xG, wit, xH, Option.isSome_some, xI, qH, xJ, evPre, St.with, xK, xL, zD, xM, xN, xO, Array.size, te, einl, inls, efr]
      exact ⟨⟨k + 1, by omega, by rw [e2, hF]; rfl⟩, rfl, by dsimp only; omega⟩
    | true =>
      rw [hF] at gb e1
      cases hi : inB (sum + k) need most with
      | false =>
        simp (maxSteps := 1000000) (implicitDefEqProofs := false) only [bL_len, c109, hlt', gb, w1, w2, k1, hi, Int.natCast_nonneg, Int.toNat_natCast, ss, List.replicate, zH, qG, zF, zG, St.eval, St.put, St.get, constV, List.set, lenV, qE, qF, qB, zC, norm, xQ, look, xP, xX, zO, zM, zE, zN, qA, qI, St.alloc, St.drop, killL, kill, xU, xV, zA, upd, cells?, part, retag, xT, putIn, refFree, xR, isNew, xS, Ty.isAgg, zB, idsL, ids, idsLL, reach, depth, St.dropL, qD, resultV, ↓reduceIte, Nat.reduceBEq, Nat.reduceAdd, Nat.reduceSub, Nat.reduceMul, Nat.reduceEqDiff, Nat.reduceLeDiff, Nat.reduceLT, qJ, qK, zV, zW, qL, qM, qN, qO, Eff.ap, qP, qQ, xW, qR, zI, onto, dropO, xA, sized, zP, eqT, eqG, minV, evUn, qS, zQ, zR, zS, qC, qT, upO, evSlice0, optInt, xC, qV, xD, del, xB, plain, plainL, zY, zZ, zT, qW, zU, zX, xY, qX, qY, qZ, xE, zJ, zK, zL, xF, xG, wit, xH, Option.isSome_some, xI, qH, xJ, evPre, St.with, xK, xL, zD, xM, xN, xO, Array.size, te, einl, inls, efr]
        exact ⟨⟨k + 1, by omega, by rw [e2, hi]; simp⟩, rfl, by dsimp only; omega⟩
      | true =>
        rw [hi] at e1
        have e3 := e1 rfl
        simp (maxSteps := 1000000) (implicitDefEqProofs := false) only [bL_len, c109, hlt', gb, w1, w2, k1, hi, e3, Int.natCast_nonneg, Int.toNat_natCast, Try.ntmps106, Try.results106, efc106, fc106, ss, List.replicate, zH, qG, zF, zG, St.eval, St.put, St.get, constV, List.set, lenV, qE, qF, qB, zC, norm, xQ, look, xP, xX, zO, zM, zE, zN, qA, qI, St.alloc, St.drop, killL, kill, xU, xV, zA, upd, cells?, part, retag, xT, putIn, refFree, xR, isNew, xS, Ty.isAgg, zB, idsL, ids, idsLL, reach, depth, St.dropL, qD, resultV, ↓reduceIte, Nat.reduceBEq, Nat.reduceAdd, Nat.reduceSub, Nat.reduceMul, Nat.reduceEqDiff, Nat.reduceLeDiff, Nat.reduceLT, qJ, qK, zV, zW, qL, qM, qN, qO, Eff.ap, qP, qQ, xW, qR, zI, onto, dropO, xA, sized, zP, eqT, eqG, minV, evUn, qS, zQ, zR, zS, qC, qT, upO, evSlice0, optInt, xC, qV, xD, del, xB, plain, plainL, zY, zZ, zT, qW, zU, zX, xY, qX, qY, qZ, xE, zJ, zK, zL, xF, xG, wit, xH, Option.isSome_some, xI, qH, xJ, evPre, St.with, xK, xL, zD, xM, xN, xO, Array.size, te, einl, inls, efr]

def canB (f : Loft) (need most : Int) (r : Nat) (h s : Int) : Bool := anyB (reachB f r h.toNat) s need most
def refFrom (f : Loft) (need most : Int) : Nat → Int → Int → Option (List Int)
  | 0, _, _ => some []
  | r + 1, last, sum => match (nextH last).find? (fun h => canB f need most r h (sum + rateAt f h)) with
    | some h => (refFrom f need most r h (sum + rateAt f h)).map (h :: ·)
    | none => none

theorem okT66 : okCode (Try.f66.body.getD .skip) = true := by decide +kernel

set_option maxHeartbeats 8000000 in
theorem c66 (f : Loft) (need most : Int) (days : Nat) (hf : loftOk f = true) (hd : days ≤ 12) : (orcω E X0).call 66 [encL f, .sl false (levelsV f 13), .int .i64 need, .int .i64 most, .int .i64 days] = some (encO (refFrom f need most days 0 0)) := by
  refine call_of rfl fn66 rfl ?_
  have hok := okT66
  simp only [Try.f66, Option.getD_some, okCode, Bool.and_eq_true, Bool.and_true, Bool.true_and] at hok
  obtain ⟨_, f5, _⟩ := loftOk_iff.1 hf
  unfold encL
  simp (maxSteps := 1000000) (implicitDefEqProofs := false) only [Try.ntmps66, Try.results66, efc66, fc66, ss, List.replicate, zH, qG, zF, zG, St.eval, St.put, St.get, constV, List.set, lenV, qE, qF, qB, zC, norm, xQ, look, xP, xX, zO, zM, zE, zN, qA, qI, St.alloc, St.drop, killL, kill, xU, xV, zA, upd, cells?, part, retag, xT, putIn, refFree, xR, isNew, xS, Ty.isAgg, zB, idsL, ids, idsLL, reach, depth, St.dropL, qD, resultV, ↓reduceIte, Nat.reduceBEq, Nat.reduceAdd, Nat.reduceSub, Nat.reduceMul, Nat.reduceEqDiff, Nat.reduceLeDiff, Nat.reduceLT, qJ, qK, zV, zW, qL, qM, qN, qO, Eff.ap, qP, qQ, xW, qR, zI, onto, dropO, xA, sized, zP, eqT, eqG, minV, evUn, qS, zQ, zR, zS, qC, qT, upO, evSlice0, optInt, xC, qV, xD, del, xB, plain, plainL, zY, zZ, zT, qW, zU, zX, xY, qX, qY, qZ, xE, zJ, zK, zL, xF, xG, wit, xH, Option.isSome_some, xI, qH, xJ, evPre, St.with, xK, xL, zD, xM, xN, xO, Array.size, te, einl, inls, efr]
  generalize hr : loopAt _ _ _ _ _ _ = r; revert r
  refine loop_inv (ι := { i : List Int × Int × Int // i.1.length ≤ days ∧ (0 ≤ i.2.1 ∧ i.2.1 ≤ 4) ∧ (0 ≤ i.2.2 ∧ i.2.2 ≤ 9 * i.1.length) ∧ (refFrom f need most (days - i.1.length) i.2.1 i.2.2).map (i.1 ++ ·) = refFrom f need most days 0 0 })
    (fun i => [(12, .own 12 0 i.1.1.length), (13, .int .i64 i.1.2.1), (14, .int .i64 i.1.2.2), (15, .int .i64 i.1.1.length)]) (fun i => [(12, ob1 (i.1.1.map vI))]) (fun i => days - i.1.1.length)
    ⟨([], 0, 0), Nat.zero_le _, by decide, by simp, by simp⟩ (by simp (maxSteps := 1000000) (implicitDefEqProofs := false) only [ob1_eq, List.map_nil, Int.natCast_zero, ss, List.replicate, zH, qG, zF, zG, St.eval, St.put, St.get, constV, List.set, lenV, qE, qF, qB, zC, norm, xQ, look, xP, xX, zO, zM, zE, zN, qA, qI, St.alloc, St.drop, killL, kill, xU, xV, zA, upd, cells?, part, retag, xT, putIn, refFree, xR, isNew, xS, Ty.isAgg, zB, idsL, ids, idsLL, reach, depth, St.dropL, qD, resultV, ↓reduceIte, Nat.reduceBEq, Nat.reduceAdd, Nat.reduceSub, Nat.reduceMul, Nat.reduceEqDiff, Nat.reduceLeDiff, Nat.reduceLT, qJ, qK, zV, zW, qL, qM, qN, qO, Eff.ap, qP, qQ, xW, qR, zI, onto, dropO, xA, sized, zP, eqT, eqG, minV, evUn, qS, zQ, zR, zS, qC, qT, upO, evSlice0, optInt, xC, qV, xD, del, xB, plain, plainL, zY, zZ, zT, qW, zU, zX, xY, qX, qY, qZ, xE, zJ, zK, zL, xF, xG, wit, xH, Option.isSome_some, xI, qH, xJ, evPre, St.with, xK, xL, zD, xM, xN, xO, Array.size, te, einl, inls, efr]) ?_
  rintro ⟨⟨acc, last, sum⟩, i1, i2, i3, i4⟩
  dsimp only at i1 i2 i3 i4 ⊢
  by_cases hlt : acc.length < days
  case neg =>
    have hlt' : ¬ (acc.length : Int) < (days : Int) := by omega
    have e0 : days - acc.length = 0 := by omega
    rw [e0, refFrom] at i4
    rw [← i4]
    simp (maxSteps := 1000000) (implicitDefEqProofs := false) only [ob1_eq, hlt', encO, Option.map_some, List.append_nil, Try.ntmps66, Try.results66, efc66, fc66, ss, List.replicate, zH, qG, zF, zG, St.eval, St.put, St.get, constV, List.set, lenV, qE, qF, qB, zC, norm, xQ, look, xP, xX, zO, zM, zE, zN, qA, qI, St.alloc, St.drop, killL, kill, xU, xV, zA, upd, cells?, part, retag, xT, putIn, refFree, xR, isNew, xS, Ty.isAgg, zB, idsL, ids, idsLL, reach, depth, St.dropL, qD, resultV, ↓reduceIte, Nat.reduceBEq, Nat.reduceAdd, Nat.reduceSub, Nat.reduceMul, Nat.reduceEqDiff, Nat.reduceLeDiff, Nat.reduceLT, qJ, qK, zV, zW, qL, qM, qN, qO, Eff.ap, qP, qQ, xW, qR, zI, onto, dropO, xA, sized, zP, eqT, eqG, minV, evUn, qS, zQ, zR, zS, qC, qT, upO, evSlice0, optInt, xC, qV, xD, del, xB, plain, plainL, zY, zZ, zT, qW, zU, zX, xY, qX, qY, qZ, xE, zJ, zK, zL, xF, xG, wit, xH, Option.isSome_some, xI, qH, xJ, evPre, St.with, xK, xL, zD, xM, xN, xO, Array.size, te, einl, inls, efr]
  case pos =>
  have hlt' : (acc.length : Int) < (days : Int) := by omega
  obtain ⟨r, hr⟩ : ∃ r, days - acc.length = r + 1 := ⟨days - acc.length - 1, by omega⟩
  rw [hr, refFrom] at i4
  have w1 : IntKind.i64.wrap ((days : Int) - (acc.length : Int)) = ((r + 1 : Nat) : Int) := by rw [wrap_in (by omega)]; omega
  have w2 : IntKind.i64.wrap (((r + 1 : Nat) : Int) - 1) = (r : Int) := by rw [wrap_in (by omega)]; omega
  have w3 : IntKind.i64.wrap (last - 1) = last - 1 := wrap_in (by omega)
  have w4 : IntKind.i64.wrap (last + 1) = last + 1 := wrap_in (by omega)
  have gl := levelsV_get (f := f) (n := 13) (k := r) (by omega)
  unfold levelV at gl
  simp (maxSteps := 1000000) (implicitDefEqProofs := false) only [ob1_eq, hlt', w1, w2, w3, w4, gl, Int.natCast_nonneg, Int.toNat_natCast, ss, List.replicate, zH, qG, zF, zG, St.eval, St.put, St.get, constV, List.set, lenV, qE, qF, qB, zC, norm, xQ, look, xP, xX, zO, zM, zE, zN, qA, qI, St.alloc, St.drop, killL, kill, xU, xV, zA, upd, cells?, part, retag, xT, putIn, refFree, xR, isNew, xS, Ty.isAgg, zB, idsL, ids, idsLL, reach, depth, St.dropL, qD, resultV, ↓reduceIte, Nat.reduceBEq, Nat.reduceAdd, Nat.reduceSub, Nat.reduceMul, Nat.reduceEqDiff, Nat.reduceLeDiff, Nat.reduceLT, qJ, qK, zV, zW, qL, qM, qN, qO, Eff.ap, qP, qQ, xW, qR, zI, onto, dropO, xA, sized, zP, eqT, eqG, minV, evUn, qS, zQ, zR, zS, qC, qT, upO, evSlice0, optInt, xC, qV, xD, del, xB, plain, plainL, zY, zZ, zT, qW, zU, zX, xY, qX, qY, qZ, xE, zJ, zK, zL, xF, xG, wit, xH, Option.isSome_some, xI, qH, xJ, evPre, St.with, xK, xL, zD, xM, xN, xO, Array.size, te, einl, inls, efr]
  generalize hr : loopAt _ _ _ _ _ _ = r; revert r
  generalize hX : (nextH last).find? (fun h => canB f need most r h (sum + rateAt f h)) = X at *
  refine loop_inv (ι := { i : Int × Nat × Bool × List Int // (i.2.2.1 = false → i.2.2.2 = acc ∧ 0 ≤ i.1 ∧ i.1 + i.2.1 = min 4 (last + 1) + 1 ∧ (upTo i.1 i.2.1).find? (fun h => canB f need most r h (sum + rateAt f h)) = X) ∧ (i.2.2.1 = true → ∃ g, X = some g ∧ (0 ≤ g ∧ g ≤ 4) ∧ i.2.2.2 = acc ++ [g]) })
    (fun i => [(12, .own 12 0 i.1.2.2.2.length), (17, .bool i.1.2.2.1), (18, .int .i64 i.1.1)]) (fun i => [(12, ob1 (i.1.2.2.2.map vI))]) (fun i => i.1.2.1)
    ⟨(lowH last, (min 4 (last + 1) + 1 - lowH last).toNat, false, acc), fun _ => ⟨rfl, by unfold lowH; dsimp only; omega, by unfold lowH; dsimp only; omega, hX⟩, fun h => by cases h⟩ (by simp (maxSteps := 1000000) (implicitDefEqProofs := false) only [ob1_eq, lowH, ss, List.replicate, zH, qG, zF, zG, St.eval, St.put, St.get, constV, List.set, lenV, qE, qF, qB, zC, norm, xQ, look, xP, xX, zO, zM, zE, zN, qA, qI, St.alloc, St.drop, killL, kill, xU, xV, zA, upd, cells?, part, retag, xT, putIn, refFree, xR, isNew, xS, Ty.isAgg, zB, idsL, ids, idsLL, reach, depth, St.dropL, qD, resultV, ↓reduceIte, Nat.reduceBEq, Nat.reduceAdd, Nat.reduceSub, Nat.reduceMul, Nat.reduceEqDiff, Nat.reduceLeDiff, Nat.reduceLT, qJ, qK, zV, zW, qL, qM, qN, qO, Eff.ap, qP, qQ, xW, qR, zI, onto, dropO, xA, sized, zP, eqT, eqG, minV, evUn, qS, zQ, zR, zS, qC, qT, upO, evSlice0, optInt, xC, qV, xD, del, xB, plain, plainL, zY, zZ, zT, qW, zU, zX, xY, qX, qY, qZ, xE, zJ, zK, zL, xF, xG, wit, xH, Option.isSome_some, xI, qH, xJ, evPre, St.with, xK, xL, zD, xM, xN, xO, Array.size, te, einl, inls, efr]) ?_
  rintro ⟨⟨h, n, fd, acc'⟩, j1, j2⟩
  dsimp only at j1 j2 ⊢
  cases fd with
  | true =>
    obtain ⟨g, rfl, hg, rfl⟩ := j2 rfl
    have ga : (acc ++ [g])[acc.length]? = some g := by simp
    have gb : ((acc ++ [g]).map vI)[acc.length]? = some (.int .i64 g) := by rw [List.getElem?_map, ga]; rfl
    have l1 : (acc ++ [g]).length = acc.length + 1 := by simp
    have l2 : acc.length < acc.length + 1 := Nat.lt_succ_self _
    have l3 : (acc.length : Int) < ((acc.length + 1 : Nat) : Int) := by omega
    have g1 := rateAt_get f5 hg.1 hg.2
    have g2 := rateAt_in hf g
    have w5 : IntKind.i64.wrap (sum + rateAt f g) = sum + rateAt f g := wrap_in (by omega)
    have w6 : IntKind.i64.wrap ((acc.length : Int) + 1) = ((acc.length + 1 : Nat) : Int) := by rw [wrap_in (by omega)]; omega
    have fin : ∃ i' : { i : List Int × Int × Int // i.1.length ≤ days ∧ (0 ≤ i.2.1 ∧ i.2.1 ≤ 4) ∧ (0 ≤ i.2.2 ∧ i.2.2 ≤ 9 * i.1.length) ∧ (refFrom f need most (days - i.1.length) i.2.1 i.2.2).map (i.1 ++ ·) = refFrom f need most days 0 0 }, i'.1 = (acc ++ [g], g, sum + rateAt f g) :=
      ⟨⟨(acc ++ [g], g, sum + rateAt f g), by dsimp only; omega, hg, by dsimp only; rw [l1]; omega, by
        dsimp only
        rw [← i4, l1, show days - (acc.length + 1) = r by omega]
        show Option.map _ (refFrom f need most r g (sum + rateAt f g)) = Option.map _ (Option.map _ (refFrom f need most r g (sum + rateAt f g)))
        generalize refFrom f need most r g (sum + rateAt f g) = q
        cases q <;> simp⟩, rfl⟩
    obtain ⟨i', hi'⟩ := fin
    by_cases hm : h ≤ min 4 (last + 1)
    · simp (maxSteps := 1000000) (implicitDefEqProofs := false) only [ob1_eq, hm, w3, w4, w5, w6, l1, l2, l3, gb, g1, hg.1, vI_def, Int.natCast_nonneg, Int.toNat_natCast, List.length_map, List.getElem?_map, Option.map_some, ss, List.replicate, zH, qG, zF, zG, St.eval, St.put, St.get, constV, List.set, lenV, qE, qF, qB, zC, norm, xQ, look, xP, xX, zO, zM, zE, zN, qA, qI, St.alloc, St.drop, killL, kill, xU, xV, zA, upd, cells?, part, retag, xT, putIn, refFree, xR, isNew, xS, Ty.isAgg, zB, idsL, ids, idsLL, reach, depth, St.dropL, qD, resultV, ↓reduceIte, Nat.reduceBEq, Nat.reduceAdd, Nat.reduceSub, Nat.reduceMul, Nat.reduceEqDiff, Nat.reduceLeDiff, Nat.reduceLT, qJ, qK, zV, zW, qL, qM, qN, qO, Eff.ap, qP, qQ, xW, qR, zI, onto, dropO, xA, sized, zP, eqT, eqG, minV, evUn, qS, zQ, zR, zS, qC, qT, upO, evSlice0, optInt, xC, qV, xD, del, xB, plain, plainL, zY, zZ, zT, qW, zU, zX, xY, qX, qY, qZ, xE, zJ, zK, zL, xF, xG, wit, xH, Option.isSome_some, xI, qH, xJ, evPre, St.with, xK, xL, zD, xM, xN, xO, Array.size, te, einl, inls, efr]
      refine ⟨i', ?_, ?_⟩
      · rw [hi']; dsimp only; rw [l1]
      · rw [hi']; dsimp only; rw [l1]; omega
    · simp (maxSteps := 1000000) (implicitDefEqProofs := false) only [ob1_eq, hm, w3, w4, w5, w6, l1, l2, l3, gb, g1, hg.1, vI_def, Int.natCast_nonneg, Int.toNat_natCast, List.length_map, List.getElem?_map, Option.map_some, ss, List.replicate, zH, qG, zF, zG, St.eval, St.put, St.get, constV, List.set, lenV, qE, qF, qB, zC, norm, xQ, look, xP, xX, zO, zM, zE, zN, qA, qI, St.alloc, St.drop, killL, kill, xU, xV, zA, upd, cells?, part, retag, xT, putIn, refFree, xR, isNew, xS, Ty.isAgg, zB, idsL, ids, idsLL, reach, depth, St.dropL, qD, resultV, ↓reduceIte, Nat.reduceBEq, Nat.reduceAdd, Nat.reduceSub, Nat.reduceMul, Nat.reduceEqDiff, Nat.reduceLeDiff, Nat.reduceLT, qJ, qK, zV, zW, qL, qM, qN, qO, Eff.ap, qP, qQ, xW, qR, zI, onto, dropO, xA, sized, zP, eqT, eqG, minV, evUn, qS, zQ, zR, zS, qC, qT, upO, evSlice0, optInt, xC, qV, xD, del, xB, plain, plainL, zY, zZ, zT, qW, zU, zX, xY, qX, qY, qZ, xE, zJ, zK, zL, xF, xG, wit, xH, Option.isSome_some, xI, qH, xJ, evPre, St.with, xK, xL, zD, xM, xN, xO, Array.size, te, einl, inls, efr]
      refine ⟨i', ?_, ?_⟩
      · rw [hi']; dsimp only; rw [l1]
      · rw [hi']; dsimp only; rw [l1]; omega
  | false =>
    obtain ⟨rfl, j3, j4, j5⟩ := j1 rfl
    cases n with
    | zero =>
      have hm : ¬ h ≤ min 4 (last + 1) := by omega
      have e0 : X = none := j5.symm
      subst e0
      rw [← i4]
      simp (maxSteps := 1000000) (implicitDefEqProofs := false) only [ob1_eq, hm, w4, encO, Option.map_none, List.map_nil, Try.ntmps66, Try.results66, efc66, fc66, ss, List.replicate, zH, qG, zF, zG, St.eval, St.put, St.get, constV, List.set, lenV, qE, qF, qB, zC, norm, xQ, look, xP, xX, zO, zM, zE, zN, qA, qI, St.alloc, St.drop, killL, kill, xU, xV, zA, upd, cells?, part, retag, xT, putIn, refFree, xR, isNew, xS, Ty.isAgg, zB, idsL, ids, idsLL, reach, depth, St.dropL, qD, resultV, ↓reduceIte, Nat.reduceBEq, Nat.reduceAdd, Nat.reduceSub, Nat.reduceMul, Nat.reduceEqDiff, Nat.reduceLeDiff, Nat.reduceLT, qJ, qK, zV, zW, qL, qM, qN, qO, Eff.ap, qP, qQ, xW, qR, zI, onto, dropO, xA, sized, zP, eqT, eqG, minV, evUn, qS, zQ, zR, zS, qC, qT, upO, evSlice0, optInt, xC, qV, xD, del, xB, plain, plainL, zY, zZ, zT, qW, zU, zX, xY, qX, qY, qZ, xE, zJ, zK, zL, xF, xG, wit, xH, Option.isSome_some, xI, qH, xJ, evPre, St.with, xK, xL, zD, xM, xN, xO, Array.size, te, einl, inls, efr]
    | succ n =>
      have hm : h ≤ min 4 (last + 1) := by omega
      have g1 := rateAt_get f5 j3 (by omega)
      have g2 := rateAt_in hf h
      have w5 : IntKind.i64.wrap (sum + rateAt f h) = sum + rateAt f h := wrap_in (by omega)
      have w6 : IntKind.i64.wrap (h + 1) = h + 1 := wrap_in (by omega)
      have k1 := c106 (reachB f r h.toNat) false (sum + rateAt f h) need most (by omega)
      have gr := rowsV_get (f := f) (d := r) (n := 5) (k := h.toNat) (by omega)
      unfold rowV at gr
      have hroom : roomy (acc'.length + 1) 8 = true := by simp [roomy]; omega
      have hbig : acc'.length + 1 ≤ 4294967296 := by omega
      rw [upTo, List.find?_cons] at j5
      change _ = some (V.bool (canB f need most r h (sum + rateAt f h))) at k1
      cases hP : canB f need most r h (sum + rateAt f h) with
      | true =>
        rw [hP] at k1 j5
        simp (maxSteps := 1000000) (implicitDefEqProofs := false) only [ob1_eq, hm, w4, w5, w6, g1, gr, k1, j3, hroom, hbig, vI_def, evRegion_st hok, Int.natCast_nonneg, Int.toNat_natCast, List.getElem?_map, List.length_map, ss, List.replicate, zH, qG, zF, zG, St.eval, St.put, St.get, constV, List.set, lenV, qE, qF, qB, zC, norm, xQ, look, xP, xX, zO, zM, zE, zN, qA, qI, St.alloc, St.drop, killL, kill, xU, xV, zA, upd, cells?, part, retag, xT, putIn, refFree, xR, isNew, xS, Ty.isAgg, zB, idsL, ids, idsLL, reach, depth, St.dropL, qD, resultV, ↓reduceIte, Nat.reduceBEq, Nat.reduceAdd, Nat.reduceSub, Nat.reduceMul, Nat.reduceEqDiff, Nat.reduceLeDiff, Nat.reduceLT, qJ, qK, zV, zW, qL, qM, qN, qO, Eff.ap, qP, qQ, xW, qR, zI, onto, dropO, xA, sized, zP, eqT, eqG, minV, evUn, qS, zQ, zR, zS, qC, qT, upO, evSlice0, optInt, xC, qV, xD, del, xB, plain, plainL, zY, zZ, zT, qW, zU, zX, xY, qX, qY, qZ, xE, zJ, zK, zL, xF, xG, wit, xH, Option.isSome_some, xI, qH, xJ, evPre, St.with, xK, xL, zD, xM, xN, xO, Array.size, te, einl, inls, efr]
        refine ⟨⟨(h + 1, n, true, acc' ++ [h]), fun e => (by cases e), fun _ => ⟨h, j5.symm, by omega, rfl⟩⟩, ?_, Nat.lt_succ_self _⟩
        simp [vI_def]
      | false =>
        rw [hP] at k1 j5
        simp (maxSteps := 1000000) (implicitDefEqProofs := false) only [ob1_eq, hm, w4, w5, w6, g1, gr, k1, j3, vI_def, evRegion_st hok, Int.natCast_nonneg, Int.toNat_natCast, List.getElem?_map, List.length_map, ss, List.replicate, zH, qG, zF, zG, St.eval, St.put, St.get, constV, List.set, lenV, qE, qF, qB, zC, norm, xQ, look, xP, xX, zO, zM, zE, zN, qA, qI, St.alloc, St.drop, killL, kill, xU, xV, zA, upd, cells?, part, retag, xT, putIn, refFree, xR, isNew, xS, Ty.isAgg, zB, idsL, ids, idsLL, reach, depth, St.dropL, qD, resultV, ↓reduceIte, Nat.reduceBEq, Nat.reduceAdd, Nat.reduceSub, Nat.reduceMul, Nat.reduceEqDiff, Nat.reduceLeDiff, Nat.reduceLT, qJ, qK, zV, zW, qL, qM, qN, qO, Eff.ap, qP, qQ, xW, qR, zI, onto, dropO, xA, sized, zP, eqT, eqG, minV, evUn, qS, zQ, zR, zS, qC, qT, upO, evSlice0, optInt, xC, qV, xD, del, xB, plain, plainL, zY, zZ, zT, qW, zU, zX, xY, qX, qY, qZ, xE, zJ, zK, zL, xF, xG, wit, xH, Option.isSome_some, xI, qH, xJ, evPre, St.with, xK, xL, zD, xM, xN, xO, Array.size, te, einl, inls, efr]
        exact ⟨⟨(h + 1, n, false, acc'), fun _ => ⟨rfl, by dsimp only; omega, by dsimp only; omega, j5⟩, fun e => (by cases e)⟩, rfl, Nat.lt_succ_self _⟩
end Go.AM.B

