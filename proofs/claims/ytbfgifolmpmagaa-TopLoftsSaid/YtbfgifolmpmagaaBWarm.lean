/-
The warmth of heats.
-/
import Derived.Test.YtbfgifolmpmagaaBHeat
import Derived.Test.YtbfgifolmpmagaaBHeatB
set_option linter.unusedVariables false
set_option linter.unusedSimpArgs false

namespace Go.AM.B
open Go Go.AM Go.Proofs

def rateAt (f : Loft) (n : Int) : Int := f.rates.getD n.toNat 0
def warmM (f : Loft) (hs : List Int) : Int := (hs.map (rateAt f)).sum

theorem loftOk_iff {f : Loft} : loftOk f = true ↔ (1 ≤ f.poles ∧ f.poles ≤ 40) ∧ f.rates.length = 5 ∧ ratesFrom 0 f.rates = true := by
  unfold loftOk
  simp only [Bool.and_eq_true, inB_iff, decide_eq_true_eq, and_assoc]
theorem validHs_iff {hs : List Int} : validHs hs = true ↔ (1 ≤ hs.length ∧ hs.length ≤ 12) ∧ heatsFrom 0 hs = true := by
  unfold validHs
  simp only [Bool.and_eq_true, inB_iff]
  constructor
  · rintro ⟨h, k⟩; exact ⟨by omega, k⟩
  · rintro ⟨h, k⟩; exact ⟨by omega, k⟩

theorem rateAt_get {f : Loft} (hf : f.rates.length = 5) {n : Int} (h0 : 0 ≤ n) (h4 : n ≤ 4) : f.rates[n.toNat]? = some (rateAt f n) := by
  have : n.toNat < f.rates.length := by omega
  unfold rateAt
  rw [List.getD_eq_getElem?_getD, List.getElem?_eq_getElem this]
  rfl
theorem rateAt_in {f : Loft} (hf : loftOk f = true) (n : Int) : 0 ≤ rateAt f n ∧ rateAt f n ≤ 9 := by
  obtain ⟨_, _, h⟩ := loftOk_iff.1 hf
  unfold rateAt
  rw [List.getD_eq_getElem?_getD]
  cases hg : f.rates[n.toNat]? with
  | none => simp
  | some x => exact rates_in (by omega) h x (List.mem_of_getElem? hg)
theorem warm_snoc (f : Loft) (hs : List Int) (n : Int) : warmM f (hs ++ [n]) = warmM f hs + rateAt f n := by simp [warmM]
theorem warm_in {f : Loft} (hf : loftOk f = true) : ∀ hs : List Int, 0 ≤ warmM f hs ∧ warmM f hs ≤ 9 * hs.length
  | [] => by simp [warmM]
  | n :: hs => by
    have h1 := rateAt_in hf n
    have h2 := warm_in hf hs
    have : warmM f (n :: hs) = rateAt f n + warmM f hs := by simp [warmM]
    rw [this, List.length_cons]
    omega

set_option maxHeartbeats 4000000 in
theorem c62 (f : Loft) (hs : List Int) (hf : loftOk f = true) (hh : heatsFrom 0 hs = true) (hn : hs.length ≤ 1000) : (orcω E X0).call 62 [encL f, .sl false (hs.map vI)] = some (.int .i64 (warmM f hs)) := by
  refine call_of rfl fn62 rfl ?_
  skip
  unfold encL
  obtain ⟨_, f5, _⟩ := loftOk_iff.1 hf
  simp (maxSteps := 1000000) (implicitDefEqProofs := false) only [Try.ntmps62, Try.results62, efc62, fc62, ss, List.replicate, zH, qG, zF, zG, St.eval, St.put, St.get, constV, List.set, lenV, qE, qF, qB, zC, norm, xQ, look, xP, xX, zO, zM, zE, zN, qA, qI, St.alloc, St.drop, killL, kill, xU, xV, zA, upd, cells?, part, retag, xT, putIn, refFree, xR, isNew, xS, Ty.isAgg, zB, idsL, ids, idsLL, reach, depth, St.dropL, qD, resultV, ↓reduceIte, Nat.reduceBEq, Nat.reduceAdd, Nat.reduceSub, Nat.reduceMul, Nat.reduceEqDiff, Nat.reduceLeDiff, Nat.reduceLT, qJ, qK, zV, zW, qL, qM, qN, qO, Eff.ap, qP, qQ, xW, qR, zI, onto, dropO, xA, sized, zP, eqT, eqG, minV, evUn, qS, zQ, zR, zS, qC, qT, upO, evSlice0, optInt, xC, qV, xD, del, xB, plain, plainL, zY, zZ, zT, qW, zU, zX, xY, qX, qY, qZ, xE, zJ, zK, zL, xF, xG, wit, xH, Option.isSome_some, xI, qH, xJ, evPre, St.with, xK, xL, zD, xM, xN, xO, Array.size, te, einl, inls, efr]
  generalize hr : loopAt _ _ _ _ _ _ = r; revert r
  refine loop_list hs (fun pre _ => [(5, .int .i64 (warmM f pre)), (10, .int .i64 pre.length)]) (fun _ _ => []) (fun _ (_ : Unit) => True) () (by omega) (by simp (maxSteps := 1000000) (implicitDefEqProofs := false) only [warmM, List.map_nil, List.sum_nil, ss, List.replicate, zH, qG, zF, zG, St.eval, St.put, St.get, constV, List.set, lenV, qE, qF, qB, zC, norm, xQ, look, xP, xX, zO, zM, zE, zN, qA, qI, St.alloc, St.drop, killL, kill, xU, xV, zA, upd, cells?, part, retag, xT, putIn, refFree, xR, isNew, xS, Ty.isAgg, zB, idsL, ids, idsLL, reach, depth, St.dropL, qD, resultV, ↓reduceIte, Nat.reduceBEq, Nat.reduceAdd, Nat.reduceSub, Nat.reduceMul, Nat.reduceEqDiff, Nat.reduceLeDiff, Nat.reduceLT, qJ, qK, zV, zW, qL, qM, qN, qO, Eff.ap, qP, qQ, xW, qR, zI, onto, dropO, xA, sized, zP, eqT, eqG, minV, evUn, qS, zQ, zR, zS, qC, qT, upO, evSlice0, optInt, xC, qV, xD, del, xB, plain, plainL, zY, zZ, zT, qW, zU, zX, xY, qX, qY, qZ, xE, zJ, zK, zL, xF, xG, wit, xH, Option.isSome_some, xI, qH, xJ, evPre, St.with, xK, xL, zD, xM, xN, xO, Array.size, te, einl, inls, efr]) trivial (fun _ hi => ?_) (fun pre x post _ hp hi g1 g2 g3 g4 => ?_)
  · simp (maxSteps := 1000000) (implicitDefEqProofs := false) only [Int.lt_irrefl, Try.ntmps62, Try.results62, efc62, fc62, List.length_map, ss, List.replicate, zH, qG, zF, zG, St.eval, St.put, St.get, constV, List.set, lenV, qE, qF, qB, zC, norm, xQ, look, xP, xX, zO, zM, zE, zN, qA, qI, St.alloc, St.drop, killL, kill, xU, xV, zA, upd, cells?, part, retag, xT, putIn, refFree, xR, isNew, xS, Ty.isAgg, zB, idsL, ids, idsLL, reach, depth, St.dropL, qD, resultV, ↓reduceIte, Nat.reduceBEq, Nat.reduceAdd, Nat.reduceSub, Nat.reduceMul, Nat.reduceEqDiff, Nat.reduceLeDiff, Nat.reduceLT, qJ, qK, zV, zW, qL, qM, qN, qO, Eff.ap, qP, qQ, xW, qR, zI, onto, dropO, xA, sized, zP, eqT, eqG, minV, evUn, qS, zQ, zR, zS, qC, qT, upO, evSlice0, optInt, xC, qV, xD, del, xB, plain, plainL, zY, zZ, zT, qW, zU, zX, xY, qX, qY, qZ, xE, zJ, zK, zL, xF, xG, wit, xH, Option.isSome_some, xI, qH, xJ, evPre, St.with, xK, xL, zD, xM, xN, xO, Array.size, te, einl, inls, efr]
  · have g5 := heats_in hh x (List.mem_of_getElem? g3)
    have g6 := rateAt_get f5 g5.1 g5.2
    have g7 := rateAt_in hf x
    have g8 := warm_in hf pre
    have g9 := warm_snoc f pre x
    have w1 : IntKind.i64.wrap (warmM f pre + rateAt f x) = warmM f (pre ++ [x]) := by rw [wrap_in (by omega), g9]
    simp (maxSteps := 1000000) (implicitDefEqProofs := false) only [g1, g2, g3, g4, g5, g6, w1, vI_def, Int.natCast_nonneg, Int.toNat_natCast, List.getElem?_map, List.length_map, ss, List.replicate, zH, qG, zF, zG, St.eval, St.put, St.get, constV, List.set, lenV, qE, qF, qB, zC, norm, xQ, look, xP, xX, zO, zM, zE, zN, qA, qI, St.alloc, St.drop, killL, kill, xU, xV, zA, upd, cells?, part, retag, xT, putIn, refFree, xR, isNew, xS, Ty.isAgg, zB, idsL, ids, idsLL, reach, depth, St.dropL, qD, resultV, ↓reduceIte, Nat.reduceBEq, Nat.reduceAdd, Nat.reduceSub, Nat.reduceMul, Nat.reduceEqDiff, Nat.reduceLeDiff, Nat.reduceLT, qJ, qK, zV, zW, qL, qM, qN, qO, Eff.ap, qP, qQ, xW, qR, zI, onto, dropO, xA, sized, zP, eqT, eqG, minV, evUn, qS, zQ, zR, zS, qC, qT, upO, evSlice0, optInt, xC, qV, xD, del, xB, plain, plainL, zY, zZ, zT, qW, zU, zX, xY, qX, qY, qZ, xE, zJ, zK, zL, xF, xG, wit, xH, Option.isSome_some, xI, qH, xJ, evPre, St.with, xK, xL, zD, xM, xN, xO, Array.size, te, einl, inls, efr]
    (first | exact ⟨(), trivial⟩ | refine ⟨(), ?_, trivial⟩ | skip)

def warmthR (f : Loft) (hs : List Int) : Int × Int := if validLs [f] = 0 then (if validHs hs = true then (warmM f hs, 0) else (0, 1)) else (0, validLs [f])

theorem validLs_zero {l : List Loft} (h : validLs l = 0) : (1 ≤ l.length ∧ l.length ≤ 3) ∧ ∀ f ∈ l, loftOk f = true := by
  unfold validLs at h
  split at h
  · rename_i h'
    rw [inB_iff, List.all_eq_true] at h'
    exact ⟨by omega, h'.2⟩
  · cases h
theorem validLs_one (l : List Loft) : validLs l = 0 ∨ validLs l = 1 := by
  unfold validLs
  split
  · exact .inl rfl
  · exact .inr rfl

set_option maxHeartbeats 4000000 in
theorem c26 (f : Loft) (hs : List Int) : (orcω E X0).call 26 [encL f, .sl false (hs.map vI)] = some (encI2 (warmthR f hs)) := by
  refine call_of rfl fn26 rfl ?_
  have k1 := c30 [f]
  have k2 := c28 hs
  have k3 := c62 f hs
  unfold warmthR
  unfold encL at k1 k3 ⊢
  simp only [List.map_cons, List.map_nil, encL] at k1
  rcases validLs_one [f] with h1 | h1
  · have hf := (validLs_zero h1).2 f (by simp)
    rw [h1] at k1
    cases h2 : validHs hs with
    | false => simp (maxSteps := 1000000) (implicitDefEqProofs := false) only [Try.ntmps26, Try.results26, efc26, k1, k2, h1, h2, encI2, bne_self_eq_false, ss, List.replicate, zH, qG, zF, zG, St.eval, St.put, St.get, constV, List.set, lenV, qE, qF, qB, zC, norm, xQ, look, xP, xX, zO, zM, zE, zN, qA, qI, St.alloc, St.drop, killL, kill, xU, xV, zA, upd, cells?, part, retag, xT, putIn, refFree, xR, isNew, xS, Ty.isAgg, zB, idsL, ids, idsLL, reach, depth, St.dropL, qD, resultV, ↓reduceIte, Nat.reduceBEq, Nat.reduceAdd, Nat.reduceSub, Nat.reduceMul, Nat.reduceEqDiff, Nat.reduceLeDiff, Nat.reduceLT, qJ, qK, zV, zW, qL, qM, qN, qO, Eff.ap, qP, qQ, xW, qR, zI, onto, dropO, xA, sized, zP, eqT, eqG, minV, evUn, qS, zQ, zR, zS, qC, qT, upO, evSlice0, optInt, xC, qV, xD, del, xB, plain, plainL, zY, zZ, zT, qW, zU, zX, xY, qX, qY, qZ, xE, zJ, zK, zL, xF, xG, wit, xH, Option.isSome_some, xI, qH, xJ, evPre, St.with, xK, xL, zD, xM, xN, xO, Array.size, te, einl, inls, efr]
    | true =>
      obtain ⟨q1, q2⟩ := validHs_iff.1 h2
      have k3 := k3 hf q2 (by omega)
      simp (maxSteps := 1000000) (implicitDefEqProofs := false) only [Try.ntmps26, Try.results26, efc26, k1, k2, k3, h1, h2, encI2, bne_self_eq_false, ss, List.replicate, zH, qG, zF, zG, St.eval, St.put, St.get, constV, List.set, lenV, qE, qF, qB, zC, norm, xQ, look, xP, xX, zO, zM, zE, zN, qA, qI, St.alloc, St.drop, killL, kill, xU, xV, zA, upd, cells?, part, retag, xT, putIn, refFree, xR, isNew, xS, Ty.isAgg, zB, idsL, ids, idsLL, reach, depth, St.dropL, qD, resultV, ↓reduceIte, Nat.reduceBEq, Nat.reduceAdd, Nat.reduceSub, Nat.reduceMul, Nat.reduceEqDiff, Nat.reduceLeDiff, Nat.reduceLT, qJ, qK, zV, zW, qL, qM, qN, qO, Eff.ap, qP, qQ, xW, qR, zI, onto, dropO, xA, sized, zP, eqT, eqG, minV, evUn, qS, zQ, zR, zS, qC, qT, upO, evSlice0, optInt, xC, qV, xD, del, xB, plain, plainL, zY, zZ, zT, qW, zU, zX, xY, qX, qY, qZ, xE, zJ, zK, zL, xF, xG, wit, xH, Option.isSome_some, xI, qH, xJ, evPre, St.with, xK, xL, zD, xM, xN, xO, Array.size, te, einl, inls, efr]
  · rw [h1] at k1
    simp (maxSteps := 1000000) (implicitDefEqProofs := false) only [Try.ntmps26, Try.results26, efc26, k1, h1, encI2, Int.reduceBNe, Int.reduceEq, ↓reduceIte, ss, List.replicate, zH, qG, zF, zG, St.eval, St.put, St.get, constV, List.set, lenV, qE, qF, qB, zC, norm, xQ, look, xP, xX, zO, zM, zE, zN, qA, qI, St.alloc, St.drop, killL, kill, xU, xV, zA, upd, cells?, part, retag, xT, putIn, refFree, xR, isNew, xS, Ty.isAgg, zB, idsL, ids, idsLL, reach, depth, St.dropL, qD, resultV, ↓reduceIte, Nat.reduceBEq, Nat.reduceAdd, Nat.reduceSub, Nat.reduceMul, Nat.reduceEqDiff, Nat.reduceLeDiff, Nat.reduceLT, qJ, qK, zV, zW, qL, qM, qN, qO, Eff.ap, qP, qQ, xW, qR, zI, onto, dropO, xA, sized, zP, eqT, eqG, minV, evUn, qS, zQ, zR, zS, qC, qT, upO, evSlice0, optInt, xC, qV, xD, del, xB, plain, plainL, zY, zZ, zT, qW, zU, zX, xY, qX, qY, qZ, xE, zJ, zK, zL, xF, xG, wit, xH, Option.isSome_some, xI, qH, xJ, evPre, St.with, xK, xL, zD, xM, xN, xO, Array.size, te, einl, inls, efr]

end Go.AM.B

