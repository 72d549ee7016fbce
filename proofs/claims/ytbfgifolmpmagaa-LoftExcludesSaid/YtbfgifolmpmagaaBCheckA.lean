/-
Loads: sets of goods, what is loaded, what is taken.
-/
import Derived.Test.YtbfgifolmpmagaaBDays
import Derived.Test.YtbfgifolmpmagaaBP
set_option linter.unusedVariables false
set_option linter.unusedSimpArgs false

namespace Go.AM.B
open Go Go.AM Go.Proofs

def setFrom (n : Int) : Int → List Int → Bool
  | _, [] => true
  | p, x :: r => inB x 0 (n - 1) && decide (p < x) && setFrom n x r
def isSetM (l : List Int) (n : Int) : Bool := setFrom n (-1) l
theorem set_split (n : Int) : ∀ (pre post : List Int) (p : Int), setFrom n p (pre ++ post) = (setFrom n p pre && setFrom n (pre.getLastD p) post)
  | [], _, _ => rfl
  | x :: pre, post, p => by
    simp only [List.cons_append, setFrom, set_split n pre post x, Bool.and_assoc, List.getLastD_cons]
theorem set_in {n : Int} : ∀ {l : List Int} {p : Int}, setFrom n p l = true → ∀ x ∈ l, 0 ≤ x ∧ x < n
  | [], _, _, x, hx => by cases hx
  | y :: l, p, h, x, hx => by
    simp only [setFrom, Bool.and_eq_true, inB_iff] at h
    rcases List.mem_cons.1 hx with rfl | hx
    · omega
    · exact set_in h.2 x hx

set_option maxHeartbeats 8000000 in
theorem c84 (l : List Int) (n : Int) (hn : 0 ≤ n ∧ n ≤ 1000000) (hl : l.length ≤ 1000000000) : (orcω E X0).call 84 [.sl false (l.map vI), .int .i64 n] = some (.bool (isSetM l n)) := by
  refine call_of rfl fn84 rfl ?_
  unfold isSetM
  simp (maxSteps := 1000000) (implicitDefEqProofs := false) only [Try.ntmps84, Try.results84, efc84, fc84, ss, List.replicate, zH, qG, zF, zG, St.eval, St.put, St.get, constV, List.set, lenV, qE, qF, qB, zC, norm, xQ, look, xP, xX, zO, zM, zE, zN, qA, qI, St.alloc, St.drop, killL, kill, xU, xV, zA, upd, cells?, part, retag, xT, putIn, refFree, xR, isNew, xS, Ty.isAgg, zB, idsL, ids, idsLL, reach, depth, St.dropL, qD, resultV, ↓reduceIte, Nat.reduceBEq, Nat.reduceAdd, Nat.reduceSub, Nat.reduceMul, Nat.reduceEqDiff, Nat.reduceLeDiff, Nat.reduceLT, qJ, qK, zV, zW, qL, qM, qN, qO, Eff.ap, qP, qQ, xW, qR, zI, onto, dropO, xA, sized, zP, eqT, eqG, minV, evUn, qS, zQ, zR, zS, qC, qT, upO, evSlice0, optInt, xC, qV, xD, del, xB, plain, plainL, zY, zZ, zT, qW, zU, zX, xY, qX, qY, qZ, xE, zJ, zK, zL, xF, xG, wit, xH, Option.isSome_some, xI, qH, xJ, evPre, St.with, xK, xL, zD, xM, xN, xO, Array.size, te, einl, inls, efr]
  generalize hr : loopAt _ _ _ _ _ _ = r; revert r
  refine loop_list l (fun pre _ => [(9, .int .i64 pre.length)]) (fun _ _ => []) (fun pre (_ : Unit) => setFrom n (-1) pre = true) () (by omega) (by simp (maxSteps := 1000000) (implicitDefEqProofs := false) only [ss, List.replicate, zH, qG, zF, zG, St.eval, St.put, St.get, constV, List.set, lenV, qE, qF, qB, zC, norm, xQ, look, xP, xX, zO, zM, zE, zN, qA, qI, St.alloc, St.drop, killL, kill, xU, xV, zA, upd, cells?, part, retag, xT, putIn, refFree, xR, isNew, xS, Ty.isAgg, zB, idsL, ids, idsLL, reach, depth, St.dropL, qD, resultV, ↓reduceIte, Nat.reduceBEq, Nat.reduceAdd, Nat.reduceSub, Nat.reduceMul, Nat.reduceEqDiff, Nat.reduceLeDiff, Nat.reduceLT, qJ, qK, zV, zW, qL, qM, qN, qO, Eff.ap, qP, qQ, xW, qR, zI, onto, dropO, xA, sized, zP, eqT, eqG, minV, evUn, qS, zQ, zR, zS, qC, qT, upO, evSlice0, optInt, xC, qV, xD, del, xB, plain, plainL, zY, zZ, zT, qW, zU, zX, xY, qX, qY, qZ, xE, zJ, zK, zL, xF, xG, wit, xH, Option.isSome_some, xI, qH, xJ, evPre, St.with, xK, xL, zD, xM, xN, xO, Array.size, te, einl, inls, efr]) rfl (fun _ hi => ?_) (fun pre x post _ hp hi g1 g2 g3 g4 => ?_)
  · simp (maxSteps := 1000000) (implicitDefEqProofs := false) only [Int.lt_irrefl, hi, Try.ntmps84, Try.results84, efc84, fc84, List.length_map, ss, List.replicate, zH, qG, zF, zG, St.eval, St.put, St.get, constV, List.set, lenV, qE, qF, qB, zC, norm, xQ, look, xP, xX, zO, zM, zE, zN, qA, qI, St.alloc, St.drop, killL, kill, xU, xV, zA, upd, cells?, part, retag, xT, putIn, refFree, xR, isNew, xS, Ty.isAgg, zB, idsL, ids, idsLL, reach, depth, St.dropL, qD, resultV, ↓reduceIte, Nat.reduceBEq, Nat.reduceAdd, Nat.reduceSub, Nat.reduceMul, Nat.reduceEqDiff, Nat.reduceLeDiff, Nat.reduceLT, qJ, qK, zV, zW, qL, qM, qN, qO, Eff.ap, qP, qQ, xW, qR, zI, onto, dropO, xA, sized, zP, eqT, eqG, minV, evUn, qS, zQ, zR, zS, qC, qT, upO, evSlice0, optInt, xC, qV, xD, del, xB, plain, plainL, zY, zZ, zT, qW, zU, zX, xY, qX, qY, qZ, xE, zJ, zK, zL, xF, xG, wit, xH, Option.isSome_some, xI, qH, xJ, evPre, St.with, xK, xL, zD, xM, xN, xO, Array.size, te, einl, inls, efr]
  · have g6 : setFrom n (-1) l = (inB x 0 (n - 1) && decide (pre.getLastD (-1) < x) && setFrom n x post) := by rw [hp, set_split, hi]; rfl
    have g7 : setFrom n (-1) (pre ++ [x]) = (inB x 0 (n - 1) && decide (pre.getLastD (-1) < x)) := by rw [set_split, hi]; simp [setFrom]
    have w0 : IntKind.i64.wrap (n - 1) = n - 1 := wrap_in (by omega)
    have k1 := c58 x 0 (n - 1)
    cases h1 : inB x 0 (n - 1) with
    | false => simp (maxSteps := 1000000) (implicitDefEqProofs := false) only [g1, g2, g3, g4, g6, k1, h1, w0, vI_def, Bool.false_and, Try.ntmps84, Try.results84, efc84, fc84, Int.natCast_nonneg, Int.toNat_natCast, List.getElem?_map, List.length_map, ss, List.replicate, zH, qG, zF, zG, St.eval, St.put, St.get, constV, List.set, lenV, qE, qF, qB, zC, norm, xQ, look, xP, xX, zO, zM, zE, zN, qA, qI, St.alloc, St.drop, killL, kill, xU, xV, zA, upd, cells?, part, retag, xT, putIn, refFree, xR, isNew, xS, Ty.isAgg, zB, idsL, ids, idsLL, reach, depth, St.dropL, qD, resultV, ↓reduceIte, Nat.reduceBEq, Nat.reduceAdd, Nat.reduceSub, Nat.reduceMul, Nat.reduceEqDiff, Nat.reduceLeDiff, Nat.reduceLT, qJ, qK, zV, zW, qL, qM, qN, qO, Eff.ap, qP, qQ, xW, qR, zI, onto, dropO, xA, sized, zP, eqT, eqG, minV, evUn, qS, zQ, zR, zS, qC, qT, upO, evSlice0, optInt, xC, qV, xD, del, xB, plain, plainL, zY, zZ, zT, qW, zU, zX, xY, qX, qY, qZ, xE, zJ, zK, zL, xF, xG, wit, xH, Option.isSome_some, xI, qH, xJ, evPre, St.with, xK, xL, zD, xM, xN, xO, Array.size, te, einl, inls, efr]
    | true =>
    rw [h1] at g7
    have hx := inB_iff.1 h1
    rcases snoc_cases pre with rfl | ⟨q, y, rfl⟩
    · have z1 : ¬ (0 : Int) < 0 := by decide
      simp only [List.length_nil, Int.natCast_zero] at g1 g2 g3 g4
      have g8 : decide (([] : List Int).getLastD (-1) < x) = true := decide_eq_true (show (-1 : Int) < x by omega)
      rw [g8] at g7
      simp (maxSteps := 1000000) (implicitDefEqProofs := false) only [g1, g2, g3, g4, z1, k1, h1, w0, vI_def, List.length_nil, Int.natCast_zero, Int.reduceToNat, Int.le_refl, Int.natCast_nonneg, Int.toNat_natCast, List.getElem?_map, List.length_map, ss, List.replicate, zH, qG, zF, zG, St.eval, St.put, St.get, constV, List.set, lenV, qE, qF, qB, zC, norm, xQ, look, xP, xX, zO, zM, zE, zN, qA, qI, St.alloc, St.drop, killL, kill, xU, xV, zA, upd, cells?, part, retag, xT, putIn, refFree, xR, isNew, xS, Ty.isAgg, zB, idsL, ids, idsLL, reach, depth, St.dropL, qD, resultV, ↓reduceIte, Nat.reduceBEq, Nat.reduceAdd, Nat.reduceSub, Nat.reduceMul, Nat.reduceEqDiff, Nat.reduceLeDiff, Nat.reduceLT, qJ, qK, zV, zW, qL, qM, qN, qO, Eff.ap, qP, qQ, xW, qR, zI, onto, dropO, xA, sized, zP, eqT, eqG, minV, evUn, qS, zQ, zR, zS, qC, qT, upO, evSlice0, optInt, xC, qV, xD, del, xB, plain, plainL, zY, zZ, zT, qW, zU, zX, xY, qX, qY, qZ, xE, zJ, zK, zL, xF, xG, wit, xH, Option.isSome_some, xI, qH, xJ, evPre, St.with, xK, xL, zD, xM, xN, xO, Array.size, te, einl, inls, efr]
      exact ⟨(), g7⟩
    · have z1 : (0 : Int) < ((q ++ [y]).length : Int) := by simp <;> omega
      have z2 : IntKind.i64.wrap (((q ++ [y]).length : Int) - 1) = (q.length : Int) := by rw [wrap_in (by omega)]; simp
      have z3 : l[q.length]? = some y := by rw [hp]; simp
      have z4 : (q.length : Int) < l.length := by simp at g1; omega
      have z5 : q.length < l.length := by omega
      have z6 : (q ++ [y]).getLastD (-1) = y := by simp
      rw [z6] at g6 g7
      generalize q ++ [y] = pre at *
      by_cases c : x ≤ y
      · have d : decide (y < x) = false := by simpa using c
        rw [d] at g6
        simp (maxSteps := 1000000) (implicitDefEqProofs := false) only [g1, g2, g3, g4, g6, h1, z1, z2, z3, z4, z5, c, k1, h1, w0, vI_def, Bool.and_false, Bool.false_and, Try.ntmps84, Try.results84, efc84, fc84, Int.natCast_nonneg, Int.toNat_natCast, List.getElem?_map, List.length_map, ss, List.replicate, zH, qG, zF, zG, St.eval, St.put, St.get, constV, List.set, lenV, qE, qF, qB, zC, norm, xQ, look, xP, xX, zO, zM, zE, zN, qA, qI, St.alloc, St.drop, killL, kill, xU, xV, zA, upd, cells?, part, retag, xT, putIn, refFree, xR, isNew, xS, Ty.isAgg, zB, idsL, ids, idsLL, reach, depth, St.dropL, qD, resultV, ↓reduceIte, Nat.reduceBEq, Nat.reduceAdd, Nat.reduceSub, Nat.reduceMul, Nat.reduceEqDiff, Nat.reduceLeDiff, Nat.reduceLT, qJ, qK, zV, zW, qL, qM, qN, qO, Eff.ap, qP, qQ, xW, qR, zI, onto, dropO, xA, sized, zP, eqT, eqG, minV, evUn, qS, zQ, zR, zS, qC, qT, upO, evSlice0, optInt, xC, qV, xD, del, xB, plain, plainL, zY, zZ, zT, qW, zU, zX, xY, qX, qY, qZ, xE, zJ, zK, zL, xF, xG, wit, xH, Option.isSome_some, xI, qH, xJ, evPre, St.with, xK, xL, zD, xM, xN, xO, Array.size, te, einl, inls, efr]
      · have d : decide (y < x) = true := decide_eq_true (by omega)
        rw [d] at g7
        simp (maxSteps := 1000000) (implicitDefEqProofs := false) only [g1, g2, g3, g4, z1, z2, z3, z4, z5, c, k1, h1, w0, vI_def, Int.natCast_nonneg, Int.toNat_natCast, List.getElem?_map, List.length_map, ss, List.replicate, zH, qG, zF, zG, St.eval, St.put, St.get, constV, List.set, lenV, qE, qF, qB, zC, norm, xQ, look, xP, xX, zO, zM, zE, zN, qA, qI, St.alloc, St.drop, killL, kill, xU, xV, zA, upd, cells?, part, retag, xT, putIn, refFree, xR, isNew, xS, Ty.isAgg, zB, idsL, ids, idsLL, reach, depth, St.dropL, qD, resultV, ↓reduceIte, Nat.reduceBEq, Nat.reduceAdd, Nat.reduceSub, Nat.reduceMul, Nat.reduceEqDiff, Nat.reduceLeDiff, Nat.reduceLT, qJ, qK, zV, zW, qL, qM, qN, qO, Eff.ap, qP, qQ, xW, qR, zI, onto, dropO, xA, sized, zP, eqT, eqG, minV, evUn, qS, zQ, zR, zS, qC, qT, upO, evSlice0, optInt, xC, qV, xD, del, xB, plain, plainL, zY, zZ, zT, qW, zU, zX, xY, qX, qY, qZ, xE, zJ, zK, zL, xF, xG, wit, xH, Option.isSome_some, xI, qH, xJ, evPre, St.with, xK, xL, zD, xM, xN, xO, Array.size, te, einl, inls, efr]
        exact ⟨(), g7⟩

def loadedM (plan : List Load) (n : Int) : Bool := plan.any fun x => x.goods.contains n

def endM (x : Load) : Int := x.start + x.heats.length
def meetsM (x : Load) (loft a b : Int) : Bool := decide (x.loft = loft) && (decide (x.start < b) && decide (a < endM x))
def takenM (plan : List Load) (loft a b : Int) : Bool := plan.any fun x => meetsM x loft a b

def polesOf (gs : List Goods) (n : Int) : Int := match gs[n.toNat]? with
  | some g => g.poles
  | none => 0
def polesM (gs : List Goods) (l : List Int) : Int := (l.map (polesOf gs)).sum
theorem polesM_snoc (gs : List Goods) (l : List Int) (x : Int) : polesM gs (l ++ [x]) = polesM gs l + polesOf gs x := by simp [polesM]
theorem polesOf_in {gs : List Goods} (hg : ∀ g ∈ gs, goodsOk g = true) (n : Int) : 0 ≤ polesOf gs n ∧ polesOf gs n ≤ 40 := by
  unfold polesOf
  split
  · rename_i g hgg
    have := (goodsOk_iff.1 (hg g (List.mem_of_getElem? hgg))).1
    omega
  · decide
theorem polesM_in {gs : List Goods} (hg : ∀ g ∈ gs, goodsOk g = true) : ∀ l : List Int, 0 ≤ polesM gs l ∧ polesM gs l ≤ 40 * l.length
  | [] => by simp [polesM]
  | x :: l => by
    have h1 := polesOf_in hg x
    have h2 := polesM_in hg l
    have h3 : polesM gs (x :: l) = polesOf gs x + polesM gs l := by simp [polesM]
    rw [h3, List.length_cons]
    omega

end Go.AM.B

