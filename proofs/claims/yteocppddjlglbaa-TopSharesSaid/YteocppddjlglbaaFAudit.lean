/-
The masses that must balance (lot.Audit).
-/
import Derived.Test.YteocppddjlglbaaFLotD
set_option linter.unusedVariables false
set_option linter.unusedSimpArgs false
set_option maxRecDepth 20000

namespace Go.AM.F
open Go Go.AM Go.Proofs

def pos0 (z : Int) : Int := max 0 z
def sumL (f : Lot → Int) : List Lot → Int
  | [] => 0
  | x :: r => f x + sumL f r
theorem sumL_app (f : Lot → Int) : ∀ a b, sumL f (a ++ b) = sumL f a + sumL f b
  | [], b => by simp [sumL]
  | x :: a, b => by simp only [List.cons_append, sumL, sumL_app f a b]; omega
theorem sumL_le {f : Lot → Int} {lo hi : Int} : ∀ {l : List Lot}, (∀ x ∈ l, lo ≤ f x ∧ f x ≤ hi) → lo * l.length ≤ sumL f l ∧ sumL f l ≤ hi * l.length
  | [], _ => by simp [sumL]
  | x :: r, h => by
    have h1 := h x (List.mem_cons_self ..)
    have h2 := sumL_le (l := r) fun q hq => h q (List.mem_cons_of_mem _ hq)
    simp only [sumL, List.length_cons, Int.natCast_add, Int.mul_add, Int.natCast_one, Int.mul_one]
    omega
def sumI (n : Nat) (f : Nat → Int) : Int := match n with
  | 0 => 0
  | n + 1 => sumI n f + f n
theorem sumI_le {f : Nat → Int} {lo hi : Int} : ∀ n, (∀ i, i < n → lo ≤ f i ∧ f i ≤ hi) → lo * n ≤ sumI n f ∧ sumI n f ≤ hi * n
  | 0, _ => by simp [sumI]
  | n + 1, h => by
    have h1 := h n (by omega)
    have h2 := sumI_le n fun i hi => h i (by omega)
    simp only [sumI, Int.natCast_add, Int.mul_add, Int.natCast_one, Int.mul_one]
    omega
def recF (x : Lot) : Int := if x.parts = [] then x.mass else 0

theorem max_pos (z : Int) : max 0 z = pos0 z := rfl

set_option maxHeartbeats 8000000 in
theorem Good.c10 {l : List Lot} (g : Good l) : (orcω E X0).call 10 [encLots l] =
    some (.tup [.int .i64 (sumL recF l), .int .i64 (sumI l.length (leftF l)), .int .i64 (sumL (fun x => pos0 (lostM x)) l), .int .i64 (sumL (fun x => pos0 (-lostM x)) l), .int .i64 0]) := by
  refine call_of rfl fn10 rfl ?_
  have v := g.v
  have hl := v.len
  have k1 := g.c6
  have k2 := c22 l g.sane
  simp only [encLots] at k1 k2
  simp (maxSteps := 1000000) (implicitDefEqProofs := false) only [encLots, k1, k2, bne_self_eq_false, ints_len, Try.ntmps10, Try.results10, efc10, fc10, ss, sd, zH, qG, zF, zG, St.get, qE, qF, qB, zC, norm, look, zE, qA, qI, St.alloc, St.drop, zA, part, zB, depth, qD, ↓reduceIte, Nat.reduceBEq, Nat.reduceAdd, Nat.reduceSub, Nat.reduceMul, Nat.reduceEqDiff, Nat.reduceLeDiff, Nat.reduceLT, qJ, qK, qL, qM, qN, qO, qP, qQ, qR, zI, qS, qC, qT, evSlice0, qV, qW, qX, qY, qZ, zJ, zK, zL, wit, Option.isSome_some, qH, xK, evPre, St.with, zD, Array.size, toldV, isIntV, orArr, offB, effFr, effFr2, effFr3, mapIn, restSame, sameO, eqW, eqWL, pickR, te, einl, inls, efr]
  generalize hr : loopAt _ _ _ _ _ _ = r; revert r
  refine loop_list l (fun pre _ => [(2, .int .i64 (sumL recF pre)), (3, .int .i64 (sumI pre.length (leftF l))), (4, .int .i64 (sumL (fun x => pos0 (lostM x)) pre)), (5, .int .i64 (sumL (fun x => pos0 (-lostM x)) pre)), (18, .int .i64 pre.length)]) (fun _ _ => []) (fun _ (_ : Unit) => True) () (by omega) (by simp (maxSteps := 1000000) (implicitDefEqProofs := false) only [sumL, sumI, List.length_nil, ss, sd, zH, qG, zF, zG, St.get, qE, qF, qB, zC, norm, look, zE, qA, qI, St.alloc, St.drop, zA, part, zB, depth, qD, ↓reduceIte, Nat.reduceBEq, Nat.reduceAdd, Nat.reduceSub, Nat.reduceMul, Nat.reduceEqDiff, Nat.reduceLeDiff, Nat.reduceLT, qJ, qK, qL, qM, qN, qO, qP, qQ, qR, zI, qS, qC, qT, evSlice0, qV, qW, qX, qY, qZ, zJ, zK, zL, wit, Option.isSome_some, qH, xK, evPre, St.with, zD, Array.size, toldV, isIntV, orArr, offB, effFr, effFr2, effFr3, mapIn, restSame, sameO, eqW, eqWL, pickR, te, einl, inls, efr]) trivial (fun _ _ => ?_) (fun pre x post _ hx _ g1 g2 g3 g4 => ?_)
  · simp (maxSteps := 1000000) (implicitDefEqProofs := false) only [Int.lt_irrefl, Try.ntmps10, Try.results10, efc10, fc10, List.length_map, ss, sd, zH, qG, zF, zG, St.get, qE, qF, qB, zC, norm, look, zE, qA, qI, St.alloc, St.drop, zA, part, zB, depth, qD, ↓reduceIte, Nat.reduceBEq, Nat.reduceAdd, Nat.reduceSub, Nat.reduceMul, Nat.reduceEqDiff, Nat.reduceLeDiff, Nat.reduceLT, qJ, qK, qL, qM, qN, qO, qP, qQ, qR, zI, qS, qC, qT, evSlice0, qV, qW, qX, qY, qZ, zJ, zK, zL, wit, Option.isSome_some, qH, xK, evPre, St.with, zD, Array.size, toldV, isIntV, orArr, offB, effFr, effFr2, effFr3, mapIn, restSame, sameO, eqW, eqWL, pickR, te, einl, inls, efr]
  · have hlen : pre.length < l.length := by rw [hx]; simp
    have hxk : l[pre.length] = x := by
      have := congrArg (fun z => z[pre.length]?) hx
      simp only [List.getElem?_eq_getElem hlen, List.getElem?_append_right (Nat.le_refl _), Nat.sub_self, List.getElem?_cons_zero, Option.some.injEq] at this
      exact this
    have hpo := v.parts hlen
    have hm := v.mass hlen
    rw [hxk] at hpo hm
    have g5 := ints_get (leftF l) hlen
    have k3 := c27 x hpo hm
    have hall : ∀ y ∈ l, PartsOk y.parts ∧ 1 ≤ y.mass ∧ y.mass ≤ 100000 := fun y hy => by
      obtain ⟨i, hi, rfl⟩ := List.mem_iff_getElem.1 hy
      exact ⟨v.parts hi, v.mass hi⟩
    have hlost : ∀ y ∈ l, -100000 ≤ lostM y ∧ lostM y ≤ 600000 := fun y hy => by
      obtain ⟨a1, a2⟩ := hall y hy
      have a3 := sumP_le y.parts a1.2
      have a4 := a1.1
      unfold lostM; split <;> omega
    have hpre : ∀ y ∈ pre, y ∈ l := fun y hy => by rw [hx]; simp [hy]
    have b1 := sumL_le (f := recF) (lo := 0) (hi := 100000) (l := pre) fun y hy => by
      have := (hall y (hpre y hy)).2
      unfold recF; split <;> omega
    have b2 := sumL_le (f := fun x => pos0 (lostM x)) (lo := 0) (hi := 600000) (l := pre) fun y hy => by
      have := hlost y (hpre y hy)
      unfold pos0; omega
    have b3 := sumL_le (f := fun x => pos0 (-lostM x)) (lo := 0) (hi := 600000) (l := pre) fun y hy => by
      have := hlost y (hpre y hy)
      unfold pos0; omega
    have hleft : ∀ i, i < l.length → 0 ≤ leftF l i ∧ leftF l i ≤ 100000 := fun i hi => by
      refine ⟨v.left i hi, ?_⟩
      have a1 := sumTk_le i (l := l) fun y hy => (hall y hy).1
      have a2 := v.mass hi
      have a3 : (lotAt l i).mass = l[i].mass := by
        unfold lotAt
        rw [Int.toNat_natCast, List.getD_eq_getElem?_getD, List.getElem?_eq_getElem hi]; rfl
      unfold leftF
      omega
    have b4 := sumI_le (f := leftF l) (lo := 0) (hi := 100000) pre.length fun i hi => hleft i (by omega)
    have b5 := hleft _ hlen
    have b6 := hlost x (by rw [hx]; simp)
    have w1 : IntKind.i64.wrap (sumI pre.length (leftF l) + leftF l pre.length) = sumI (pre ++ [x]).length (leftF l) := by
      rw [wrap_in (by omega), List.length_append]; rfl
    have w2 : IntKind.i64.wrap (sumL (fun x => pos0 (lostM x)) pre + pos0 (lostM x)) = sumL (fun x => pos0 (lostM x)) (pre ++ [x]) := by
      have : 0 ≤ pos0 (lostM x) ∧ pos0 (lostM x) ≤ 600000 := by unfold pos0; omega
      rw [wrap_in (by omega), sumL_app]; simp [sumL]
    have w3 : IntKind.i64.wrap (sumL (fun x => pos0 (-lostM x)) pre + pos0 (-lostM x)) = sumL (fun x => pos0 (-lostM x)) (pre ++ [x]) := by
      have : 0 ≤ pos0 (-lostM x) ∧ pos0 (-lostM x) ≤ 600000 := by unfold pos0; omega
      rw [wrap_in (by omega), sumL_app]; simp [sumL]
    have w4 : IntKind.i64.wrap (0 - lostM x) = -lostM x := by rw [wrap_in (by omega)]; omega
    by_cases hps : x.parts = []
    · have w5 : IntKind.i64.wrap (sumL recF pre + x.mass) = sumL recF (pre ++ [x]) := by
        rw [wrap_in (by omega), sumL_app]; simp [sumL, recF, hps]
      obtain ⟨k, m, ps⟩ := x
      dsimp only at hps w5
      subst hps
      simp only [encLot, List.map_nil] at k3
      simp (maxSteps := 1000000) (implicitDefEqProofs := false) only [g1, g2, g3, g4, g5, k3, w1, w2, w3, w4, w5, max_pos, encLot, List.map_nil, List.length_nil, Int.natCast_zero, beq_self_eq_true, Int.natCast_nonneg, Int.toNat_natCast, List.getElem?_map, List.length_map, ss, sd, zH, qG, zF, zG, St.get, qE, qF, qB, zC, norm, look, zE, qA, qI, St.alloc, St.drop, zA, part, zB, depth, qD, ↓reduceIte, Nat.reduceBEq, Nat.reduceAdd, Nat.reduceSub, Nat.reduceMul, Nat.reduceEqDiff, Nat.reduceLeDiff, Nat.reduceLT, qJ, qK, qL, qM, qN, qO, qP, qQ, qR, zI, qS, qC, qT, evSlice0, qV, qW, qX, qY, qZ, zJ, zK, zL, wit, Option.isSome_some, qH, xK, evPre, St.with, zD, Array.size, toldV, isIntV, orArr, offB, effFr, effFr2, effFr3, mapIn, restSame, sameO, eqW, eqWL, pickR, te, einl, inls, efr]
      (first | exact ⟨(), trivial⟩ | refine ⟨(), ?_, trivial⟩ | skip)
    · have w5 : sumL recF pre = sumL recF (pre ++ [x]) := by
        rw [sumL_app]; simp [sumL, recF, hps]
      obtain ⟨k, m, ps⟩ := x
      dsimp only at hps w5
      have hne : ((ps.length : Int) == 0) = false := by have := List.length_pos_iff.2 hps; simp; omega
      simp only [encLot] at k3
      simp (maxSteps := 1000000) (implicitDefEqProofs := false) only [g1, g2, g3, g4, g5, k3, w1, w2, w3, w4, w5, max_pos, encLot, hne, Int.natCast_nonneg, Int.toNat_natCast, List.getElem?_map, List.length_map, ss, sd, zH, qG, zF, zG, St.get, qE, qF, qB, zC, norm, look, zE, qA, qI, St.alloc, St.drop, zA, part, zB, depth, qD, ↓reduceIte, Nat.reduceBEq, Nat.reduceAdd, Nat.reduceSub, Nat.reduceMul, Nat.reduceEqDiff, Nat.reduceLeDiff, Nat.reduceLT, qJ, qK, qL, qM, qN, qO, qP, qQ, qR, zI, qS, qC, qT, evSlice0, qV, qW, qX, qY, qZ, zJ, zK, zL, wit, Option.isSome_some, qH, xK, evPre, St.with, zD, Array.size, toldV, isIntV, orArr, offB, effFr, effFr2, effFr3, mapIn, restSame, sameO, eqW, eqWL, pickR, te, einl, inls, efr]
      (first | exact ⟨(), trivial⟩ | refine ⟨(), ?_, trivial⟩ | skip)
end Go.AM.F

