/-
Shares by dilution: scale, whole, in.
-/
import Derived.Test.YteocppddjlglbaaFLotD
import Derived.Test.YteocppddjlglbaaFShareP
import Derived.Test.YteocppddjlglbaaFGcd
set_option linter.unusedVariables false
set_option linter.unusedSimpArgs false
set_option maxRecDepth 20000

namespace Go.AM.F
open Go Go.AM Go.Proofs

def shOb (l : List Lot) (o : Nat) : Ob := { es := 3, flat := false, t := false, app := false, elems := [.agg [encLots l, .int .i64 (o : Int), .mapr 1027]] }
def mapOb (K : List V) : Ob := { es := 0, flat := true, t := true, app := false, elems := K }
def shSt (l : List Lot) (o : Nat) (K : List V) : St := { slots := [], outer := [[.ptr 1029 0 0, .mapr 1027]], objs := [(1027, mapOb K), (1029, shOb l o)] }

section
variable {l : List Lot} (g : Good l)
include g
set_option maxHeartbeats 4000000 in
theorem i32 (o : Nat) (K : List V) (a i n : Nat) (ha : a < big) (hi : i + n ≤ l.length) (h : a * seg l i n < big) :
    ∃ sl, (orcω E X0).inl 1000 32 [.ptr 1029 0 0, nV a, .int .i64 (i : Nat), .int .i64 ((i + n : Nat) : Int)] (shSt l o K) =
      some (nV (a * seg l i n), { slots := sl, outer := [[.ptr 1029 0 0, .mapr 1027]], objs := [(1005, natOb (wd (a * seg l i n))), (1008, natOb (wd (a * seg l i n))), (1027, mapOb K), (1029, shOb l o)] }) := by
  have v := g.v
  refine (fun h : ∃ sl : List V, _ = some (nV (a * seg l i n), ({ slots := sl, outer := [[.ptr 1029 0 0, .mapr 1027]], objs := [(1005, natOb (wd (a * seg l i n))), (1008, natOb (wd (a * seg l i n))), (1027, mapOb K), (1029, shOb l o)] } : St)) => h.elim fun sl h => ⟨sl, inl_of rfl fn32 rfl h⟩) ?_
  simp (maxSteps := 1000000) (implicitDefEqProofs := false) only [shSt, shOb, mapOb, encLots, natOb, nV, natV, nn, Try.ntmps32, Try.results32, efc32, fc32, ss, sd, zH, qG, zF, zG, St.get, qE, qF, qB, zC, norm, look, zE, qA, qI, St.alloc, St.drop, zA, part, zB, depth, qD, ↓reduceIte, Nat.reduceBEq, Nat.reduceAdd, Nat.reduceSub, Nat.reduceMul, Nat.reduceEqDiff, Nat.reduceLeDiff, Nat.reduceLT, qJ, qK, qL, qM, qN, qO, qP, qQ, qR, zI, qS, qC, qT, evSlice0, qV, qW, qX, qY, qZ, zJ, zK, zL, wit, Option.isSome_some, qH, xK, evPre, St.with, zD, Array.size, toldV, isIntV, orArr, offB, effFr, effFr2, effFr3, mapIn, restSame, sameO, eqW, eqWL, pickR, te, einl, inls, efr]
  generalize hr : loopAt _ _ _ _ _ _ = r; revert r
  refine loop_nat n (fun k _ => [(9, .int .i64 ((i + k : Nat) : Int))]) (fun k _ => [(1005, natOb (wd (a * seg l i k)))]) (fun _ (_ : Unit) => True) () (by have := v.len; omega) (by simp (maxSteps := 1000000) (implicitDefEqProofs := false) only [natOb, natV, seg, Nat.mul_one, Nat.add_zero, ss, sd, zH, qG, zF, zG, St.get, qE, qF, qB, zC, norm, look, zE, qA, qI, St.alloc, St.drop, zA, part, zB, depth, qD, ↓reduceIte, Nat.reduceBEq, Nat.reduceAdd, Nat.reduceSub, Nat.reduceMul, Nat.reduceEqDiff, Nat.reduceLeDiff, Nat.reduceLT, qJ, qK, qL, qM, qN, qO, qP, qQ, qR, zI, qS, qC, qT, evSlice0, qV, qW, qX, qY, qZ, zJ, zK, zL, wit, Option.isSome_some, qH, xK, evPre, St.with, zD, Array.size, toldV, isIntV, orArr, offB, effFr, effFr2, effFr3, mapIn, restSame, sameO, eqW, eqWL, pickR, te, einl, inls, efr]) trivial (fun _ _ => ?_) (fun k _ _ q1 q2 q3 => ?_)
  · have p1 : ¬ ((i + n : Nat) : Int) < ((i + n : Nat) : Int) := Int.lt_irrefl _
    simp (maxSteps := 1000000) (implicitDefEqProofs := false) only [p1, natOb, natV, nn, Try.ntmps32, Try.results32, efc32, fc32, ss, sd, zH, qG, zF, zG, St.get, qE, qF, qB, zC, norm, look, zE, qA, qI, St.alloc, St.drop, zA, part, zB, depth, qD, ↓reduceIte, Nat.reduceBEq, Nat.reduceAdd, Nat.reduceSub, Nat.reduceMul, Nat.reduceEqDiff, Nat.reduceLeDiff, Nat.reduceLT, qJ, qK, qL, qM, qN, qO, qP, qQ, qR, zI, qS, qC, qT, evSlice0, qV, qW, qX, qY, qZ, zJ, zK, zL, wit, Option.isSome_some, qH, xK, evPre, St.with, zD, Array.size, toldV, isIntV, orArr, offB, effFr, effFr2, effFr3, mapIn, restSame, sameO, eqW, eqWL, pickR, te, einl, inls, efr]
    exact ⟨_, rfl⟩
  · have hik : i + k < l.length := by omega
    have p1 : ((i + k : Nat) : Int) < ((i + n : Nat) : Int) := by omega
    have p2 : ((i + k : Nat) : Int) < l.length := by omega
    have g1 := lots_get hik
    have k1 := c39 l[i + k] (v.parts hik)
    have hsm := seg_mono v i (show k + 1 ≤ n from q1) hi
    have hle : a * seg l i (k + 1) < big := Nat.lt_of_le_of_lt (Nat.mul_le_mul_left _ hsm) h
    have hs1 : seg l i (k + 1) = seg l i k * tkN l[i + k] := by rw [seg, lotN_at hik]
    have hle0 : a * seg l i k < big := Nat.lt_of_le_of_lt (Nat.mul_le_mul_left _ (seg_mono v i (show k ≤ n by omega) hi)) h
    have q5 : IntKind.i64.wrap (((i + k : Nat) : Int) + 1) = ((i + (k + 1) : Nat) : Int) := by have := v.len; rw [wrap_in (by omega)]; omega
    have htk := tkN_pos v hik
    have hte := tkN_eq v hik
    generalize l[i + k] = x at *
    obtain ⟨xk, xm, ps⟩ := x
    dsimp only at hte
    simp only [encLot] at k1
    rcases hte with ⟨t1, t2⟩ | ⟨t1, t2⟩
    · have d1 := k35 (a * seg l i k) (tkN ⟨xk, xm, ps⟩) hle0 (by omega) (by rw [Nat.mul_assoc, ← hs1]; exact hle)
      rw [Nat.mul_assoc, ← hs1, ← t2] at d1
      simp only [nV, natV] at d1
      simp (maxSteps := 1000000) (implicitDefEqProofs := false) only [p1, p2, g1, k1, t1, d1, q5, natOb, natV, nn, encLot, Int.natCast_nonneg, Int.toNat_natCast, List.length_map, ss, sd, zH, qG, zF, zG, St.get, qE, qF, qB, zC, norm, look, zE, qA, qI, St.alloc, St.drop, zA, part, zB, depth, qD, ↓reduceIte, Nat.reduceBEq, Nat.reduceAdd, Nat.reduceSub, Nat.reduceMul, Nat.reduceEqDiff, Nat.reduceLeDiff, Nat.reduceLT, qJ, qK, qL, qM, qN, qO, qP, qQ, qR, zI, qS, qC, qT, evSlice0, qV, qW, qX, qY, qZ, zJ, zK, zL, wit, Option.isSome_some, qH, xK, evPre, St.with, zD, Array.size, toldV, isIntV, orArr, offB, effFr, effFr2, effFr3, mapIn, restSame, sameO, eqW, eqWL, pickR, te, einl, inls, efr]
      exact ⟨(), trivial⟩
    · rw [t2, Nat.mul_one] at hs1
      simp (maxSteps := 1000000) (implicitDefEqProofs := false) only [p1, p2, g1, k1, t1, q5, hs1, natOb, natV, nn, encLot, Int.natCast_nonneg, Int.toNat_natCast, List.length_map, ss, sd, zH, qG, zF, zG, St.get, qE, qF, qB, zC, norm, look, zE, qA, qI, St.alloc, St.drop, zA, part, zB, depth, qD, ↓reduceIte, Nat.reduceBEq, Nat.reduceAdd, Nat.reduceSub, Nat.reduceMul, Nat.reduceEqDiff, Nat.reduceLeDiff, Nat.reduceLT, qJ, qK, qL, qM, qN, qO, qP, qQ, qR, zI, qS, qC, qT, evSlice0, qV, qW, qX, qY, qZ, zJ, zK, zL, wit, Option.isSome_some, qH, xK, evPre, St.with, zD, Array.size, toldV, isIntV, orArr, offB, effFr, effFr2, effFr3, mapIn, restSame, sameO, eqW, eqWL, pickR, te, einl, inls, efr]
      exact ⟨(), trivial⟩

theorem W_lt {n : Nat} (h : n ≤ l.length) : seg l 0 n < big := by
  have h1 := seg_le g.v 0 n (by omega)
  have h2 := g.v.len
  have h3 : 600000 ^ n ≤ 600000 ^ 24 := Nat.pow_le_pow_right (by decide) (by omega)
  have h4 : 600000 ^ 24 < big := by decide +kernel
  omega
set_option maxHeartbeats 4000000 in
theorem i19 (o : Nat) (K : List V) (i : Nat) (hi : i < l.length) :
    ∃ sl, (orcω E X0).inl 1000 19 [.ptr 1029 0 0, .int .i64 (i : Nat)] (shSt l o K) =
      some (nV (seg l 0 (i + 1)), { slots := sl, outer := [[.ptr 1029 0 0, .mapr 1027]], objs := [(1004, natOb (wd (seg l 0 (i + 1)))), (1027, mapOb K), (1029, shOb l o)] }) := by
  have v := g.v
  refine (fun h : ∃ sl : List V, _ = some (nV (seg l 0 (i + 1)), ({ slots := sl, outer := [[.ptr 1029 0 0, .mapr 1027]], objs := [(1004, natOb (wd (seg l 0 (i + 1)))), (1027, mapOb K), (1029, shOb l o)] } : St)) => h.elim fun sl h => ⟨sl, inl_of rfl fn19 rfl h⟩) ?_
  have k1 : (orcω E X0).call 33 [.int .i64 1] = some (nV 1) := k33 1 (by decide)
  obtain ⟨sl, k2⟩ := i32 g o K 1 0 (i + 1) (by decide +kernel) (by omega) (by rw [Nat.one_mul]; exact W_lt g (by omega))
  rw [Nat.zero_add, Nat.one_mul] at k2
  have w1 : IntKind.i64.wrap ((i : Int) + 1) = ((i + 1 : Nat) : Int) := by have := v.len; rw [wrap_in (by omega)]; omega
  simp only [shSt, shOb, mapOb, encLots, natOb, nV, natV, Int.natCast_zero] at k1 k2
  simp (maxSteps := 1000000) (implicitDefEqProofs := false) only [shSt, shOb, mapOb, encLots, natOb, nV, natV, nn, k1, k2, w1, Int.natCast_zero, List.isEmpty_cons, Try.ntmps19, Try.results19, efc19, fc19, ss, sd, zH, qG, zF, zG, St.get, qE, qF, qB, zC, norm, look, zE, qA, qI, St.alloc, St.drop, zA, part, zB, depth, qD, ↓reduceIte, Nat.reduceBEq, Nat.reduceAdd, Nat.reduceSub, Nat.reduceMul, Nat.reduceEqDiff, Nat.reduceLeDiff, Nat.reduceLT, qJ, qK, qL, qM, qN, qO, qP, qQ, qR, zI, qS, qC, qT, evSlice0, qV, qW, qX, qY, qZ, zJ, zK, zL, wit, Option.isSome_some, qH, xK, evPre, St.with, zD, Array.size, toldV, isIntV, orArr, offB, effFr, effFr2, effFr3, mapIn, restSame, sameO, eqW, eqWL, pickR, te, einl, inls, efr]
  exact ⟨_, rfl⟩
end
end Go.AM.F

