/-
The share of a lot in another one (lot.Share).
-/
import Derived.Test.YteocppddjlglbaaFShareB
import Derived.Test.YteocppddjlglbaaFFrac
set_option linter.unusedVariables false
set_option linter.unusedSimpArgs false
set_option maxRecDepth 20000

namespace Go.AM.F
open Go Go.AM Go.Proofs

def outS (l : List Lot) (o i : Nat) : List (List V) := [[.sl false (l.map encLot), .int .i64 (o : Int), .int .i64 (i : Int), .und, .und, .und, .ptr 6 0 0, .int .i64 0, .int .i64 0, .und, .sl false (l.map encLot), .int .i64 (o : Int), .int .i64 (i : Int), .own 13 0 2, .int .i64 0, .int .i64 0, .bool false, .und, .und, .sl false (l.map encLot), .int .i64 (o : Int), .und, .und, .und, .und, .und, .und, .und, .und, .und, .und]]
def ob6 : Ob := { es := 2, flat := true, t := true, app := false, elems := [.agg [.int .i64 0, .int .i64 0]] }
def ob13 (o i : Nat) : Ob := { es := 1, flat := true, t := true, app := true, elems := [.int .i64 (o : Int), .int .i64 (i : Int)] }
theorem i16 (l : List Lot) (o i : Nat) : ∃ sl, (orcω E X0).inl 1000 16 [.sl false (l.map encLot), .int .i64 (o : Int)] { slots := [], outer := outS l o i, objs := [(6, ob6), (13, ob13 o i)] } =
    some (.ptr 1029 0 0, { slots := sl, outer := outS l o i, objs := [(6, ob6), (13, ob13 o i), (1027, mapOb []), (1029, shOb l o)] }) := by
  refine (fun h : ∃ sl : List V, _ = some ((.ptr 1029 0 0 : V), ({ slots := sl, outer := outS l o i, objs := [(6, ob6), (13, ob13 o i), (1027, mapOb []), (1029, shOb l o)] } : St)) => h.elim fun sl h => ⟨sl, inl_of rfl fn16 rfl h⟩) ?_
  simp (maxSteps := 1000000) (implicitDefEqProofs := false) only [outS, ob6, ob13, mapOb, shOb, encLots, Try.ntmps16, Try.results16, efc16, fc16, ss, sd, zH, qG, zF, zG, St.get, qE, qF, qB, zC, norm, look, zE, qA, qI, St.alloc, St.drop, zA, part, zB, depth, qD, ↓reduceIte, Nat.reduceBEq, Nat.reduceAdd, Nat.reduceSub, Nat.reduceMul, Nat.reduceEqDiff, Nat.reduceLeDiff, Nat.reduceLT, qJ, qK, qL, qM, qN, qO, qP, qQ, qR, zI, qS, qC, qT, evSlice0, qV, qW, qX, qY, qZ, zJ, zK, zL, wit, Option.isSome_some, qH, xK, evPre, St.with, zD, Array.size, toldV, isIntV, orArr, offB, effFr, effFr2, effFr3, mapIn, restSame, sameO, eqW, eqWL, pickR, te, einl, inls, efr]
  exact ⟨_, rfl⟩

set_option maxHeartbeats 16000000 in
theorem c4 {l : List Lot} (g : Good l) (o i : Nat) (ho : o < l.length) (hi : i < l.length) :
    (orcω E X0).call 4 [encLots l, .int .i64 (o : Nat), .int .i64 (i : Nat)] = some (encN (fracN (num l o i) (seg l 0 (i + 1)))) := by
  refine call_of rfl fn4 rfl ?_
  have k1 := g.c15 [(o : Int), (i : Int)] (by simp; omega) (by simp)
  obtain ⟨sl, c, ks', _, k2⟩ := in_is g o ho i hi []
  obtain ⟨sl2, k3⟩ := i19 g o (entK l o ks') i hi
  obtain ⟨sl0, k0⟩ := i16 l o i
  have hw := W_lt g (n := i + 1) (by omega)
  have hn := num_le g.v o i hi
  have hp := seg_pos g.v 0 (i + 1) (by omega)
  have k4 := c17 (num l o i) (seg l 0 (i + 1)) (by omega) hw (by omega)
  generalize fracN (num l o i) (seg l 0 (i + 1)) = r at *
  obtain ⟨r1, r2, r3⟩ := r
  simp only [encLots, List.map_cons, List.map_nil, vI] at k1
  have hK : entK l o [] = [] := rfl
  rw [hK] at k2
  generalize num l o i = N at *
  generalize seg l 0 (i + 1) = W at *
  generalize entK l o ks' = K at *
  simp only [outS, ob6, ob13, shSt, shOb, mapOb, encLots] at k0
  match c, k2 with
  | 0, k2 =>
    simp only [shSt, shOb, mapOb, left18, encLots, natOb, nV, natV, encN, ratV] at k2 k3 k4
    simp (maxSteps := 1000000) (implicitDefEqProofs := false) only [shSt, shOb, mapOb, encLots, natOb, nV, natV, nn, k0, k1, k2, k3, k4, bne_self_eq_false, List.isEmpty_cons, encN, ratV, Try.ntmps4, Try.results4, efc4, ss, sd, zH, qG, zF, zG, St.get, qE, qF, qB, zC, norm, look, zE, qA, qI, St.alloc, St.drop, zA, part, zB, depth, qD, ↓reduceIte, Nat.reduceBEq, Nat.reduceAdd, Nat.reduceSub, Nat.reduceMul, Nat.reduceEqDiff, Nat.reduceLeDiff, Nat.reduceLT, qJ, qK, qL, qM, qN, qO, qP, qQ, qR, zI, qS, qC, qT, evSlice0, qV, qW, qX, qY, qZ, zJ, zK, zL, wit, Option.isSome_some, qH, xK, evPre, St.with, zD, Array.size, toldV, isIntV, orArr, offB, effFr, effFr2, effFr3, mapIn, restSame, sameO, eqW, eqWL, pickR, te, einl, inls, efr]
    done
  | 1, k2 =>
    simp only [shSt, shOb, mapOb, left18, zeroOb, ti54, encLots, natOb, nV, natV, encN, ratV] at k2 k3 k4
    simp (maxSteps := 1000000) (implicitDefEqProofs := false) only [shSt, shOb, mapOb, encLots, natOb, nV, natV, nn, k0, k1, k2, k3, k4, bne_self_eq_false, List.isEmpty_cons, encN, ratV, Try.ntmps4, Try.results4, efc4, ss, sd, zH, qG, zF, zG, St.get, qE, qF, qB, zC, norm, look, zE, qA, qI, St.alloc, St.drop, zA, part, zB, depth, qD, ↓reduceIte, Nat.reduceBEq, Nat.reduceAdd, Nat.reduceSub, Nat.reduceMul, Nat.reduceEqDiff, Nat.reduceLeDiff, Nat.reduceLT, qJ, qK, qL, qM, qN, qO, qP, qQ, qR, zI, qS, qC, qT, evSlice0, qV, qW, qX, qY, qZ, zJ, zK, zL, wit, Option.isSome_some, qH, xK, evPre, St.with, zD, Array.size, toldV, isIntV, orArr, offB, effFr, effFr2, effFr3, mapIn, restSame, sameO, eqW, eqWL, pickR, te, einl, inls, efr]
    done
  | c + 2, k2 =>
    simp only [shSt, shOb, mapOb, left18, encLots, natOb, nV, natV, encN, ratV] at k2 k3 k4
    simp (maxSteps := 1000000) (implicitDefEqProofs := false) only [shSt, shOb, mapOb, encLots, natOb, nV, natV, nn, k0, k1, k2, k3, k4, bne_self_eq_false, List.isEmpty_cons, encN, ratV, Try.ntmps4, Try.results4, efc4, ss, sd, zH, qG, zF, zG, St.get, qE, qF, qB, zC, norm, look, zE, qA, qI, St.alloc, St.drop, zA, part, zB, depth, qD, ↓reduceIte, Nat.reduceBEq, Nat.reduceAdd, Nat.reduceSub, Nat.reduceMul, Nat.reduceEqDiff, Nat.reduceLeDiff, Nat.reduceLT, qJ, qK, qL, qM, qN, qO, qP, qQ, qR, zI, qS, qC, qT, evSlice0, qV, qW, qX, qY, qZ, zJ, zK, zL, wit, Option.isSome_some, qH, xK, evPre, St.with, zD, Array.size, toldV, isIntV, orArr, offB, effFr, effFr2, effFr3, mapIn, restSame, sameO, eqW, eqWL, pickR, te, einl, inls, efr]
    done
end Go.AM.F

