/-
Heats: the search with a memory (loft.program, loft.finish).
-/
import Derived.Test.YtbfgifolmpmagaaBSeq
import Derived.Test.YtbfgifolmpmagaaAmR
set_option linter.unusedVariables false
set_option linter.unusedSimpArgs false

namespace Go.AM.B
open Go Go.AM Go.Proofs

abbrev Key := Int × Int × Int
def keyV (k : Key) : V := .agg [.int .i64 k.1, .int .i64 k.2.1, .int .i64 k.2.2]
def deadV (D : List Key) : List V := D.map fun k => .tup [keyV k, .bool true]

theorem eqT_key (k k' : Key) : eqT E 8 162 (keyV k) (keyV k') = some (decide (k = k')) := by
  obtain ⟨a, b, c⟩ := k
  obtain ⟨a', b', c'⟩ := k'
  simp only [keyV, ss, List.replicate, zH, qG, zF, zG, St.eval, St.put, St.get, constV, List.set, lenV, qE, qF, qB, zC, norm, xQ, look, xP, xX, zO, zM, zE, zN, qA, qI, St.alloc, St.drop, killL, kill, xU, xV, zA, upd, cells?, part, retag, xT, putIn, refFree, xR, isNew, xS, Ty.isAgg, zB, idsL, ids, idsLL, reach, depth, St.dropL, qD, resultV, ↓reduceIte, Nat.reduceBEq, Nat.reduceAdd, Nat.reduceSub, Nat.reduceMul, Nat.reduceEqDiff, Nat.reduceLeDiff, Nat.reduceLT, qJ, qK, zV, zW, qL, qM, qN, qO, Eff.ap, qP, qQ, xW, qR, zI, onto, dropO, xA, sized, zP, eqT, eqG, minV, evUn, qS, zQ, zR, zS, qC, qT, upO, evSlice0, optInt, xC, qV, xD, del, xB, plain, plainL, zY, zZ, zT, qW, zU, zX, xY, qX, qY, qZ, xE, zJ, zK, zL, xF, xG, wit, xH, Option.isSome_some, xI, qH, xJ, evPre, St.with, xK, xL, zD, xM, xN, xO, Array.size, te, einl, inls, efr]
  by_cases h1 : a = a' <;> by_cases h2 : b = b' <;> by_cases h3 : c = c' <;> simp [h1, h2, h3]

theorem keyOk_key (k : Key) : qY E 162 (keyV k) = true := by
  unfold qY
  rw [eqT_key]
  simp only [ss, List.replicate, zH, qG, zF, zG, St.eval, St.put, St.get, constV, List.set, lenV, qE, qF, qB, zC, norm, xQ, look, xP, xX, zO, zM, zE, zN, qA, qI, St.alloc, St.drop, killL, kill, xU, xV, zA, upd, cells?, part, retag, xT, putIn, refFree, xR, isNew, xS, Ty.isAgg, zB, idsL, ids, idsLL, reach, depth, St.dropL, qD, resultV, ↓reduceIte, Nat.reduceBEq, Nat.reduceAdd, Nat.reduceSub, Nat.reduceMul, Nat.reduceEqDiff, Nat.reduceLeDiff, Nat.reduceLT, qJ, qK, zV, zW, qL, qM, qN, qO, Eff.ap, qP, qQ, xW, qR, zI, onto, dropO, xA, sized, zP, eqT, eqG, minV, evUn, qS, zQ, zR, zS, qC, qT, upO, evSlice0, optInt, xC, qV, xD, del, xB, plain, plainL, zY, zZ, zT, qW, zU, zX, xY, qX, qY, qZ, xE, zJ, zK, zL, xF, xG, wit, xH, Option.isSome_some, xI, qH, xJ, evPre, St.with, xK, xL, zD, xM, xN, xO, Array.size, te, einl, inls, efr]

theorem find_dead (k : Key) : ∀ D : List Key, xY E 162 (keyV k) (deadV D) = some (if k ∈ D then some (.bool true) else none)
  | [] => rfl
  | d :: D => by
    simp only [deadV, List.map_cons, xY, eqT_key]
    by_cases h : k = d
    · subst h; simp [ask]
    · simp only [h, decide_false, ask, List.mem_cons, false_or]
      exact find_dead k D

def searchOb (poles : Int) (rates : List Int) (need most : Int) : Ob :=
  { es := 5, flat := false, t := false, app := false, elems := [.agg [.int .i64 poles, .sl false (rates.map vI), .int .i64 need, .int .i64 most, .mapr 15]] }
def deadOb (D : List Key) : Ob := { es := 0, flat := true, t := true, app := false, elems := deadV D }

theorem okB105 : okCodeB (Try.f105.body.getD .skip) = true := by decide +kernel

def boxOb (k : Key) : Ob := { es := 3, flat := true, t := true, app := false, elems := [keyV k] }
def heatsOb (l : List Int) : Ob := { es := 1, flat := true, t := true, app := true, elems := l.map vI }
def finSt (poles : Int) (rates : List Int) (need most : Int) (D : List Key) : St :=
  { slots := [], outer := [[.ptr 17 0 0, .mapr 15]], objs := [(15, deadOb D), (17, searchOb poles rates need most)] }

def FinIs (poles : Int) (rates : List Int) (need most : Int) (k : Key) (D : List Key) (r : Option (List Int)) (D' : List Key) : Prop :=
  ∃ sl, (orcω E X0).inl 1000 105 [.ptr 17 0 0, keyV k] (finSt poles rates need most D) = match r with
    | none => some (.tup [.emp, .bool false], { slots := sl, outer := [[.ptr 17 0 0, .mapr 15]], objs := [(15, deadOb D'), (17, searchOb poles rates need most), (1003, boxOb k)] })
    | some [] => some (.tup [.emp, .bool true], { slots := sl, outer := [[.ptr 17 0 0, .mapr 15]], objs := [(15, deadOb D'), (17, searchOb poles rates need most), (1003, boxOb k)] })
    | some (h :: l) => some (.tup [.own 1004 0 (l.length + 1), .bool true],
        { slots := sl, outer := [[.ptr 17 0 0, .mapr 15]], objs := [(15, deadOb D'), (17, searchOb poles rates need most), (1003, boxOb k), (1004, heatsOb (h :: l))] })

section
variable {poles : Int} {rates : List Int} {need most days heat sum : Int} {D : List Key}

theorem fin_big (h : most < sum) : FinIs poles rates need most (days, heat, sum) D none D := by
  refine ⟨?_, ?_⟩
  rotate_left
  · refine inl_of rfl fn105 rfl ?_
    have hok := okB105
    simp only [Try.f105, Option.getD_some, okCodeB, Bool.and_eq_true, Bool.and_true, Bool.true_and] at hok
    obtain ⟨hk1, hk2, hk3, hk4⟩ := hok
    simp (maxSteps := 1000000) (implicitDefEqProofs := false) only [Try.ntmps105, Try.results105, efc105, fc105, keyV, deadOb, searchOb, boxOb, finSt, regB hk1, evBD_nil, evBD_cons, effB_true, effB_false, effB2_some, effB2_none, isBar, h, ss, List.replicate, zH, qG, zF, zG, St.eval, St.put, St.get, constV, List.set, lenV, qE, qF, qB, zC, norm, xQ, look, xP, xX, zO, zM, zE, zN, qA, qI, St.alloc, St.drop, killL, kill, xU, xV, zA, upd, cells?, part, retag, xT, putIn, refFree, xR, isNew, xS, Ty.isAgg, zB, idsL, ids, idsLL, reach, depth, St.dropL, qD, resultV, ↓reduceIte, Nat.reduceBEq, Nat.reduceAdd, Nat.reduceSub, Nat.reduceMul, Nat.reduceEqDiff, Nat.reduceLeDiff, Nat.reduceLT, qJ, qK, zV, zW, qL, qM, qN, qO, Eff.ap, qP, qQ, xW, qR, zI, onto, dropO, xA, sized, zP, eqT, eqG, minV, evUn, qS, zQ, zR, zS, qC, qT, upO, evSlice0, optInt, xC, qV, xD, del, xB, plain, plainL, zY, zZ, zT, qW, zU, zX, xY, qX, qY, qZ, xE, zJ, zK, zL, xF, xG, wit, xH, Option.isSome_some, xI, qH, xJ, evPre, St.with, xK, xL, zD, xM, xN, xO, Array.size, te, einl, inls, efr]
    exact rfl

theorem fin_dead (h : ¬ most < sum) (hd : (days, heat, sum) ∈ D) : FinIs poles rates need most (days, heat, sum) D none D := by
  have hf : xY E 162 (.agg [.int .i64 days, .int .i64 heat, .int .i64 sum]) (deadV D) = some (some (.bool true)) := by
    have := find_dead (days, heat, sum) D
    rw [if_pos hd] at this
    exact this
  refine ⟨?_, ?_⟩
  rotate_left
  · refine inl_of rfl fn105 rfl ?_
    have hok := okB105
    simp only [Try.f105, Option.getD_some, okCodeB, Bool.and_eq_true, Bool.and_true, Bool.true_and] at hok
    obtain ⟨hk1, hk2, hk3, hk4⟩ := hok
    simp (maxSteps := 1000000) (implicitDefEqProofs := false) only [Try.ntmps105, Try.results105, efc105, fc105, keyV, deadOb, searchOb, boxOb, finSt, regB hk1, evBD_nil, evBD_cons, effB_true, effB_false, effB2_some, effB2_none, isBar, h, hf, ss, List.replicate, zH, qG, zF, zG, St.eval, St.put, St.get, constV, List.set, lenV, qE, qF, qB, zC, norm, xQ, look, xP, xX, zO, zM, zE, zN, qA, qI, St.alloc, St.drop, killL, kill, xU, xV, zA, upd, cells?, part, retag, xT, putIn, refFree, xR, isNew, xS, Ty.isAgg, zB, idsL, ids, idsLL, reach, depth, St.dropL, qD, resultV, ↓reduceIte, Nat.reduceBEq, Nat.reduceAdd, Nat.reduceSub, Nat.reduceMul, Nat.reduceEqDiff, Nat.reduceLeDiff, Nat.reduceLT, qJ, qK, zV, zW, qL, qM, qN, qO, Eff.ap, qP, qQ, xW, qR, zI, onto, dropO, xA, sized, zP, eqT, eqG, minV, evUn, qS, zQ, zR, zS, qC, qT, upO, evSlice0, optInt, xC, qV, xD, del, xB, plain, plainL, zY, zZ, zT, qW, zU, zX, xY, qX, qY, qZ, xE, zJ, zK, zL, xF, xG, wit, xH, Option.isSome_some, xI, qH, xJ, evPre, St.with, xK, xL, zD, xM, xN, xO, Array.size, te, einl, inls, efr]
    exact rfl

theorem fin_zero (h : ¬ most < sum) (hd : (0, heat, sum) ∉ D) : FinIs poles rates need most (0, heat, sum) D (if need ≤ sum then some [] else none) D := by
  have hf : xY E 162 (.agg [.int .i64 0, .int .i64 heat, .int .i64 sum]) (deadV D) = some none := by
    have := find_dead (0, heat, sum) D
    rw [if_neg hd] at this
    exact this
  by_cases hn : need ≤ sum
  · rw [if_pos hn]
    refine ⟨?_, ?_⟩
    rotate_left
    · refine inl_of rfl fn105 rfl ?_
      have hok := okB105
      simp only [Try.f105, Option.getD_some, okCodeB, Bool.and_eq_true, Bool.and_true, Bool.true_and] at hok
      obtain ⟨hk1, hk2, hk3, hk4⟩ := hok
      simp (maxSteps := 1000000) (implicitDefEqProofs := false) only [Try.ntmps105, Try.results105, efc105, fc105, keyV, deadOb, searchOb, boxOb, finSt, regB hk1, regB hk2, evBD_nil, evBD_cons, effB_true, effB_false, effB2_some, effB2_none, isBar, h, hf, hn, ss, List.replicate, zH, qG, zF, zG, St.eval, St.put, St.get, constV, List.set, lenV, qE, qF, qB, zC, norm, xQ, look, xP, xX, zO, zM, zE, zN, qA, qI, St.alloc, St.drop, killL, kill, xU, xV, zA, upd, cells?, part, retag, xT, putIn, refFree, xR, isNew, xS, Ty.isAgg, zB, idsL, ids, idsLL, reach, depth, St.dropL, qD, resultV, ↓reduceIte, Nat.reduceBEq, Nat.reduceAdd, Nat.reduceSub, Nat.reduceMul, Nat.reduceEqDiff, Nat.reduceLeDiff, Nat.reduceLT, qJ, qK, zV, zW, qL, qM, qN, qO, Eff.ap, qP, qQ, xW, qR, zI, onto, dropO, xA, sized, zP, eqT, eqG, minV, evUn, qS, zQ, zR, zS, qC, qT, upO, evSlice0, optInt, xC, qV, xD, del, xB, plain, plainL, zY, zZ, zT, qW, zU, zX, xY, qX, qY, qZ, xE, zJ, zK, zL, xF, xG, wit, xH, Option.isSome_some, xI, qH, xJ, evPre, St.with, xK, xL, zD, xM, xN, xO, Array.size, te, einl, inls, efr]
      exact rfl
  · rw [if_neg hn]
    refine ⟨?_, ?_⟩
    rotate_left
    · refine inl_of rfl fn105 rfl ?_
      have hok := okB105
      simp only [Try.f105, Option.getD_some, okCodeB, Bool.and_eq_true, Bool.and_true, Bool.true_and] at hok
      obtain ⟨hk1, hk2, hk3, hk4⟩ := hok
      simp (maxSteps := 1000000) (implicitDefEqProofs := false) only [Try.ntmps105, Try.results105, efc105, fc105, keyV, deadOb, searchOb, boxOb, finSt, regB hk1, regB hk2, evBD_nil, evBD_cons, effB_true, effB_false, effB2_some, effB2_none, isBar, h, hf, hn, ss, List.replicate, zH, qG, zF, zG, St.eval, St.put, St.get, constV, List.set, lenV, qE, qF, qB, zC, norm, xQ, look, xP, xX, zO, zM, zE, zN, qA, qI, St.alloc, St.drop, killL, kill, xU, xV, zA, upd, cells?, part, retag, xT, putIn, refFree, xR, isNew, xS, Ty.isAgg, zB, idsL, ids, idsLL, reach, depth, St.dropL, qD, resultV, ↓reduceIte, Nat.reduceBEq, Nat.reduceAdd, Nat.reduceSub, Nat.reduceMul, Nat.reduceEqDiff, Nat.reduceLeDiff, Nat.reduceLT, qJ, qK, zV, zW, qL, qM, qN, qO, Eff.ap, qP, qQ, xW, qR, zI, onto, dropO, xA, sized, zP, eqT, eqG, minV, evUn, qS, zQ, zR, zS, qC, qT, upO, evSlice0, optInt, xC, qV, xD, del, xB, plain, plainL, zY, zZ, zT, qW, zU, zX, xY, qX, qY, qZ, xE, zJ, zK, zL, xF, xG, wit, xH, Option.isSome_some, xI, qH, xJ, evPre, St.with, xK, xL, zD, xM, xN, xO, Array.size, te, einl, inls, efr]
      exact rfl
end
end Go.AM.B

