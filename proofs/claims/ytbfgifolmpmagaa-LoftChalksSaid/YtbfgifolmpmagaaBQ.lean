/- A part of the proof: the texts BChalk, BChalkB, BChalkC, BChalkD, one after another. No condition. -/
import Derived.Test.YtbfgifolmpmagaaBP
import Derived.Test.YtbfgifolmpmagaaAmR
import Derived.Test.YtbfgifolmpmagaaBInts
set_option linter.unusedSimpArgs false

section
/-
Chalk: the closure that adds a piece to the band that is made.
-/
namespace Go.AM.B
open Go Go.AM Go.Proofs

def outOb (acc : List Run) : Ob := match acc with
  | [] => { es := 1, flat := true, t := true, app := false, elems := [.emp] }
  | _ :: _ => { es := 1, flat := false, t := true, app := false, elems := [.own 1037 0 acc.length] }
def runsOb (acc : List Run) : Ob := { es := 4, flat := true, t := true, app := true, elems := acc.map encRun }
def optOb (id : Nat) : Option Ob → List (Nat × Ob)
  | none => []
  | some o => [(id, o)]
def accOb (acc : List Run) : List (Nat × Ob) := match acc with
  | [] => []
  | _ :: _ => [(1037, runsOb acc)]
def runOb (r : Run) : Ob := { es := 4, flat := true, t := true, app := false, elems := [encRun r] }
def mkOb (m : Mk) : Ob := { es := 3, flat := true, t := true, app := false, elems := [encMk m] }
/-- The objects while pieces are added. -/
def chObs (acc : List Run) (r : Run) (m : Mk) (x y : Option Ob) : List (Nat × Ob) := (9, outOb acc) :: (13, runOb r) :: (15, mkOb m) :: (optOb 1004 x ++ optOb 1036 y ++ accOb acc)

def Left4 (x : Option Ob) : Prop := x = none ∨ ∃ m, x = some (mkOb m)
def Left6 (x : Option Ob) : Prop := x = none ∨ ∃ r, x = some { es := 4, flat := true, t := true, app := true, elems := [encRun r] }

/-- The caller's slots name none of the closure's objects. -/
def Calm79 (outer : List (List V)) : Prop := killAll 1004 outer = outer ∧ killAll 1036 outer = outer ∧ killAll 1037 outer = outer

def AddIs (len : Int) (k : Mk) (acc : List Run) (r : Run) (m : Mk) (outer : List (List V)) (x y y' : Option Ob) : Prop :=
  ∃ sl, (orcω E X0).inl 1000 79 [.int .i64 len, encMk k, .ptr 9 0 0] { slots := [], outer := outer, objs := chObs acc r m x y } =
    some (.tup [], { slots := sl, outer := outer, objs := chObs (pushR acc (runOf len k)) r m (some (mkOb k)) y' })

theorem okT79 : okCode (Try.f79.body.getD .skip) = true := by decide +kernel

section
variable {len : Int} {k : Mk} {acc : List Run} {r : Run} {m : Mk}

set_option maxHeartbeats 4000000 in
theorem add_nil (hl : 0 ≤ len) {y : Option Ob} (hy : Left6 y) : ∃ y', Left6 y' ∧ ∀ outer x, Calm79 outer → Left4 x → AddIs len k [] r m outer x y y' := by
  have hok := okT79
  simp only [Try.f79, Option.getD_some, okCode, Bool.and_eq_true, Bool.and_true, Bool.true_and] at hok
  by_cases h0 : 0 < len
  · have e : pushR [] (runOf len k) = [⟨len, k.thick, k.shade, k.flaw⟩] := by
      unfold pushR; rw [if_neg (by show len ≠ 0; omega)]; rfl
    have hr : roomy 1 32 = true := by decide
    refine ⟨some { es := 4, flat := true, t := true, app := true, elems := [encRun ⟨len, k.thick, k.shade, k.flaw⟩] }, .inr ⟨_, rfl⟩, fun outer x ho hx => ?_⟩
    obtain ⟨o4, o6, o7⟩ := ho
    rcases hx with rfl | ⟨m1, rfl⟩ <;> rcases hy with rfl | ⟨r1, rfl⟩
    all_goals
      refine ⟨?_, ?_⟩
      rotate_left
      · refine inl_of rfl fn79 rfl ?_
        rw [e]
        simp (maxSteps := 1000000) (implicitDefEqProofs := false) only [Try.ntmps79, Try.results79, efc79, chObs, outOb, accOb, runsOb, optOb, runOb, mkOb, encMk, encRun, evRegion_st hok, List.nil_append, List.cons_append, List.append_nil, Int.lt_irrefl, h0, o4, o6, o7, hr, ss, List.replicate, evOp, evPlain, evVal, evMem, St.eval, St.put, St.get, constV, List.set, lenV, sliceOf, arrayOf, fieldsOf, normOf, norm, firstRegion, look, maskFrom, evBin, evIndexS, evLoad, evVar, evStore, evFieldAddr, nameOf, St.alloc, St.drop, killL, kill, killAll, killObs, killOb, upd, cells?, part, retag, retagL, putIn, refFree, refFreeL, isNew, isNewL, Ty.isAgg, splice, idsL, ids, idsLL, reach, depth, St.dropL, resultsV, resultV, ↓reduceIte, Nat.reduceBEq, Nat.reduceAdd, Nat.reduceSub, Nat.reduceMul, Nat.reduceEqDiff, Nat.reduceLeDiff, Nat.reduceLT, effOf, effMem, effStore, effCall, effVar, effLit, effMake, effApp, Eff.ap, lend, evLit, evMake, evNil, freeze, onto, dropO, elemsV, sized, evCmp, eqT, eqG, minV, evUn, evField, evExtract, evIndexA, evIndexV, evSlice, optInt, fillV, placeOf, thawed, del, isNilSlice, plain, plainL, cellsJ, junkOk, evLook, evMap, evEnter, effEnter, findV, mapOf, keyOk, evFrame, unframe, closed, fixed, sameEs, pickObs, putObs, wit, sameWit, Option.isSome_some, evNilCheck, St.with, setSlots, setObs, wantedD, seqOf, noRange, setAll, Array.size, te, einl, inls, efr]
        try exact rfl
  · obtain rfl : len = 0 := by omega
    have e : pushR [] (runOf 0 k) = [] := rfl
    refine ⟨y, hy, fun outer x ho hx => ?_⟩
    obtain ⟨o4, o6, o7⟩ := ho
    rcases hx with rfl | ⟨m1, rfl⟩ <;> rcases hy with rfl | ⟨r1, rfl⟩
    all_goals
      refine ⟨?_, ?_⟩
      rotate_left
      · refine inl_of rfl fn79 rfl ?_
        rw [e]
        simp (maxSteps := 1000000) (implicitDefEqProofs := false) only [Try.ntmps79, Try.results79, efc79, chObs, outOb, accOb, optOb, runOb, mkOb, encMk, encRun, evRegion_st hok, List.nil_append, List.cons_append, List.append_nil, Int.lt_irrefl, o4, ss, List.replicate, evOp, evPlain, evVal, evMem, St.eval, St.put, St.get, constV, List.set, lenV, sliceOf, arrayOf, fieldsOf, normOf, norm, firstRegion, look, maskFrom, evBin, evIndexS, evLoad, evVar, evStore, evFieldAddr, nameOf, St.alloc, St.drop, killL, kill, killAll, killObs, killOb, upd, cells?, part, retag, retagL, putIn, refFree, refFreeL, isNew, isNewL, Ty.isAgg, splice, idsL, ids, idsLL, reach, depth, St.dropL, resultsV, resultV, ↓reduceIte, Nat.reduceBEq, Nat.reduceAdd, Nat.reduceSub, Nat.reduceMul, Nat.reduceEqDiff, Nat.reduceLeDiff, Nat.reduceLT, effOf, effMem, effStore, effCall, effVar, effLit, effMake, effApp, Eff.ap, lend, evLit, evMake, evNil, freeze, onto, dropO, elemsV, sized, evCmp, eqT, eqG, minV, evUn, evField, evExtract, evIndexA, evIndexV, evSlice, optInt, fillV, placeOf, thawed, del, isNilSlice, plain, plainL, cellsJ, junkOk, evLook, evMap, evEnter, effEnter, findV, mapOf, keyOk, evFrame, unframe, closed, fixed, sameEs, pickObs, putObs, wit, sameWit, Option.isSome_some, evNilCheck, St.with, setSlots, setObs, wantedD, seqOf, noRange, setAll, Array.size, te, einl, inls, efr]
        try exact rfl

set_option maxHeartbeats 8000000 in
theorem add_cons (hl : 0 ≤ len ∧ len ≤ 1000000) (ha : acc.length ≤ 1000000 ∧ Lens 100000000 acc) (hne : acc ≠ []) {y : Option Ob} (hy : Left6 y) : ∃ y', Left6 y' ∧ ∀ outer x, Calm79 outer → Left4 x → AddIs len k acc r m outer x y y' := by
  have hok := okT79
  simp only [Try.f79, Option.getD_some, okCode, Bool.and_eq_true, Bool.and_true, Bool.true_and] at hok
  obtain ⟨n, s, hn, hs, hg⟩ := (push_cases acc).resolve_left hne
  obtain ⟨a0, ar, rfl⟩ : ∃ a l, acc = a :: l := by
    cases acc with
    | nil => exact absurd rfl hne
    | cons a l => exact ⟨a, l, rfl⟩
  have s1 := ha.2 s (List.mem_of_getElem? hs)
  have w1 : IntKind.i64.wrap (((a0 :: ar).length : Int) - 1) = (n : Int) := by rw [hn, wrap_in (by omega)]; omega
  have p1 : (0 : Int) < ((a0 :: ar).length : Int) := by omega
  have p2 : (n : Int) < ((a0 :: ar).length : Int) := by omega
  have p3 : n < (a0 :: ar).length := by omega
  have q1 : 0 < (a0 :: ar).length := by omega
  generalize hacc : a0 :: ar = acc at *
  have oo : outOb acc = { es := 1, flat := false, t := true, app := false, elems := [.own 1037 0 acc.length] } := by rw [← hacc]; rfl
  have ao : accOb acc = [(1037, runsOb acc)] := by rw [← hacc]; rfl
  have ro : runsOb acc = { es := 4, flat := true, t := true, app := true, elems := acc.map encRun } := rfl
  have hsame : (s.thick == k.thick && (s.shade == k.shade && s.flaw == k.flaw)) = same s (runOf len k) := by simp [same, runOf]
  cases hb : same s (runOf len k) with
  | true =>
    rw [hb] at hsame
    have w2 : IntKind.i64.wrap (s.len + len) = s.len + len := wrap_in (by omega)
    have e : pushR acc (runOf len k) = acc.set n ⟨s.len + len, s.thick, s.shade, s.flaw⟩ := by
      by_cases h0 : len = 0
      · subst h0
        have : pushR acc (runOf 0 k) = acc := rfl
        rw [this, Int.add_zero]
        apply List.ext_getElem?
        intro i
        by_cases hi : n = i
        · subst hi; rw [List.getElem?_set_self p3, hs]
        · rw [List.getElem?_set_ne hi]
      · unfold pushR
        rw [if_neg (show (runOf len k).len ≠ 0 from h0)]
        unfold push
        rw [hg]
        dsimp only
        rw [hb, if_pos rfl, hn, Nat.add_sub_cancel]
        unfold merge
        rw [show (runOf len k).len = len from rfl, w2]
    obtain ⟨b0, br, hbr⟩ : ∃ b l, acc.set n ⟨s.len + len, s.thick, s.shade, s.flaw⟩ = b :: l := by
      cases hq : acc.set n ⟨s.len + len, s.thick, s.shade, s.flaw⟩ with
      | nil => have := congrArg List.length hq; rw [List.length_set, List.length_nil] at this; omega
      | cons b l => exact ⟨b, l, rfl⟩
    have oo' : outOb (acc.set n ⟨s.len + len, s.thick, s.shade, s.flaw⟩) = { es := 1, flat := false, t := true, app := false, elems := [.own 1037 0 acc.length] } := by
      have : (acc.set n ⟨s.len + len, s.thick, s.shade, s.flaw⟩).length = acc.length := List.length_set
      rw [← this, hbr]; rfl
    have ao' : accOb (acc.set n ⟨s.len + len, s.thick, s.shade, s.flaw⟩) = [(1037, runsOb (acc.set n ⟨s.len + len, s.thick, s.shade, s.flaw⟩))] := by rw [hbr]; rfl
    have ro' : runsOb (acc.set n ⟨s.len + len, s.thick, s.shade, s.flaw⟩) = { es := 4, flat := true, t := true, app := true, elems := (acc.map encRun).set n (encRun ⟨s.len + len, s.thick, s.shade, s.flaw⟩) } := by
      unfold runsOb; rw [List.map_set]
    refine ⟨y, hy, fun outer x ho hx => ?_⟩
    obtain ⟨o4, o6, o7⟩ := ho
    rcases hx with rfl | ⟨m1, rfl⟩ <;> rcases hy with rfl | ⟨r1, rfl⟩
    all_goals
      refine ⟨?_, ?_⟩
      rotate_left
      · refine inl_of rfl fn79 rfl ?_
        rw [e]
        simp (maxSteps := 1000000) (implicitDefEqProofs := false) only [Try.ntmps79, Try.results79, efc79, chObs, oo, ao, oo', ao', ro', ro, optOb, runOb, mkOb, encMk, encRun, evRegion_st hok, List.nil_append, List.cons_append, List.append_nil, List.length_map, List.length_set, List.getElem?_map, Int.natCast_nonneg, Int.toNat_natCast, w1, w2, p1, p2, p3, q1, hs, hsame, o4, o6, o7, ss, List.replicate, evOp, evPlain, evVal, evMem, St.eval, St.put, St.get, constV, List.set, lenV, sliceOf, arrayOf, fieldsOf, normOf, norm, firstRegion, look, maskFrom, evBin, evIndexS, evLoad, evVar, evStore, evFieldAddr, nameOf, St.alloc, St.drop, killL, kill, killAll, killObs, killOb, upd, cells?, part, retag, retagL, putIn, refFree, refFreeL, isNew, isNewL, Ty.isAgg, splice, idsL, ids, idsLL, reach, depth, St.dropL, resultsV, resultV, ↓reduceIte, Nat.reduceBEq, Nat.reduceAdd, Nat.reduceSub, Nat.reduceMul, Nat.reduceEqDiff, Nat.reduceLeDiff, Nat.reduceLT, effOf, effMem, effStore, effCall, effVar, effLit, effMake, effApp, Eff.ap, lend, evLit, evMake, evNil, freeze, onto, dropO, elemsV, sized, evCmp, eqT, eqG, minV, evUn, evField, evExtract, evIndexA, evIndexV, evSlice, optInt, fillV, placeOf, thawed, del, isNilSlice, plain, plainL, cellsJ, junkOk, evLook, evMap, evEnter, effEnter, findV, mapOf, keyOk, evFrame, unframe, closed, fixed, sameEs, pickObs, putObs, wit, sameWit, Option.isSome_some, evNilCheck, St.with, setSlots, setObs, wantedD, seqOf, noRange, setAll, Array.size, te, einl, inls, efr]
        try exact rfl
  | false =>
    rw [hb] at hsame
    by_cases h0 : 0 < len
    · have e : pushR acc (runOf len k) = acc ++ [⟨len, k.thick, k.shade, k.flaw⟩] := by
        unfold pushR
        rw [if_neg (show (runOf len k).len ≠ 0 from (by show len ≠ 0; omega))]
        unfold push
        rw [hg]
        dsimp only
        rw [hb, if_neg (by simp)]
        rfl
      have oo' : outOb (acc ++ [⟨len, k.thick, k.shade, k.flaw⟩]) = { es := 1, flat := false, t := true, app := false, elems := [.own 1037 0 (acc.length + 1)] } := by
        have : (acc ++ [(⟨len, k.thick, k.shade, k.flaw⟩ : Run)]).length = acc.length + 1 := by simp
        rw [← this, ← hacc]; rfl
      have ao' : accOb (acc ++ [⟨len, k.thick, k.shade, k.flaw⟩]) = [(1037, runsOb (acc ++ [⟨len, k.thick, k.shade, k.flaw⟩]))] := by rw [← hacc]; rfl
      have ro' : runsOb (acc ++ [⟨len, k.thick, k.shade, k.flaw⟩]) = { es := 4, flat := true, t := true, app := true, elems := acc.map encRun ++ [encRun ⟨len, k.thick, k.shade, k.flaw⟩] } := by
        unfold runsOb; simp
      have hroom : roomy (acc.length + 1) 32 = true := by simp [roomy]; omega
      have hbig : acc.length + 1 ≤ 4294967296 := by omega
      refine ⟨some { es := 4, flat := true, t := true, app := true, elems := [encRun ⟨len, k.thick, k.shade, k.flaw⟩] }, .inr ⟨_, rfl⟩, fun outer x ho hx => ?_⟩
      obtain ⟨o4, o6, o7⟩ := ho
      rcases hx with rfl | ⟨m1, rfl⟩ <;> rcases hy with rfl | ⟨r1, rfl⟩
      all_goals
        refine ⟨?_, ?_⟩
        rotate_left
        · refine inl_of rfl fn79 rfl ?_
          rw [e]
          simp (maxSteps := 1000000) (implicitDefEqProofs := false) only [Try.ntmps79, Try.results79, efc79, chObs, oo, ao, oo', ao', ro', ro, optOb, runOb, mkOb, encMk, encRun, evRegion_st hok, List.nil_append, List.cons_append, List.append_nil, List.length_map, List.getElem?_map, Int.natCast_nonneg, Int.toNat_natCast, w1, p1, p2, p3, q1, hs, hsame, h0, hroom, hbig, o4, o6, o7, ss, List.replicate, evOp, evPlain, evVal, evMem, St.eval, St.put, St.get, constV, List.set, lenV, sliceOf, arrayOf, fieldsOf, normOf, norm, firstRegion, look, maskFrom, evBin, evIndexS, evLoad, evVar, evStore, evFieldAddr, nameOf, St.alloc, St.drop, killL, kill, killAll, killObs, killOb, upd, cells?, part, retag, retagL, putIn, refFree, refFreeL, isNew, isNewL, Ty.isAgg, splice, idsL, ids, idsLL, reach, depth, St.dropL, resultsV, resultV, ↓reduceIte, Nat.reduceBEq, Nat.reduceAdd, Nat.reduceSub, Nat.reduceMul, Nat.reduceEqDiff, Nat.reduceLeDiff, Nat.reduceLT, effOf, effMem, effStore, effCall, effVar, effLit, effMake, effApp, Eff.ap, lend, evLit, evMake, evNil, freeze, onto, dropO, elemsV, sized, evCmp, eqT, eqG, minV, evUn, evField, evExtract, evIndexA, evIndexV, evSlice, optInt, fillV, placeOf, thawed, del, isNilSlice, plain, plainL, cellsJ, junkOk, evLook, evMap, evEnter, effEnter, findV, mapOf, keyOk, evFrame, unframe, closed, fixed, sameEs, pickObs, putObs, wit, sameWit, Option.isSome_some, evNilCheck, St.with, setSlots, setObs, wantedD, seqOf, noRange, setAll, Array.size, te, einl, inls, efr]
          try exact rfl
    · obtain rfl : len = 0 := by omega
      have e : pushR acc (runOf 0 k) = acc := rfl
      refine ⟨y, hy, fun outer x ho hx => ?_⟩
      obtain ⟨o4, o6, o7⟩ := ho
      rcases hx with rfl | ⟨m1, rfl⟩ <;> rcases hy with rfl | ⟨r1, rfl⟩
      all_goals
        refine ⟨?_, ?_⟩
        rotate_left
        · refine inl_of rfl fn79 rfl ?_
          rw [e]
          simp (maxSteps := 1000000) (implicitDefEqProofs := false) only [Try.ntmps79, Try.results79, efc79, chObs, oo, ao, ro, optOb, runOb, mkOb, encMk, encRun, evRegion_st hok, List.nil_append, List.cons_append, List.append_nil, List.length_map, List.getElem?_map, Int.natCast_nonneg, Int.toNat_natCast, w1, p1, p2, p3, q1, hs, hsame, Int.lt_irrefl, o4, o6, o7, ss, List.replicate, evOp, evPlain, evVal, evMem, St.eval, St.put, St.get, constV, List.set, lenV, sliceOf, arrayOf, fieldsOf, normOf, norm, firstRegion, look, maskFrom, evBin, evIndexS, evLoad, evVar, evStore, evFieldAddr, nameOf, St.alloc, St.drop, killL, kill, killAll, killObs, killOb, upd, cells?, part, retag, retagL, putIn, refFree, refFreeL, isNew, isNewL, Ty.isAgg, splice, idsL, ids, idsLL, reach, depth, St.dropL, resultsV, resultV, ↓reduceIte, Nat.reduceBEq, Nat.reduceAdd, Nat.reduceSub, Nat.reduceMul, Nat.reduceEqDiff, Nat.reduceLeDiff, Nat.reduceLT, effOf, effMem, effStore, effCall, effVar, effLit, effMake, effApp, Eff.ap, lend, evLit, evMake, evNil, freeze, onto, dropO, elemsV, sized, evCmp, eqT, eqG, minV, evUn, evField, evExtract, evIndexA, evIndexV, evSlice, optInt, fillV, placeOf, thawed, del, isNilSlice, plain, plainL, cellsJ, junkOk, evLook, evMap, evEnter, effEnter, findV, mapOf, keyOk, evFrame, unframe, closed, fixed, sameEs, pickObs, putObs, wit, sameWit, Option.isSome_some, evNilCheck, St.with, setSlots, setObs, wantedD, seqOf, noRange, setAll, Array.size, te, einl, inls, efr]
          try exact rfl

/-- A piece is added, whatever the caller's slots. -/
theorem add_is (hl : 0 ≤ len ∧ len ≤ 1000000) (ha : acc.length ≤ 1000000 ∧ Lens 100000000 acc) {x y : Option Ob} (hx : Left4 x) (hy : Left6 y) :
    ∃ y', Left6 y' ∧ ∃ sl : List (List V) → List V, ∀ outer, Calm79 outer → (orcω E X0).inl 1000 79 [.int .i64 len, encMk k, .ptr 9 0 0] { slots := [], outer := outer, objs := chObs acc r m x y } =
      some (.tup [], { slots := sl outer, outer := outer, objs := chObs (pushR acc (runOf len k)) r m (some (mkOb k)) y' }) := by
  have h : ∃ y', Left6 y' ∧ ∀ outer x, Calm79 outer → Left4 x → AddIs len k acc r m outer x y y' := by
    by_cases hne : acc = []
    · subst hne; exact add_nil hl.1 hy
    · exact add_cons hl ha hne hy
  obtain ⟨y', h1, h2⟩ := h
  have h3 : ∀ outer, ∃ sl, Calm79 outer → (orcω E X0).inl 1000 79 [.int .i64 len, encMk k, .ptr 9 0 0] { slots := [], outer := outer, objs := chObs acc r m x y } =
      some (.tup [], { slots := sl, outer := outer, objs := chObs (pushR acc (runOf len k)) r m (some (mkOb k)) y' }) := fun outer => by
    by_cases hc : Calm79 outer
    · obtain ⟨sl, h4⟩ := h2 outer x hc hx
      exact ⟨sl, fun _ => h4⟩
    · exact ⟨[], fun h => absurd h hc⟩
  exact ⟨y', h1, fun o => Classical.choose (h3 o), fun o => Classical.choose_spec (h3 o)⟩
end
end Go.AM.B
end

section
/-
Chalk of the program.
-/
namespace Go.AM.B
open Go Go.AM Go.Proofs

section
variable {E : Env} {X : Ext} {fc : FC} {base : Nat} {b : Code}
/-- A loop by its states. -/
theorem loop_st {ι : Type} {K : Option (Ex × St) → Prop} {s0 : St} (S : ι → St) (m : ι → Nat) (i0 : ι) (h0 : s0 = S i0)
    (h : ∀ i, after fc b (den E X fc base b (S i)) (fun s => ∃ i', s = S i' ∧ m i' < m i) (fun q => K (some q))) : ∀ r, loopAt E X fc base b s0 = r → K r := by
  rintro r rfl
  have key : ∀ (n : Nat) (i : ι), m i < n → K (loopAt E X fc base b (S i)) := by
    intro n
    induction n with
    | zero => intro i hm; omega
    | succ n ih =>
      intro i hm
      have ha := h i
      unfold loopAt
      cases hd : den E X fc base b (S i) with
      | none => rw [hd] at ha; exact ha.elim
      | some p =>
        obtain ⟨e, s⟩ := p
        rw [hd] at ha
        cases e with
        | normal =>
          obtain ⟨i', h1, h3⟩ := ha
          rw [andThen_normal, den_loopAt, h1]
          exact ih i' (by omega)
        | exit i => exact ha
        | ret => exact ha
  have := key (m i0 + 1) i0 (Nat.lt_succ_self _)
  rwa [← h0] at this
end

def markP (k : Mk) : Mk := ⟨k.thick, k.shade, bitsI .or .i64 k.flaw 1⟩
/-- The pieces of a run between poles. -/
def chRun (e : Int) (k : Mk) : Int → List Int → List Run
  | a, [] => [runOf (e - a) k]
  | a, p :: ps => if p < e then runOf (p - a) k :: runOf 1 (markP k) :: chRun e k (p + 1) ps else [runOf (e - a) k]
def restP (e : Int) : List Int → List Int
  | [] => []
  | p :: ps => if p < e then restP e ps else p :: ps
def chAll : Int → List Int → List Run → List Run
  | _, _, [] => []
  | a, ps, r :: rs => chRun (a + r.len) r.mk' a ps ++ chAll (a + r.len) (restP (a + r.len) ps) rs
/-- Places in order from a on, below n. -/
def UpP (n : Int) : Int → List Int → Prop
  | _, [] => True
  | a, p :: ps => a ≤ p ∧ p < n ∧ UpP n (p + 1) ps

theorem upP_rest {n e : Int} : ∀ {ps : List Int} {a : Int}, UpP n a ps → UpP n e (restP e ps)
  | [], _, _ => trivial
  | p :: ps, a, h => by
    unfold restP
    split
    · exact upP_rest h.2.2
    · rename_i h1
      exact ⟨by omega, h.2.1, h.2.2⟩
theorem upP_mono {n a b : Int} (hab : b ≤ a) : ∀ {ps : List Int}, UpP n a ps → UpP n b ps
  | [], _ => trivial
  | p :: ps, h => ⟨by have := h.1; omega, h.2⟩

theorem polesW_up {d n : Int} (hd : 1 ≤ d) : ∀ (f : Nat) (p : Int), UpP n p (polesW d n f p)
  | 0, p => trivial
  | f + 1, p => by
    unfold polesW
    split
    · rename_i h
      exact ⟨Int.le_refl _, h, upP_mono (by omega) (polesW_up hd f (p + 2 * d))⟩
    · trivial

def Good (acc : List Run) (a : Int) : Prop := (∀ r ∈ acc, 1 ≤ r.len) ∧ total acc = a

theorem good_lens {acc : List Run} : (∀ r ∈ acc, 1 ≤ r.len) → ((acc.length : Int) ≤ total acc ∧ ∀ r ∈ acc, r.len ≤ total acc) := by
  induction acc with
  | nil => intro _; exact ⟨Int.le_refl _, fun r hr => by cases hr⟩
  | cons x l ih =>
    intro h
    obtain ⟨h1, h2⟩ := ih fun r hr => h r (List.mem_cons_of_mem _ hr)
    have h3 := h x List.mem_cons_self
    rw [total_cons, List.length_cons]
    refine ⟨by omega, fun r hr => ?_⟩
    rcases List.mem_cons.1 hr with rfl | hr
    · omega
    · have := h2 r hr; omega
theorem good_len {acc : List Run} {a : Int} (h : Good acc a) (ha : a ≤ 1000000) : (acc.length ≤ 1000000 ∧ Lens 100000000 acc) ∧ 0 ≤ a := by
  obtain ⟨h1, rfl⟩ := h
  obtain ⟨h2, h3⟩ := good_lens h1
  exact ⟨⟨by omega, fun r hr => ⟨h1 r hr, by have := h3 r hr; omega⟩⟩, by omega⟩
theorem good_push {acc : List Run} {a n : Int} {k : Mk} (h : Good acc a) (hn : 0 ≤ n) (ha : a + n ≤ 1000000) : Good (pushR acc (runOf n k)) (a + n) := by
  have hl := good_len h (by omega)
  obtain ⟨h1, h2⟩ := h
  by_cases h0 : n = 0
  · subst h0
    exact ⟨h1, by rw [Int.add_zero]; exact h2⟩
  have e : pushR acc (runOf n k) = push acc (runOf n k) := by
    unfold pushR; rw [if_neg (show (runOf n k).len ≠ 0 from h0)]
  rw [e]
  refine ⟨fun r hr => (push_lens hl.1.2 (show 1 ≤ (runOf n k).len by show 1 ≤ n; omega) (by omega) (Int.le_refl _) (by show 100000000 + n ≤ _; omega) r hr).1, ?_⟩
  rcases snoc_cases acc with rfl | ⟨i, s, rfl⟩
  · rw [push_nil, total_cons, total_nil]
    have : a = 0 := by rw [← h2]; rfl
    show n + 0 = a + n
    omega
  · have hs := hl.1.2 s (by simp)
    rw [total_app, total_cons, total_nil] at h2
    by_cases em : s.mk' = (runOf n k).mk'
    · rw [push_same _ _ _ em, total_app, total_cons, total_nil]
      have : IntKind.i64.wrap (s.len + n) = s.len + n := wrap_in (by omega)
      show total i + (IntKind.i64.wrap (s.len + n) + 0) = _
      rw [this]; omega
    · rw [push_other _ _ _ em, total_app, total_cons, total_cons, total_nil]
      show total i + (s.len + (n + 0)) = _
      omega

theorem calm_mk {o : List (List V)} (h4 : killAll 1004 o = o) (h6 : killAll 1036 o = o) (h7 : killAll 1037 o = o) : Calm79 o := ⟨h4, h6, h7⟩

theorem look_ch9 (acc : List Run) (r : Run) (m : Mk) (x y : Option Ob) : look (chObs acc r m x y) 9 = some (outOb acc) := rfl
theorem look_ch13 (acc : List Run) (r : Run) (m : Mk) (x y : Option Ob) : look (chObs acc r m x y) 13 = some { es := 4, flat := true, t := true, app := false, elems := [.agg [.int .i64 r.len, .int .i64 r.thick, .int .i64 r.shade, .int .i64 r.flaw]] } := rfl
theorem look_ch15 (acc : List Run) (r : Run) (m : Mk) (x y : Option Ob) : look (chObs acc r m x y) 15 = some { es := 3, flat := true, t := true, app := false, elems := [.agg [.int .i64 m.thick, .int .i64 m.shade, .int .i64 m.flaw]] } := rfl

theorem chRun_good {n e : Int} {k : Mk} : ∀ {ps : List Int} {a : Int} {acc : List Run}, Good acc a → a ≤ e → e ≤ 1000000 → UpP n a ps → Good ((chRun e k a ps).foldl pushR acc) e
  | [], a, acc, h, h1, h2, _ => by
    have := good_push (n := e - a) (k := k) h (by omega) (by omega)
    rwa [show a + (e - a) = e by omega] at this
  | p :: ps, a, acc, h, h1, h2, hu => by
    unfold chRun
    split
    · rename_i hp
      have n1 := good_push (n := p - a) (k := k) h (by have := hu.1; omega) (by omega)
      have n2 := good_push (n := 1) (k := markP k) n1 (by omega) (by omega)
      rw [show a + (p - a) + 1 = p + 1 by omega] at n2
      exact chRun_good n2 (by omega) h2 hu.2.2
    · have := good_push (n := e - a) (k := k) h (by omega) (by omega)
      rwa [show a + (e - a) = e by omega] at this

def chalkM (xs : List Run) (h : Hang) : List Run × Int := if validate xs = 0 then (if (polesR (total xs) h).2 = 0 then (if 40 < (joinR (chAll 0 (polesR (total xs) h).1 xs)).length then ([], 4) else (joinR (chAll 0 (polesR (total xs) h).1 xs), 0)) else ([], (polesR (total xs) h).2)) else ([], validate xs)

theorem polesR_cases (n : Int) (h : Hang) : (polesR n h = (poleL n h, 0) ∧ validH h = true) ∨ polesR n h = ([], 4) ∨ polesR n h = ([], 1) := by
  unfold polesR
  split
  · rename_i h1
    split
    · exact .inr (.inl rfl)
    · exact .inl ⟨rfl, h1.1⟩
  · exact .inr (.inr rfl)

theorem okB46 : okCodeB (Try.f46.body.getD .skip) = true := by decide +kernel

/-- The state at the head of the loop over the runs, and at that of the loop over the poles. -/
def chSt (xs : List Run) (acc : List Run) (a : Int) (ps : List Int) (j : Nat) : St :=
  { slots := [.junk, .junk, .junk, .junk, .junk, .junk, .junk, .junk, .sl true (ps.map vI), .ptr 9 0 0, .clo 79 [] [.ptr 9 0 0], .int .i64 a, .junk, .junk, .junk, .junk, .junk, .junk, .junk, .junk, .junk, .junk, .junk, .junk, .junk, .junk, .junk, .junk, .junk, .junk, .junk, .junk, .junk, .junk, .sl false (xs.map encRun), .int .i64 xs.length, .int .i64 j, .junk, .junk, .junk, .junk, .junk, .junk, .junk, .junk, .junk, .junk, .junk, .junk, .junk, .junk, .junk, .junk, .junk, .junk, .junk, .junk, .junk, .junk, .junk, .junk, .junk, .junk, .junk, .junk, .junk, .junk, .junk, .junk, .junk, .junk, .junk, .junk, .junk, .junk, .junk, .junk, .junk, .junk, .junk, .junk, .junk, .junk, .junk, .junk, .junk, .junk, .junk, .junk, .junk, .junk], outer := [], objs := (9, outOb acc) :: accOb acc }
def chIn (xs : List Run) (j : Nat) (e : Int) (r : Run) (acc : List Run) (a : Int) (ps : List Int) : St :=
  { slots := [.junk, .junk, .junk, .junk, .junk, .junk, .junk, .junk, .sl true (ps.map vI), .ptr 9 0 0, .clo 79 [] [.ptr 9 0 0], .int .i64 a, .junk, .ptr 13 0 0, .int .i64 e, .ptr 15 0 0, .junk, .junk, .junk, .junk, .junk, .junk, .junk, .junk, .junk, .junk, .junk, .junk, .junk, .junk, .junk, .junk, .junk, .junk, .sl false (xs.map encRun), .int .i64 xs.length, .int .i64 j, .junk, .junk, .junk, .junk, .junk, .junk, .junk, .junk, .junk, .junk, .junk, .junk, .junk, .junk, .junk, .junk, .junk, .junk, .junk, .junk, .junk, .junk, .junk, .junk, .junk, .junk, .junk, .junk, .junk, .junk, .junk, .junk, .junk, .junk, .junk, .junk, .junk, .junk, .junk, .junk, .junk, .junk, .junk, .junk, .junk, .junk, .junk, .junk, .junk, .junk, .junk, .junk, .junk, .junk], outer := [], objs := chObs acc r (markP r.mk') none none }

set_option maxHeartbeats 8000000 in
theorem c46 (xs : List Run) (h : Hang) (hn : xs.length ≤ 100000) : (orcω E X0).call 46 [.sl false (xs.map encRun), encH h] = some (encRes (chalkM xs h)) := by
  refine call_of rfl fn46 rfl ?_
  have hok := okB46
  simp only [Try.f46, Option.getD_some, okCodeB, Bool.and_eq_true, Bool.and_true, Bool.true_and] at hok
  have k1 := c49 false xs (by omega)
  have k2 := c16 (total xs) h
  unfold lengthM at k1
  unfold chalkM
  unfold encH at k2 ⊢
  unfold encIs at k2
  by_cases hv : validate xs = 0
  case neg =>
    have hv' : (validate xs != 0) = true := by simpa using hv
    rw [if_neg hv] at k1 ⊢
    unfold encLen at k1
    simp (maxSteps := 1000000) (implicitDefEqProofs := false) only [Try.ntmps46, Try.results46, efc46, fc46, k1, hv', encRes, List.map_nil, ss, List.replicate, evOp, evPlain, evVal, evMem, St.eval, St.put, St.get, constV, List.set, lenV, sliceOf, arrayOf, fieldsOf, normOf, norm, firstRegion, look, maskFrom, evBin, evIndexS, evLoad, evVar, evStore, evFieldAddr, nameOf, St.alloc, St.drop, killL, kill, killAll, killObs, killOb, upd, cells?, part, retag, retagL, putIn, refFree, refFreeL, isNew, isNewL, Ty.isAgg, splice, idsL, ids, idsLL, reach, depth, St.dropL, resultsV, resultV, ↓reduceIte, Nat.reduceBEq, Nat.reduceAdd, Nat.reduceSub, Nat.reduceMul, Nat.reduceEqDiff, Nat.reduceLeDiff, Nat.reduceLT, effOf, effMem, effStore, effCall, effVar, effLit, effMake, effApp, Eff.ap, lend, evLit, evMake, evNil, freeze, onto, dropO, elemsV, sized, evCmp, eqT, eqG, minV, evUn, evField, evExtract, evIndexA, evIndexV, evSlice, optInt, fillV, placeOf, thawed, del, isNilSlice, plain, plainL, cellsJ, junkOk, evLook, evMap, evEnter, effEnter, findV, mapOf, keyOk, evFrame, unframe, closed, fixed, sameEs, pickObs, putObs, wit, sameWit, Option.isSome_some, evNilCheck, St.with, setSlots, setObs, wantedD, seqOf, noRange, setAll, Array.size, te, einl, inls, efr]
  obtain ⟨v1, v2, v3⟩ := valid_okay hv
  rw [if_pos hv, ln_total v1] at k1
  rw [if_pos hv]
  unfold encLen at k1
  rcases polesR_cases (total xs) h with ⟨hp, hh⟩ | hp | hp
  rotate_left
  · rw [hp] at k2 ⊢
    simp (maxSteps := 1000000) (implicitDefEqProofs := false) only [Try.ntmps46, Try.results46, efc46, fc46, k1, k2, encRes, List.map_nil, bne_self_eq_false, Int.reduceBNe, Int.reduceEq, ↓reduceIte, ss, List.replicate, evOp, evPlain, evVal, evMem, St.eval, St.put, St.get, constV, List.set, lenV, sliceOf, arrayOf, fieldsOf, normOf, norm, firstRegion, look, maskFrom, evBin, evIndexS, evLoad, evVar, evStore, evFieldAddr, nameOf, St.alloc, St.drop, killL, kill, killAll, killObs, killOb, upd, cells?, part, retag, retagL, putIn, refFree, refFreeL, isNew, isNewL, Ty.isAgg, splice, idsL, ids, idsLL, reach, depth, St.dropL, resultsV, resultV, ↓reduceIte, Nat.reduceBEq, Nat.reduceAdd, Nat.reduceSub, Nat.reduceMul, Nat.reduceEqDiff, Nat.reduceLeDiff, Nat.reduceLT, effOf, effMem, effStore, effCall, effVar, effLit, effMake, effApp, Eff.ap, lend, evLit, evMake, evNil, freeze, onto, dropO, elemsV, sized, evCmp, eqT, eqG, minV, evUn, evField, evExtract, evIndexA, evIndexV, evSlice, optInt, fillV, placeOf, thawed, del, isNilSlice, plain, plainL, cellsJ, junkOk, evLook, evMap, evEnter, effEnter, findV, mapOf, keyOk, evFrame, unframe, closed, fixed, sameEs, pickObs, putObs, wit, sameWit, Option.isSome_some, evNilCheck, St.with, setSlots, setObs, wantedD, seqOf, noRange, setAll, Array.size, te, einl, inls, efr]
  · rw [hp] at k2 ⊢
    simp (maxSteps := 1000000) (implicitDefEqProofs := false) only [Try.ntmps46, Try.results46, efc46, fc46, k1, k2, encRes, List.map_nil, bne_self_eq_false, Int.reduceBNe, Int.reduceEq, ↓reduceIte, ss, List.replicate, evOp, evPlain, evVal, evMem, St.eval, St.put, St.get, constV, List.set, lenV, sliceOf, arrayOf, fieldsOf, normOf, norm, firstRegion, look, maskFrom, evBin, evIndexS, evLoad, evVar, evStore, evFieldAddr, nameOf, St.alloc, St.drop, killL, kill, killAll, killObs, killOb, upd, cells?, part, retag, retagL, putIn, refFree, refFreeL, isNew, isNewL, Ty.isAgg, splice, idsL, ids, idsLL, reach, depth, St.dropL, resultsV, resultV, ↓reduceIte, Nat.reduceBEq, Nat.reduceAdd, Nat.reduceSub, Nat.reduceMul, Nat.reduceEqDiff, Nat.reduceLeDiff, Nat.reduceLT, effOf, effMem, effStore, effCall, effVar, effLit, effMake, effApp, Eff.ap, lend, evLit, evMake, evNil, freeze, onto, dropO, elemsV, sized, evCmp, eqT, eqG, minV, evUn, evField, evExtract, evIndexA, evIndexV, evSlice, optInt, fillV, placeOf, thawed, del, isNilSlice, plain, plainL, cellsJ, junkOk, evLook, evMap, evEnter, effEnter, findV, mapOf, keyOk, evFrame, unframe, closed, fixed, sameEs, pickObs, putObs, wit, sameWit, Option.isSome_some, evNilCheck, St.with, setSlots, setObs, wantedD, seqOf, noRange, setAll, Array.size, te, einl, inls, efr]
  rw [hp] at k2 ⊢
  have up : UpP (total xs) 0 (poleL (total xs) h) := upP_mono (validH_iff.1 hh).2.1.1 (polesW_up (validH_iff.1 hh).1.1 _ _)
  generalize poleL (total xs) h = l at *
  simp (maxSteps := 1000000) (implicitDefEqProofs := false) only [Try.ntmps46, Try.results46, efc46, fc46, k1, k2, encRes, bne_self_eq_false, ss, List.replicate, evOp, evPlain, evVal, evMem, St.eval, St.put, St.get, constV, List.set, lenV, sliceOf, arrayOf, fieldsOf, normOf, norm, firstRegion, look, maskFrom, evBin, evIndexS, evLoad, evVar, evStore, evFieldAddr, nameOf, St.alloc, St.drop, killL, kill, killAll, killObs, killOb, upd, cells?, part, retag, retagL, putIn, refFree, refFreeL, isNew, isNewL, Ty.isAgg, splice, idsL, ids, idsLL, reach, depth, St.dropL, resultsV, resultV, ↓reduceIte, Nat.reduceBEq, Nat.reduceAdd, Nat.reduceSub, Nat.reduceMul, Nat.reduceEqDiff, Nat.reduceLeDiff, Nat.reduceLT, effOf, effMem, effStore, effCall, effVar, effLit, effMake, effApp, Eff.ap, lend, evLit, evMake, evNil, freeze, onto, dropO, elemsV, sized, evCmp, eqT, eqG, minV, evUn, evField, evExtract, evIndexA, evIndexV, evSlice, optInt, fillV, placeOf, thawed, del, isNilSlice, plain, plainL, cellsJ, junkOk, evLook, evMap, evEnter, effEnter, findV, mapOf, keyOk, evFrame, unframe, closed, fixed, sameEs, pickObs, putObs, wit, sameWit, Option.isSome_some, evNilCheck, St.with, setSlots, setObs, wantedD, seqOf, noRange, setAll, Array.size, te, einl, inls, efr]
  generalize hr : loopAt _ _ _ _ _ _ = r; revert r
  refine loop_st (ι := { i : (List Run × List Run) × List Run × List Int // xs = i.1.1 ++ i.1.2 ∧ Good i.2.1 (total i.1.1) ∧ UpP (total xs) (total i.1.1) i.2.2 ∧ (chAll (total i.1.1) i.2.2 i.1.2).foldl pushR i.2.1 = joinR (chAll 0 l xs) })
    (fun i => chSt xs i.1.2.1 (total i.1.1.1) i.1.2.2 i.1.1.1.length) (fun i => i.1.1.2.length) ⟨(([], xs), [], l), rfl, ⟨fun r hr => (by cases hr), rfl⟩, up, rfl⟩ (by simp (maxSteps := 1000000) (implicitDefEqProofs := false) only [chSt, outOb, accOb, total_nil, ss, List.replicate, evOp, evPlain, evVal, evMem, St.eval, St.put, St.get, constV, List.set, lenV, sliceOf, arrayOf, fieldsOf, normOf, norm, firstRegion, look, maskFrom, evBin, evIndexS, evLoad, evVar, evStore, evFieldAddr, nameOf, St.alloc, St.drop, killL, kill, killAll, killObs, killOb, upd, cells?, part, retag, retagL, putIn, refFree, refFreeL, isNew, isNewL, Ty.isAgg, splice, idsL, ids, idsLL, reach, depth, St.dropL, resultsV, resultV, ↓reduceIte, Nat.reduceBEq, Nat.reduceAdd, Nat.reduceSub, Nat.reduceMul, Nat.reduceEqDiff, Nat.reduceLeDiff, Nat.reduceLT, effOf, effMem, effStore, effCall, effVar, effLit, effMake, effApp, Eff.ap, lend, evLit, evMake, evNil, freeze, onto, dropO, elemsV, sized, evCmp, eqT, eqG, minV, evUn, evField, evExtract, evIndexA, evIndexV, evSlice, optInt, fillV, placeOf, thawed, del, isNilSlice, plain, plainL, cellsJ, junkOk, evLook, evMap, evEnter, effEnter, findV, mapOf, keyOk, evFrame, unframe, closed, fixed, sameEs, pickObs, putObs, wit, sameWit, Option.isSome_some, evNilCheck, St.with, setSlots, setObs, wantedD, seqOf, noRange, setAll, Array.size, te, einl, inls, efr]) ?_
  rintro ⟨⟨⟨pre, post⟩, acc, ps⟩, i1, i2, i3, i4⟩
  dsimp only at i1 i2 i3 i4 ⊢
  cases post with
  | nil =>
    obtain rfl : xs = pre := by simpa using i1
    have e1 : acc = joinR (chAll 0 l xs) := i4
    rw [← e1]
    by_cases h40 : 40 < acc.length
    · have h40' : (40 : Int) < acc.length := by omega
      rcases acc with _ | ⟨a0, ar⟩
      · simp at h40
      · generalize hg : a0 :: ar = acc at *
        have oo : outOb acc = { es := 1, flat := false, t := true, app := false, elems := [.own 1037 0 acc.length] } := by rw [← hg]; rfl
        have ao : accOb acc = [(1037, runsOb acc)] := by rw [← hg]; rfl
        simp (maxSteps := 1000000) (implicitDefEqProofs := false) only [chSt, oo, ao, runsOb, Int.lt_irrefl, Try.ntmps46, Try.results46, efc46, fc46, encRes, h40, h40', List.map_nil, Int.natCast_nonneg, Int.toNat_natCast, List.getElem?_map, List.length_map, ss, List.replicate, evOp, evPlain, evVal, evMem, St.eval, St.put, St.get, constV, List.set, lenV, sliceOf, arrayOf, fieldsOf, normOf, norm, firstRegion, look, maskFrom, evBin, evIndexS, evLoad, evVar, evStore, evFieldAddr, nameOf, St.alloc, St.drop, killL, kill, killAll, killObs, killOb, upd, cells?, part, retag, retagL, putIn, refFree, refFreeL, isNew, isNewL, Ty.isAgg, splice, idsL, ids, idsLL, reach, depth, St.dropL, resultsV, resultV, ↓reduceIte, Nat.reduceBEq, Nat.reduceAdd, Nat.reduceSub, Nat.reduceMul, Nat.reduceEqDiff, Nat.reduceLeDiff, Nat.reduceLT, effOf, effMem, effStore, effCall, effVar, effLit, effMake, effApp, Eff.ap, lend, evLit, evMake, evNil, freeze, onto, dropO, elemsV, sized, evCmp, eqT, eqG, minV, evUn, evField, evExtract, evIndexA, evIndexV, evSlice, optInt, fillV, placeOf, thawed, del, isNilSlice, plain, plainL, cellsJ, junkOk, evLook, evMap, evEnter, effEnter, findV, mapOf, keyOk, evFrame, unframe, closed, fixed, sameEs, pickObs, putObs, wit, sameWit, Option.isSome_some, evNilCheck, St.with, setSlots, setObs, wantedD, seqOf, noRange, setAll, Array.size, te, einl, inls, efr]
    · have h40' : ¬ (40 : Int) < acc.length := by omega
      rcases acc with _ | ⟨a0, ar⟩
      · simp (maxSteps := 1000000) (implicitDefEqProofs := false) only [chSt, outOb, accOb, Int.lt_irrefl, Try.ntmps46, Try.results46, efc46, fc46, encRes, h40, List.length_nil, List.map_nil, Int.natCast_zero, Int.reduceLT, decide_false, Int.natCast_nonneg, Int.toNat_natCast, List.getElem?_map, List.length_map, ss, List.replicate, evOp, evPlain, evVal, evMem, St.eval, St.put, St.get, constV, List.set, lenV, sliceOf, arrayOf, fieldsOf, normOf, norm, firstRegion, look, maskFrom, evBin, evIndexS, evLoad, evVar, evStore, evFieldAddr, nameOf, St.alloc, St.drop, killL, kill, killAll, killObs, killOb, upd, cells?, part, retag, retagL, putIn, refFree, refFreeL, isNew, isNewL, Ty.isAgg, splice, idsL, ids, idsLL, reach, depth, St.dropL, resultsV, resultV, ↓reduceIte, Nat.reduceBEq, Nat.reduceAdd, Nat.reduceSub, Nat.reduceMul, Nat.reduceEqDiff, Nat.reduceLeDiff, Nat.reduceLT, effOf, effMem, effStore, effCall, effVar, effLit, effMake, effApp, Eff.ap, lend, evLit, evMake, evNil, freeze, onto, dropO, elemsV, sized, evCmp, eqT, eqG, minV, evUn, evField, evExtract, evIndexA, evIndexV, evSlice, optInt, fillV, placeOf, thawed, del, isNilSlice, plain, plainL, cellsJ, junkOk, evLook, evMap, evEnter, effEnter, findV, mapOf, keyOk, evFrame, unframe, closed, fixed, sameEs, pickObs, putObs, wit, sameWit, Option.isSome_some, evNilCheck, St.with, setSlots, setObs, wantedD, seqOf, noRange, setAll, Array.size, te, einl, inls, efr]
      · generalize hg : a0 :: ar = acc at *
        have oo : outOb acc = { es := 1, flat := false, t := true, app := false, elems := [.own 1037 0 acc.length] } := by rw [← hg]; rfl
        have ao : accOb acc = [(1037, runsOb acc)] := by rw [← hg]; rfl
        simp (maxSteps := 1000000) (implicitDefEqProofs := false) only [chSt, oo, ao, runsOb, Int.lt_irrefl, Try.ntmps46, Try.results46, efc46, fc46, encRes, h40, h40', Int.natCast_nonneg, Int.toNat_natCast, List.getElem?_map, List.length_map, ss, List.replicate, evOp, evPlain, evVal, evMem, St.eval, St.put, St.get, constV, List.set, lenV, sliceOf, arrayOf, fieldsOf, normOf, norm, firstRegion, look, maskFrom, evBin, evIndexS, evLoad, evVar, evStore, evFieldAddr, nameOf, St.alloc, St.drop, killL, kill, killAll, killObs, killOb, upd, cells?, part, retag, retagL, putIn, refFree, refFreeL, isNew, isNewL, Ty.isAgg, splice, idsL, ids, idsLL, reach, depth, St.dropL, resultsV, resultV, ↓reduceIte, Nat.reduceBEq, Nat.reduceAdd, Nat.reduceSub, Nat.reduceMul, Nat.reduceEqDiff, Nat.reduceLeDiff, Nat.reduceLT, effOf, effMem, effStore, effCall, effVar, effLit, effMake, effApp, Eff.ap, lend, evLit, evMake, evNil, freeze, onto, dropO, elemsV, sized, evCmp, eqT, eqG, minV, evUn, evField, evExtract, evIndexA, evIndexV, evSlice, optInt, fillV, placeOf, thawed, del, isNilSlice, plain, plainL, cellsJ, junkOk, evLook, evMap, evEnter, effEnter, findV, mapOf, keyOk, evFrame, unframe, closed, fixed, sameEs, pickObs, putObs, wit, sameWit, Option.isSome_some, evNilCheck, St.with, setSlots, setObs, wantedD, seqOf, noRange, setAll, Array.size, te, einl, inls, efr]
  | cons r post =>
    have g1 : (pre.length : Int) < xs.length := by rw [i1]; simp; omega
    have g2 : pre.length < xs.length := by omega
    have g3 : xs[pre.length]? = some r := by rw [i1]; simp
    have g4 : IntKind.i64.wrap ((pre.length : Int) + 1) = ((pre ++ [r]).length : Int) := by rw [wrap_in (by omega)]; simp
    have t1 : total xs = total pre + (r.len + total post) := by rw [i1, total_app, total_cons]
    have ok1 := okay_app (pre := pre) (post := r :: post) (i1 ▸ v1)
    have t2 := okay_nonneg ok1.1
    have t3 := okay_nonneg (okay_app (pre := [r]) (post := post) ok1.2).2
    have t4 := ok1.2.1 r List.mem_cons_self
    have gl := good_len i2 (by omega)
    generalize ha : total pre = a at *
    have w1 : IntKind.i64.wrap (a + r.len) = a + r.len := wrap_in (by omega)
    have i4' : (chAll (a + r.len) (restP (a + r.len) ps) post).foldl pushR ((chRun (a + r.len) r.mk' a ps).foldl pushR acc) = joinR (chAll 0 l xs) := by
      rw [← i4, chAll, List.foldl_append]
    generalize hacc0 : (chRun (a + r.len) r.mk' a ps).foldl pushR acc = accE at *
    generalize hrest : restP (a + r.len) ps = psE at *
    have hes : ∀ q, encMk q = .agg [.int .i64 q.thick, .int .i64 q.shade, .int .i64 q.flaw] := fun _ => rfl
    have her : encMk r.mk' = .agg [.int .i64 r.thick, .int .i64 r.shade, .int .i64 r.flaw] := rfl
    have gE : Good accE (a + r.len) ∧ UpP (total xs) (a + r.len) psE := by
      rw [← hacc0, ← hrest]
      exact ⟨chRun_good i2 (by omega) (by omega) i3, upP_rest i3⟩
    have done : ∃ i' : { i : (List Run × List Run) × List Run × List Int // xs = i.1.1 ++ i.1.2 ∧ Good i.2.1 (total i.1.1) ∧ UpP (total xs) (total i.1.1) i.2.2 ∧ (chAll (total i.1.1) i.2.2 i.1.2).foldl pushR i.2.1 = joinR (chAll 0 l xs) },
        chSt xs i'.1.2.1 (total i'.1.1.1) i'.1.2.2 i'.1.1.1.length = chSt xs accE (a + r.len) psE (pre ++ [r]).length ∧ i'.1.1.2.length < (r :: post).length := by
      have e3 : total (pre ++ [r]) = a + r.len := by rw [total_app, total_cons, total_nil, ha]; omega
      refine ⟨⟨((pre ++ [r], post), accE, psE), by simpa using i1, by rw [e3]; exact gE.1, by rw [e3]; exact gE.2, by rw [e3]; exact i4'⟩, by dsimp only; rw [e3], by simp⟩
    obtain ⟨i', d1, d2⟩ := done
    rcases acc with _ | ⟨a0, ar⟩
    all_goals
      simp (maxSteps := 1000000) (implicitDefEqProofs := false) only [chSt, outOb, accOb, runsOb, g1, g2, g3, w1, encRun, Int.natCast_nonneg, Int.toNat_natCast, List.getElem?_map, List.length_map, ss, List.replicate, evOp, evPlain, evVal, evMem, St.eval, St.put, St.get, constV, List.set, lenV, sliceOf, arrayOf, fieldsOf, normOf, norm, firstRegion, look, maskFrom, evBin, evIndexS, evLoad, evVar, evStore, evFieldAddr, nameOf, St.alloc, St.drop, killL, kill, killAll, killObs, killOb, upd, cells?, part, retag, retagL, putIn, refFree, refFreeL, isNew, isNewL, Ty.isAgg, splice, idsL, ids, idsLL, reach, depth, St.dropL, resultsV, resultV, ↓reduceIte, Nat.reduceBEq, Nat.reduceAdd, Nat.reduceSub, Nat.reduceMul, Nat.reduceEqDiff, Nat.reduceLeDiff, Nat.reduceLT, effOf, effMem, effStore, effCall, effVar, effLit, effMake, effApp, Eff.ap, lend, evLit, evMake, evNil, freeze, onto, dropO, elemsV, sized, evCmp, eqT, eqG, minV, evUn, evField, evExtract, evIndexA, evIndexV, evSlice, optInt, fillV, placeOf, thawed, del, isNilSlice, plain, plainL, cellsJ, junkOk, evLook, evMap, evEnter, effEnter, findV, mapOf, keyOk, evFrame, unframe, closed, fixed, sameEs, pickObs, putObs, wit, sameWit, Option.isSome_some, evNilCheck, St.with, setSlots, setObs, wantedD, seqOf, noRange, setAll, Array.size, te, einl, inls, efr]
      generalize hr : loopAt _ _ _ _ _ _ = r; revert r
      refine loop_st (ι := { i : List Run × Int × List Int // Good i.1 i.2.1 ∧ i.2.1 ≤ a + r.len ∧ UpP (total xs) i.2.1 i.2.2 ∧ (chRun (a + r.len) r.mk' i.2.1 i.2.2).foldl pushR i.1 = accE ∧ restP (a + r.len) i.2.2 = psE })
        (fun i => chIn xs pre.length (a + r.len) r i.1.1 i.1.2.1 i.1.2.2) (fun i => i.1.2.2.length) ⟨(_, a, ps), i2, by dsimp only; omega, i3, hacc0, hrest⟩ (by simp (maxSteps := 1000000) (implicitDefEqProofs := false) only [chIn, chObs, outOb, accOb, runsOb, optOb, runOb, mkOb, markP, encRun, encMk, Run.mk', List.nil_append, List.append_nil, ss, List.replicate, evOp, evPlain, evVal, evMem, St.eval, St.put, St.get, constV, List.set, lenV, sliceOf, arrayOf, fieldsOf, normOf, norm, firstRegion, look, maskFrom, evBin, evIndexS, evLoad, evVar, evStore, evFieldAddr, nameOf, St.alloc, St.drop, killL, kill, killAll, killObs, killOb, upd, cells?, part, retag, retagL, putIn, refFree, refFreeL, isNew, isNewL, Ty.isAgg, splice, idsL, ids, idsLL, reach, depth, St.dropL, resultsV, resultV, ↓reduceIte, Nat.reduceBEq, Nat.reduceAdd, Nat.reduceSub, Nat.reduceMul, Nat.reduceEqDiff, Nat.reduceLeDiff, Nat.reduceLT, effOf, effMem, effStore, effCall, effVar, effLit, effMake, effApp, Eff.ap, lend, evLit, evMake, evNil, freeze, onto, dropO, elemsV, sized, evCmp, eqT, eqG, minV, evUn, evField, evExtract, evIndexA, evIndexV, evSlice, optInt, fillV, placeOf, thawed, del, isNilSlice, plain, plainL, cellsJ, junkOk, evLook, evMap, evEnter, effEnter, findV, mapOf, keyOk, evFrame, unframe, closed, fixed, sameEs, pickObs, putObs, wit, sameWit, Option.isSome_some, evNilCheck, St.with, setSlots, setObs, wantedD, seqOf, noRange, setAll, Array.size, te, einl, inls, efr]) ?_
      rintro ⟨⟨acc1, a1, ps1⟩, q1, q2, q3, q4, q5⟩
      dsimp only at q1 q2 q3 q4 q5 ⊢
      have q6 := good_len q1 (by omega)
      by_cases hp : ∃ p ps2, ps1 = p :: ps2 ∧ p < a + r.len
      · obtain ⟨p, ps2, rfl, hp⟩ := hp
        obtain ⟨q7, q8, q9⟩ := q3
        rw [chRun, if_pos hp, List.foldl_cons, List.foldl_cons] at q4
        rw [restP, if_pos hp] at q5
        have n1 := good_push (n := p - a1) (k := r.mk') q1 (by omega) (by omega)
        have n2 := good_push (n := 1) (k := markP r.mk') n1 (by omega) (by omega)
        obtain ⟨y1, hy1, sl1, m1⟩ := add_is (len := p - a1) (k := r.mk') (acc := acc1) (r := r) (m := markP r.mk') (x := none) (y := none) (by omega) q6.1 (.inl rfl) (.inl rfl)
        obtain ⟨y2, hy2, sl2, m2⟩ := add_is (len := 1) (k := markP r.mk') (acc := pushR acc1 (runOf (p - a1) r.mk')) (r := r) (m := markP r.mk') (x := some (mkOb r.mk')) (y := y1) (by omega) (good_len n1 (by omega)).1 (.inr ⟨_, rfl⟩) hy1
        generalize pushR acc1 (runOf (p - a1) r.mk') = acc2 at *
        generalize pushR acc2 (runOf 1 (markP r.mk')) = acc3 at *
        rw [her] at m1
        rw [hes (markP r.mk')] at m2
        have w2 : IntKind.i64.wrap (p - a1) = p - a1 := wrap_in (by omega)
        have w3 : IntKind.i64.wrap (p + 1) = p + 1 := wrap_in (by omega)
        have l1 : (0 : Int) < ((ps2.length + 1 : Nat) : Int) := by omega
        have l2 : (1 : Int) ≤ ((ps2.length + 1 : Nat) : Int) := by omega
        have l3 : (((ps2.length + 1 : Nat) : Int) - 1).toNat = ps2.length := by omega
        have fin : ∃ j : { i : List Run × Int × List Int // Good i.1 i.2.1 ∧ i.2.1 ≤ a + r.len ∧ UpP (total xs) i.2.1 i.2.2 ∧ (chRun (a + r.len) r.mk' i.2.1 i.2.2).foldl pushR i.1 = accE ∧ restP (a + r.len) i.2.2 = psE }, j.1 = (acc3, p + 1, ps2) :=
          ⟨⟨(acc3, p + 1, ps2), by have := n2; rwa [show a1 + (p - a1) + 1 = p + 1 by omega] at this, by dsimp only; omega, q9, q4, q5⟩, rfl⟩
        obtain ⟨j, hj⟩ := fin
        rcases hy2 with rfl | ⟨r2, rfl⟩ <;> rcases acc3 with _ | ⟨c0, cr⟩
        all_goals
          simp (maxSteps := 1000000) (implicitDefEqProofs := false) (disch := exact calm_mk rfl rfl rfl) only [chIn, look_ch9, look_ch13, look_ch15, hp, m1, m2, Bool.true_eq_false, false_and, if_false, w2, w3, l1, l2, l3, vI_def, Int.le_refl, Int.reduceToNat, Int.reduceLE, Int.reduceSub, List.getElem?_cons_zero, sized, List.drop_succ_cons, List.drop_zero, encRun, List.map_cons, List.length_cons, regB hok, evBD_nil, evBD_cons, effB_true, effB_false, effB2_some, effB2_none, isBar, Int.natCast_nonneg, Int.toNat_natCast, List.getElem?_map, List.length_map, ss, List.replicate, evOp, evPlain, evVal, evMem, St.eval, St.put, St.get, constV, List.set, lenV, sliceOf, arrayOf, fieldsOf, normOf, norm, firstRegion, look, maskFrom, evBin, evIndexS, evLoad, evVar, evStore, evFieldAddr, nameOf, St.alloc, St.drop, killL, kill, killAll, killObs, killOb, upd, cells?, part, retag, retagL, putIn, refFree, refFreeL, isNew, isNewL, Ty.isAgg, splice, idsL, ids, idsLL, reach, depth, St.dropL, resultsV, resultV, ↓reduceIte, Nat.reduceBEq, Nat.reduceAdd, Nat.reduceSub, Nat.reduceMul, Nat.reduceEqDiff, Nat.reduceLeDiff, Nat.reduceLT, effOf, effMem, effStore, effCall, effVar, effLit, effMake, effApp, Eff.ap, lend, evLit, evMake, evNil, freeze, onto, dropO, elemsV, sized, evCmp, eqT, eqG, minV, evUn, evField, evExtract, evIndexA, evIndexV, evSlice, optInt, fillV, placeOf, thawed, del, isNilSlice, plain, plainL, cellsJ, junkOk, evLook, evMap, evEnter, effEnter, findV, mapOf, keyOk, evFrame, unframe, closed, fixed, sameEs, pickObs, putObs, wit, sameWit, Option.isSome_some, evNilCheck, St.with, setSlots, setObs, wantedD, seqOf, noRange, setAll, Array.size, te, einl, inls, efr]
          simp (maxSteps := 1000000) (implicitDefEqProofs := false) only [chObs, outOb, accOb, runsOb, optOb, runOb, mkOb, hes, encRun, List.nil_append, List.cons_append, List.append_nil, ss, List.replicate, evOp, evPlain, evVal, evMem, St.eval, St.put, St.get, constV, List.set, lenV, sliceOf, arrayOf, fieldsOf, normOf, norm, firstRegion, look, maskFrom, evBin, evIndexS, evLoad, evVar, evStore, evFieldAddr, nameOf, St.alloc, St.drop, killL, kill, killAll, killObs, killOb, upd, cells?, part, retag, retagL, putIn, refFree, refFreeL, isNew, isNewL, Ty.isAgg, splice, idsL, ids, idsLL, reach, depth, St.dropL, resultsV, resultV, ↓reduceIte, Nat.reduceBEq, Nat.reduceAdd, Nat.reduceSub, Nat.reduceMul, Nat.reduceEqDiff, Nat.reduceLeDiff, Nat.reduceLT, effOf, effMem, effStore, effCall, effVar, effLit, effMake, effApp, Eff.ap, lend, evLit, evMake, evNil, freeze, onto, dropO, elemsV, sized, evCmp, eqT, eqG, minV, evUn, evField, evExtract, evIndexA, evIndexV, evSlice, optInt, fillV, placeOf, thawed, del, isNilSlice, plain, plainL, cellsJ, junkOk, evLook, evMap, evEnter, effEnter, findV, mapOf, keyOk, evFrame, unframe, closed, fixed, sameEs, pickObs, putObs, wit, sameWit, Option.isSome_some, evNilCheck, St.with, setSlots, setObs, wantedD, seqOf, noRange, setAll, Array.size, te, einl, inls, efr]
          refine ⟨j, ?_, ?_⟩
          · first | (rw [hj]; done) | (rw [hj]; rfl)
          · rw [hj]; exact Nat.lt_succ_self _
      · have e5 : chRun (a + r.len) r.mk' a1 ps1 = [runOf (a + r.len - a1) r.mk'] ∧ restP (a + r.len) ps1 = ps1 := by
          cases ps1 with
          | nil => exact ⟨rfl, rfl⟩
          | cons p ps2 =>
            have : ¬ p < a + r.len := fun h => hp ⟨p, ps2, rfl, h⟩
            exact ⟨by rw [chRun, if_neg this], by rw [restP, if_neg this]⟩
        rw [e5.1] at q4
        rw [e5.2] at q5
        subst q5
        simp only [List.foldl_cons, List.foldl_nil] at q4
        obtain ⟨y1, hy1, sl1, m1⟩ := add_is (len := a + r.len - a1) (k := r.mk') (acc := acc1) (r := r) (m := markP r.mk') (x := none) (y := none) (by omega) q6.1 (.inl rfl) (.inl rfl)
        rw [her, q4] at m1
        have w2 : IntKind.i64.wrap (a + r.len - a1) = a + r.len - a1 := wrap_in (by omega)
        have out : ps1 = [] ∨ ∃ p ps2, ps1 = p :: ps2 ∧ ¬ p < a + r.len := by
          cases ps1 with
          | nil => exact .inl rfl
          | cons p ps2 => exact .inr ⟨p, ps2, rfl, fun h => hp ⟨p, ps2, rfl, h⟩⟩
        rcases out with rfl | ⟨p, ps2, rfl, hp'⟩
        · rcases hy1 with rfl | ⟨r2, rfl⟩ <;> rcases accE with _ | ⟨c0, cr⟩
          all_goals
            have l1 : ∀ n : Nat, (0 : Int) < ((n + 1 : Nat) : Int) := fun n => by omega
            simp (maxSteps := 1000000) (implicitDefEqProofs := false) (disch := exact calm_mk rfl rfl rfl) only [chIn, g4, look_ch9, look_ch13, look_ch15, m1, Bool.true_eq_false, false_and, if_false, w2, l1, vI_def, Int.lt_irrefl, Int.le_refl, Int.reduceToNat, Int.reduceLE, Int.reduceSub, List.getElem?_cons_zero, encRun, List.map_cons, List.map_nil, List.length_cons, List.length_nil, Int.natCast_zero, Int.natCast_nonneg, Int.toNat_natCast, List.getElem?_map, List.length_map, ss, List.replicate, evOp, evPlain, evVal, evMem, St.eval, St.put, St.get, constV, List.set, lenV, sliceOf, arrayOf, fieldsOf, normOf, norm, firstRegion, look, maskFrom, evBin, evIndexS, evLoad, evVar, evStore, evFieldAddr, nameOf, St.alloc, St.drop, killL, kill, killAll, killObs, killOb, upd, cells?, part, retag, retagL, putIn, refFree, refFreeL, isNew, isNewL, Ty.isAgg, splice, idsL, ids, idsLL, reach, depth, St.dropL, resultsV, resultV, ↓reduceIte, Nat.reduceBEq, Nat.reduceAdd, Nat.reduceSub, Nat.reduceMul, Nat.reduceEqDiff, Nat.reduceLeDiff, Nat.reduceLT, effOf, effMem, effStore, effCall, effVar, effLit, effMake, effApp, Eff.ap, lend, evLit, evMake, evNil, freeze, onto, dropO, elemsV, sized, evCmp, eqT, eqG, minV, evUn, evField, evExtract, evIndexA, evIndexV, evSlice, optInt, fillV, placeOf, thawed, del, isNilSlice, plain, plainL, cellsJ, junkOk, evLook, evMap, evEnter, effEnter, findV, mapOf, keyOk, evFrame, unframe, closed, fixed, sameEs, pickObs, putObs, wit, sameWit, Option.isSome_some, evNilCheck, St.with, setSlots, setObs, wantedD, seqOf, noRange, setAll, Array.size, te, einl, inls, efr]
            simp (maxSteps := 1000000) (implicitDefEqProofs := false) only [chObs, outOb, accOb, runsOb, optOb, runOb, mkOb, hes, encRun, List.nil_append, List.cons_append, List.append_nil, ss, List.replicate, evOp, evPlain, evVal, evMem, St.eval, St.put, St.get, constV, List.set, lenV, sliceOf, arrayOf, fieldsOf, normOf, norm, firstRegion, look, maskFrom, evBin, evIndexS, evLoad, evVar, evStore, evFieldAddr, nameOf, St.alloc, St.drop, killL, kill, killAll, killObs, killOb, upd, cells?, part, retag, retagL, putIn, refFree, refFreeL, isNew, isNewL, Ty.isAgg, splice, idsL, ids, idsLL, reach, depth, St.dropL, resultsV, resultV, ↓reduceIte, Nat.reduceBEq, Nat.reduceAdd, Nat.reduceSub, Nat.reduceMul, Nat.reduceEqDiff, Nat.reduceLeDiff, Nat.reduceLT, effOf, effMem, effStore, effCall, effVar, effLit, effMake, effApp, Eff.ap, lend, evLit, evMake, evNil, freeze, onto, dropO, elemsV, sized, evCmp, eqT, eqG, minV, evUn, evField, evExtract, evIndexA, evIndexV, evSlice, optInt, fillV, placeOf, thawed, del, isNilSlice, plain, plainL, cellsJ, junkOk, evLook, evMap, evEnter, effEnter, findV, mapOf, keyOk, evFrame, unframe, closed, fixed, sameEs, pickObs, putObs, wit, sameWit, Option.isSome_some, evNilCheck, St.with, setSlots, setObs, wantedD, seqOf, noRange, setAll, Array.size, te, einl, inls, efr]
            exact ⟨i', d1.symm, d2⟩
        · rcases hy1 with rfl | ⟨r2, rfl⟩ <;> rcases accE with _ | ⟨c0, cr⟩
          all_goals
            have l1 : ∀ n : Nat, (0 : Int) < ((n + 1 : Nat) : Int) := fun n => by omega
            simp (maxSteps := 1000000) (implicitDefEqProofs := false) (disch := exact calm_mk rfl rfl rfl) only [chIn, g4, hp', look_ch9, look_ch13, look_ch15, m1, Bool.true_eq_false, false_and, if_false, w2, l1, vI_def, Int.lt_irrefl, Int.le_refl, Int.reduceToNat, Int.reduceLE, Int.reduceSub, List.getElem?_cons_zero, encRun, List.map_cons, List.map_nil, List.length_cons, List.length_nil, Int.natCast_zero, Int.natCast_nonneg, Int.toNat_natCast, List.getElem?_map, List.length_map, ss, List.replicate, evOp, evPlain, evVal, evMem, St.eval, St.put, St.get, constV, List.set, lenV, sliceOf, arrayOf, fieldsOf, normOf, norm, firstRegion, look, maskFrom, evBin, evIndexS, evLoad, evVar, evStore, evFieldAddr, nameOf, St.alloc, St.drop, killL, kill, killAll, killObs, killOb, upd, cells?, part, retag, retagL, putIn, refFree, refFreeL, isNew, isNewL, Ty.isAgg, splice, idsL, ids, idsLL, reach, depth, St.dropL, resultsV, resultV, ↓reduceIte, Nat.reduceBEq, Nat.reduceAdd, Nat.reduceSub, Nat.reduceMul, Nat.reduceEqDiff, Nat.reduceLeDiff, Nat.reduceLT, effOf, effMem, effStore, effCall, effVar, effLit, effMake, effApp, Eff.ap, lend, evLit, evMake, evNil, freeze, onto, dropO, elemsV, sized, evCmp, eqT, eqG, minV, evUn, evField, evExtract, evIndexA, evIndexV, evSlice, optInt, fillV, placeOf, thawed, del, isNilSlice, plain, plainL, cellsJ, junkOk, evLook, evMap, evEnter, effEnter, findV, mapOf, keyOk, evFrame, unframe, closed, fixed, sameEs, pickObs, putObs, wit, sameWit, Option.isSome_some, evNilCheck, St.with, setSlots, setObs, wantedD, seqOf, noRange, setAll, Array.size, te, einl, inls, efr]
            simp (maxSteps := 1000000) (implicitDefEqProofs := false) only [chObs, outOb, accOb, runsOb, optOb, runOb, mkOb, hes, encRun, List.nil_append, List.cons_append, List.append_nil, ss, List.replicate, evOp, evPlain, evVal, evMem, St.eval, St.put, St.get, constV, List.set, lenV, sliceOf, arrayOf, fieldsOf, normOf, norm, firstRegion, look, maskFrom, evBin, evIndexS, evLoad, evVar, evStore, evFieldAddr, nameOf, St.alloc, St.drop, killL, kill, killAll, killObs, killOb, upd, cells?, part, retag, retagL, putIn, refFree, refFreeL, isNew, isNewL, Ty.isAgg, splice, idsL, ids, idsLL, reach, depth, St.dropL, resultsV, resultV, ↓reduceIte, Nat.reduceBEq, Nat.reduceAdd, Nat.reduceSub, Nat.reduceMul, Nat.reduceEqDiff, Nat.reduceLeDiff, Nat.reduceLT, effOf, effMem, effStore, effCall, effVar, effLit, effMake, effApp, Eff.ap, lend, evLit, evMake, evNil, freeze, onto, dropO, elemsV, sized, evCmp, eqT, eqG, minV, evUn, evField, evExtract, evIndexA, evIndexV, evSlice, optInt, fillV, placeOf, thawed, del, isNilSlice, plain, plainL, cellsJ, junkOk, evLook, evMap, evEnter, effEnter, findV, mapOf, keyOk, evFrame, unframe, closed, fixed, sameEs, pickObs, putObs, wit, sameWit, Option.isSome_some, evNilCheck, St.with, setSlots, setObs, wantedD, seqOf, noRange, setAll, Array.size, te, einl, inls, efr]
            exact ⟨i', d1.symm, d2⟩
end Go.AM.B
end

section
/-
Chalk of the reference.
-/
namespace Go.AM.B
open Go Go.AM Go.Proofs

def nz (l : List Run) : List Run := l.filter fun r => r.len ≠ 0
theorem nz_app (a b : List Run) : nz (a ++ b) = nz a ++ nz b := by simp [nz]
theorem nz_one (n : Int) (k : Mk) (h : n ≠ 0) : nz [runOf n k] = [⟨n, k.thick, k.shade, k.flaw⟩] := by
  unfold nz
  rw [List.filter_cons_of_pos (by simp [runOf, h])]
  rfl
theorem nz_none (k : Mk) : nz [runOf 0 k] = [] := rfl
theorem nz_cons (r : Run) (l : List Run) : nz (r :: l) = nz [r] ++ nz l := by
  rw [← nz_app]; rfl

theorem good_app {acc : List Run} {a n : Int} {k : Mk} (h : Good acc a) (hn : 0 < n) : Good (acc ++ [⟨n, k.thick, k.shade, k.flaw⟩]) (a + n) := by
  obtain ⟨h1, h2⟩ := h
  refine ⟨fun r hr => ?_, by rw [total_app, total_cons, total_nil, h2]; show a + (n + 0) = a + n; omega⟩
  rcases List.mem_append.1 hr with hr | hr
  · exact h1 r hr
  · simp only [List.mem_singleton] at hr
    subst hr
    exact hn

theorem polesR_len (n : Int) (h : Hang) : (polesR n h).1.length ≤ 1000 := by
  unfold polesR
  split
  · split
    · exact Nat.zero_le _
    · dsimp only; omega
  · exact Nat.zero_le _

theorem okB47 : okCodeB (Try.f47.body.getD .skip) = true := by decide +kernel

theorem runs_ob (acc : List Run) : runsOb acc = { es := 4, flat := true, t := true, app := true, elems := acc.map encRun } := rfl

set_option maxRecDepth 20000 in
set_option maxHeartbeats 8000000 in
theorem c47 (xs : List Run) (h : Hang) (hn : xs.length ≤ 100000) : (orcω E X0).call 47 [.sl false (xs.map encRun), encH h] = some (encRes (chalkM xs h)) := by
  refine call_of rfl fn47 rfl ?_
  have hok := okB47
  simp only [Try.f47, Option.getD_some, okCodeB, Bool.and_eq_true, Bool.and_true, Bool.true_and] at hok
  obtain ⟨hk1, hk2, hk3⟩ := hok
  have k1 := c80 false xs (by omega)
  have k2 := c18 (total xs) h
  unfold lengthM at k1
  unfold chalkM
  unfold encH at k2 ⊢
  unfold encIs at k2
  by_cases hv : validate xs = 0
  case neg =>
    have hv' : (validate xs != 0) = true := by simpa using hv
    rw [if_neg hv] at k1 ⊢
    unfold encLen at k1
    simp (maxSteps := 1000000) (implicitDefEqProofs := false) only [Try.ntmps47, Try.results47, efc47, fc47, k1, hv', encRes, List.map_nil, ss, List.replicate, evOp, evPlain, evVal, evMem, St.eval, St.put, St.get, constV, List.set, lenV, sliceOf, arrayOf, fieldsOf, normOf, norm, firstRegion, look, maskFrom, evBin, evIndexS, evLoad, evVar, evStore, evFieldAddr, nameOf, St.alloc, St.drop, killL, kill, killAll, killObs, killOb, upd, cells?, part, retag, retagL, putIn, refFree, refFreeL, isNew, isNewL, Ty.isAgg, splice, idsL, ids, idsLL, reach, depth, St.dropL, resultsV, resultV, ↓reduceIte, Nat.reduceBEq, Nat.reduceAdd, Nat.reduceSub, Nat.reduceMul, Nat.reduceEqDiff, Nat.reduceLeDiff, Nat.reduceLT, effOf, effMem, effStore, effCall, effVar, effLit, effMake, effApp, Eff.ap, lend, evLit, evMake, evNil, freeze, onto, dropO, elemsV, sized, evCmp, eqT, eqG, minV, evUn, evField, evExtract, evIndexA, evIndexV, evSlice, optInt, fillV, placeOf, thawed, del, isNilSlice, plain, plainL, cellsJ, junkOk, evLook, evMap, evEnter, effEnter, findV, mapOf, keyOk, evFrame, unframe, closed, fixed, sameEs, pickObs, putObs, wit, sameWit, Option.isSome_some, evNilCheck, St.with, setSlots, setObs, wantedD, seqOf, noRange, setAll, Array.size, te, einl, inls, efr]
  obtain ⟨v1, v2, v3⟩ := valid_okay hv
  rw [if_pos hv, ln_total v1] at k1
  rw [if_pos hv]
  unfold encLen at k1
  rcases polesR_cases (total xs) h with ⟨hp, hh⟩ | hp | hp
  rotate_left
  · rw [hp] at k2 ⊢
    simp (maxSteps := 1000000) (implicitDefEqProofs := false) only [Try.ntmps47, Try.results47, efc47, fc47, k1, k2, encRes, List.map_nil, bne_self_eq_false, Int.reduceBNe, Int.reduceEq, ↓reduceIte, ss, List.replicate, evOp, evPlain, evVal, evMem, St.eval, St.put, St.get, constV, List.set, lenV, sliceOf, arrayOf, fieldsOf, normOf, norm, firstRegion, look, maskFrom, evBin, evIndexS, evLoad, evVar, evStore, evFieldAddr, nameOf, St.alloc, St.drop, killL, kill, killAll, killObs, killOb, upd, cells?, part, retag, retagL, putIn, refFree, refFreeL, isNew, isNewL, Ty.isAgg, splice, idsL, ids, idsLL, reach, depth, St.dropL, resultsV, resultV, ↓reduceIte, Nat.reduceBEq, Nat.reduceAdd, Nat.reduceSub, Nat.reduceMul, Nat.reduceEqDiff, Nat.reduceLeDiff, Nat.reduceLT, effOf, effMem, effStore, effCall, effVar, effLit, effMake, effApp, Eff.ap, lend, evLit, evMake, evNil, freeze, onto, dropO, elemsV, sized, evCmp, eqT, eqG, minV, evUn, evField, evExtract, evIndexA, evIndexV, evSlice, optInt, fillV, placeOf, thawed, del, isNilSlice, plain, plainL, cellsJ, junkOk, evLook, evMap, evEnter, effEnter, findV, mapOf, keyOk, evFrame, unframe, closed, fixed, sameEs, pickObs, putObs, wit, sameWit, Option.isSome_some, evNilCheck, St.with, setSlots, setObs, wantedD, seqOf, noRange, setAll, Array.size, te, einl, inls, efr]
  · rw [hp] at k2 ⊢
    simp (maxSteps := 1000000) (implicitDefEqProofs := false) only [Try.ntmps47, Try.results47, efc47, fc47, k1, k2, encRes, List.map_nil, bne_self_eq_false, Int.reduceBNe, Int.reduceEq, ↓reduceIte, ss, List.replicate, evOp, evPlain, evVal, evMem, St.eval, St.put, St.get, constV, List.set, lenV, sliceOf, arrayOf, fieldsOf, normOf, norm, firstRegion, look, maskFrom, evBin, evIndexS, evLoad, evVar, evStore, evFieldAddr, nameOf, St.alloc, St.drop, killL, kill, killAll, killObs, killOb, upd, cells?, part, retag, retagL, putIn, refFree, refFreeL, isNew, isNewL, Ty.isAgg, splice, idsL, ids, idsLL, reach, depth, St.dropL, resultsV, resultV, ↓reduceIte, Nat.reduceBEq, Nat.reduceAdd, Nat.reduceSub, Nat.reduceMul, Nat.reduceEqDiff, Nat.reduceLeDiff, Nat.reduceLT, effOf, effMem, effStore, effCall, effVar, effLit, effMake, effApp, Eff.ap, lend, evLit, evMake, evNil, freeze, onto, dropO, elemsV, sized, evCmp, eqT, eqG, minV, evUn, evField, evExtract, evIndexA, evIndexV, evSlice, optInt, fillV, placeOf, thawed, del, isNilSlice, plain, plainL, cellsJ, junkOk, evLook, evMap, evEnter, effEnter, findV, mapOf, keyOk, evFrame, unframe, closed, fixed, sameEs, pickObs, putObs, wit, sameWit, Option.isSome_some, evNilCheck, St.with, setSlots, setObs, wantedD, seqOf, noRange, setAll, Array.size, te, einl, inls, efr]
  rw [hp] at k2 ⊢
  have up : UpP (total xs) 0 (poleL (total xs) h) := upP_mono (validH_iff.1 hh).2.1.1 (polesW_up (validH_iff.1 hh).1.1 _ _)
  have ll := polesR_len (total xs) h
  rw [hp] at ll
  dsimp only at ll
  generalize poleL (total xs) h = l at *
  simp (maxSteps := 1000000) (implicitDefEqProofs := false) only [Try.ntmps47, Try.results47, efc47, fc47, k1, k2, encRes, bne_self_eq_false, ss, List.replicate, evOp, evPlain, evVal, evMem, St.eval, St.put, St.get, constV, List.set, lenV, sliceOf, arrayOf, fieldsOf, normOf, norm, firstRegion, look, maskFrom, evBin, evIndexS, evLoad, evVar, evStore, evFieldAddr, nameOf, St.alloc, St.drop, killL, kill, killAll, killObs, killOb, upd, cells?, part, retag, retagL, putIn, refFree, refFreeL, isNew, isNewL, Ty.isAgg, splice, idsL, ids, idsLL, reach, depth, St.dropL, resultsV, resultV, ↓reduceIte, Nat.reduceBEq, Nat.reduceAdd, Nat.reduceSub, Nat.reduceMul, Nat.reduceEqDiff, Nat.reduceLeDiff, Nat.reduceLT, effOf, effMem, effStore, effCall, effVar, effLit, effMake, effApp, Eff.ap, lend, evLit, evMake, evNil, freeze, onto, dropO, elemsV, sized, evCmp, eqT, eqG, minV, evUn, evField, evExtract, evIndexA, evIndexV, evSlice, optInt, fillV, placeOf, thawed, del, isNilSlice, plain, plainL, cellsJ, junkOk, evLook, evMap, evEnter, effEnter, findV, mapOf, keyOk, evFrame, unframe, closed, fixed, sameEs, pickObs, putObs, wit, sameWit, Option.isSome_some, evNilCheck, St.with, setSlots, setObs, wantedD, seqOf, noRange, setAll, Array.size, te, einl, inls, efr]
  generalize hr : loopAt _ _ _ _ _ _ = r; revert r
  refine loop_inv (ι := { i : (List Run × List Run) × List Run × Nat // xs = i.1.1 ++ i.1.2 ∧ Good i.2.1 (total i.1.1) ∧ UpP (total xs) (total i.1.1) (l.drop i.2.2) ∧ i.2.2 ≤ l.length ∧ i.2.1 ++ nz (chAll (total i.1.1) (l.drop i.2.2) i.1.2) = nz (chAll 0 l xs) })
    (fun i => [(9, .own 9 0 i.1.2.1.length), (10, .int .i64 (total i.1.1.1)), (11, .int .i64 i.1.2.2), (12, .int .i64 i.1.1.1.length)]) (fun i => [(9, runsOb i.1.2.1)]) (fun i => i.1.1.2.length)
    ⟨(([], xs), [], 0), rfl, ⟨fun r hr => (by cases hr), rfl⟩, up, Nat.zero_le _, rfl⟩ (by simp (maxSteps := 1000000) (implicitDefEqProofs := false) only [runs_ob, total_nil, List.map_nil, ss, List.replicate, evOp, evPlain, evVal, evMem, St.eval, St.put, St.get, constV, List.set, lenV, sliceOf, arrayOf, fieldsOf, normOf, norm, firstRegion, look, maskFrom, evBin, evIndexS, evLoad, evVar, evStore, evFieldAddr, nameOf, St.alloc, St.drop, killL, kill, killAll, killObs, killOb, upd, cells?, part, retag, retagL, putIn, refFree, refFreeL, isNew, isNewL, Ty.isAgg, splice, idsL, ids, idsLL, reach, depth, St.dropL, resultsV, resultV, ↓reduceIte, Nat.reduceBEq, Nat.reduceAdd, Nat.reduceSub, Nat.reduceMul, Nat.reduceEqDiff, Nat.reduceLeDiff, Nat.reduceLT, effOf, effMem, effStore, effCall, effVar, effLit, effMake, effApp, Eff.ap, lend, evLit, evMake, evNil, freeze, onto, dropO, elemsV, sized, evCmp, eqT, eqG, minV, evUn, evField, evExtract, evIndexA, evIndexV, evSlice, optInt, fillV, placeOf, thawed, del, isNilSlice, plain, plainL, cellsJ, junkOk, evLook, evMap, evEnter, effEnter, findV, mapOf, keyOk, evFrame, unframe, closed, fixed, sameEs, pickObs, putObs, wit, sameWit, Option.isSome_some, evNilCheck, St.with, setSlots, setObs, wantedD, seqOf, noRange, setAll, Array.size, te, einl, inls, efr]) ?_
  rintro ⟨⟨⟨pre, post⟩, acc, k⟩, i1, i2, i3, i4, i5⟩
  dsimp only at i1 i2 i3 i4 i5 ⊢
  cases post with
  | nil =>
    obtain rfl : xs = pre := by simpa using i1
    have e1 : acc = nz (chAll 0 l xs) := by rw [← i5]; simp [chAll, nz]
    have e2 : joinR (chAll 0 l xs) = joinedL acc := by rw [joinR_filter, e1]; rfl
    have gl := good_len i2 (by omega)
    rw [e2]
    simp (maxSteps := 1000000) (implicitDefEqProofs := false) only [runs_ob, Int.lt_irrefl, Int.natCast_nonneg, Int.toNat_natCast, List.getElem?_map, List.length_map, ss, List.replicate, evOp, evPlain, evVal, evMem, St.eval, St.put, St.get, constV, List.set, lenV, sliceOf, arrayOf, fieldsOf, normOf, norm, firstRegion, look, maskFrom, evBin, evIndexS, evLoad, evVar, evStore, evFieldAddr, nameOf, St.alloc, St.drop, killL, kill, killAll, killObs, killOb, upd, cells?, part, retag, retagL, putIn, refFree, refFreeL, isNew, isNewL, Ty.isAgg, splice, idsL, ids, idsLL, reach, depth, St.dropL, resultsV, resultV, ↓reduceIte, Nat.reduceBEq, Nat.reduceAdd, Nat.reduceSub, Nat.reduceMul, Nat.reduceEqDiff, Nat.reduceLeDiff, Nat.reduceLT, effOf, effMem, effStore, effCall, effVar, effLit, effMake, effApp, Eff.ap, lend, evLit, evMake, evNil, freeze, onto, dropO, elemsV, sized, evCmp, eqT, eqG, minV, evUn, evField, evExtract, evIndexA, evIndexV, evSlice, optInt, fillV, placeOf, thawed, del, isNilSlice, plain, plainL, cellsJ, junkOk, evLook, evMap, evEnter, effEnter, findV, mapOf, keyOk, evFrame, unframe, closed, fixed, sameEs, pickObs, putObs, wit, sameWit, Option.isSome_some, evNilCheck, St.with, setSlots, setObs, wantedD, seqOf, noRange, setAll, Array.size, te, einl, inls, efr]
    generalize hr : loopAt _ _ _ _ _ _ = r; revert r
    refine loop_list acc (fun pr _ => [(15, .own 15 0 (joinedL pr).length), (16, .int .i64 pr.length)]) (fun pr _ => [(15, runsOb (joinedL pr))]) (fun pr (_ : Unit) => (joinedL pr).length ≤ pr.length) () (by omega) (by simp (maxSteps := 1000000) (implicitDefEqProofs := false) only [runs_ob, joinedL, List.foldl_nil, List.map_nil, ss, List.replicate, evOp, evPlain, evVal, evMem, St.eval, St.put, St.get, constV, List.set, lenV, sliceOf, arrayOf, fieldsOf, normOf, norm, firstRegion, look, maskFrom, evBin, evIndexS, evLoad, evVar, evStore, evFieldAddr, nameOf, St.alloc, St.drop, killL, kill, killAll, killObs, killOb, upd, cells?, part, retag, retagL, putIn, refFree, refFreeL, isNew, isNewL, Ty.isAgg, splice, idsL, ids, idsLL, reach, depth, St.dropL, resultsV, resultV, ↓reduceIte, Nat.reduceBEq, Nat.reduceAdd, Nat.reduceSub, Nat.reduceMul, Nat.reduceEqDiff, Nat.reduceLeDiff, Nat.reduceLT, effOf, effMem, effStore, effCall, effVar, effLit, effMake, effApp, Eff.ap, lend, evLit, evMake, evNil, freeze, onto, dropO, elemsV, sized, evCmp, eqT, eqG, minV, evUn, evField, evExtract, evIndexA, evIndexV, evSlice, optInt, fillV, placeOf, thawed, del, isNilSlice, plain, plainL, cellsJ, junkOk, evLook, evMap, evEnter, effEnter, findV, mapOf, keyOk, evFrame, unframe, closed, fixed, sameEs, pickObs, putObs, wit, sameWit, Option.isSome_some, evNilCheck, St.with, setSlots, setObs, wantedD, seqOf, noRange, setAll, Array.size, te, einl, inls, efr]) (Nat.zero_le _) (fun _ hi => ?_) (fun pr r post _ hq hi g1 g2 g3 g4 => ?_)
    · by_cases h40 : 40 < (joinedL acc).length
      · have h40' : (40 : Int) < (joinedL acc).length := by omega
        simp (maxSteps := 1000000) (implicitDefEqProofs := false) only [runs_ob, Int.lt_irrefl, Try.ntmps47, Try.results47, efc47, fc47, encRes, h40, h40', List.map_nil, Int.natCast_nonneg, Int.toNat_natCast, List.getElem?_map, List.length_map, ss, List.replicate, evOp, evPlain, evVal, evMem, St.eval, St.put, St.get, constV, List.set, lenV, sliceOf, arrayOf, fieldsOf, normOf, norm, firstRegion, look, maskFrom, evBin, evIndexS, evLoad, evVar, evStore, evFieldAddr, nameOf, St.alloc, St.drop, killL, kill, killAll, killObs, killOb, upd, cells?, part, retag, retagL, putIn, refFree, refFreeL, isNew, isNewL, Ty.isAgg, splice, idsL, ids, idsLL, reach, depth, St.dropL, resultsV, resultV, ↓reduceIte, Nat.reduceBEq, Nat.reduceAdd, Nat.reduceSub, Nat.reduceMul, Nat.reduceEqDiff, Nat.reduceLeDiff, Nat.reduceLT, effOf, effMem, effStore, effCall, effVar, effLit, effMake, effApp, Eff.ap, lend, evLit, evMake, evNil, freeze, onto, dropO, elemsV, sized, evCmp, eqT, eqG, minV, evUn, evField, evExtract, evIndexA, evIndexV, evSlice, optInt, fillV, placeOf, thawed, del, isNilSlice, plain, plainL, cellsJ, junkOk, evLook, evMap, evEnter, effEnter, findV, mapOf, keyOk, evFrame, unframe, closed, fixed, sameEs, pickObs, putObs, wit, sameWit, Option.isSome_some, evNilCheck, St.with, setSlots, setObs, wantedD, seqOf, noRange, setAll, Array.size, te, einl, inls, efr]
      · have h40' : ¬ (40 : Int) < (joinedL acc).length := by omega
        simp (maxSteps := 1000000) (implicitDefEqProofs := false) only [runs_ob, Int.lt_irrefl, Try.ntmps47, Try.results47, efc47, fc47, encRes, h40, h40', Int.natCast_nonneg, Int.toNat_natCast, List.getElem?_map, List.length_map, ss, List.replicate, evOp, evPlain, evVal, evMem, St.eval, St.put, St.get, constV, List.set, lenV, sliceOf, arrayOf, fieldsOf, normOf, norm, firstRegion, look, maskFrom, evBin, evIndexS, evLoad, evVar, evStore, evFieldAddr, nameOf, St.alloc, St.drop, killL, kill, killAll, killObs, killOb, upd, cells?, part, retag, retagL, putIn, refFree, refFreeL, isNew, isNewL, Ty.isAgg, splice, idsL, ids, idsLL, reach, depth, St.dropL, resultsV, resultV, ↓reduceIte, Nat.reduceBEq, Nat.reduceAdd, Nat.reduceSub, Nat.reduceMul, Nat.reduceEqDiff, Nat.reduceLeDiff, Nat.reduceLT, effOf, effMem, effStore, effCall, effVar, effLit, effMake, effApp, Eff.ap, lend, evLit, evMake, evNil, freeze, onto, dropO, elemsV, sized, evCmp, eqT, eqG, minV, evUn, evField, evExtract, evIndexA, evIndexV, evSlice, optInt, fillV, placeOf, thawed, del, isNilSlice, plain, plainL, cellsJ, junkOk, evLook, evMap, evEnter, effEnter, findV, mapOf, keyOk, evFrame, unframe, closed, fixed, sameEs, pickObs, putObs, wit, sameWit, Option.isSome_some, evNilCheck, St.with, setSlots, setObs, wantedD, seqOf, noRange, setAll, Array.size, te, einl, inls, efr]
    · have e3 : joinedL (pr ++ [r]) = push (joinedL pr) r := by simp [joinedL]
      have e4 := push_le (joinedL pr) r
      rw [e3]
      generalize joinedL pr = js at *
      have hroom : roomy (js.length + 1) 32 = true := by simp [roomy]; omega
      have hbig : js.length + 1 ≤ 4294967296 := by omega
      rcases push_cases js with rfl | ⟨n, s, h1, h2, h3⟩
      · have e5 : push [] r = [r] := rfl
        have w1 : IntKind.i64.wrap ((0 : Int) - 1) = -1 := by decide
        have c1 : ¬ (0 : Int) ≤ -1 := by decide
        have r1 : roomy 1 32 = true := by decide
        simp (maxSteps := 1000000) (implicitDefEqProofs := false) only [runs_ob, e5, g1, g2, g3, g4, w1, c1, r1, encRun, List.map_nil, List.map_cons, List.length_nil, List.length_cons, Int.natCast_zero, regB hk2, regB hk3, evBD_nil, evBD_cons, effB_true, effB_false, effB2_some, effB2_none, isBar, Bool.true_eq_false, false_and, if_false, Int.natCast_nonneg, Int.toNat_natCast, List.getElem?_map, List.length_map, ss, List.replicate, evOp, evPlain, evVal, evMem, St.eval, St.put, St.get, constV, List.set, lenV, sliceOf, arrayOf, fieldsOf, normOf, norm, firstRegion, look, maskFrom, evBin, evIndexS, evLoad, evVar, evStore, evFieldAddr, nameOf, St.alloc, St.drop, killL, kill, killAll, killObs, killOb, upd, cells?, part, retag, retagL, putIn, refFree, refFreeL, isNew, isNewL, Ty.isAgg, splice, idsL, ids, idsLL, reach, depth, St.dropL, resultsV, resultV, ↓reduceIte, Nat.reduceBEq, Nat.reduceAdd, Nat.reduceSub, Nat.reduceMul, Nat.reduceEqDiff, Nat.reduceLeDiff, Nat.reduceLT, effOf, effMem, effStore, effCall, effVar, effLit, effMake, effApp, Eff.ap, lend, evLit, evMake, evNil, freeze, onto, dropO, elemsV, sized, evCmp, eqT, eqG, minV, evUn, evField, evExtract, evIndexA, evIndexV, evSlice, optInt, fillV, placeOf, thawed, del, isNilSlice, plain, plainL, cellsJ, junkOk, evLook, evMap, evEnter, effEnter, findV, mapOf, keyOk, evFrame, unframe, closed, fixed, sameEs, pickObs, putObs, wit, sameWit, Option.isSome_some, evNilCheck, St.with, setSlots, setObs, wantedD, seqOf, noRange, setAll, Array.size, te, einl, inls, efr]
        refine ⟨(), ?_⟩
        simp
      · have w1 : IntKind.i64.wrap ((js.length : Int) - 1) = (n : Int) := by rw [h1, wrap_in (by omega)]; omega
        have p1 : (0 : Int) ≤ (n : Int) := by omega
        have p2 : (n : Int) < (js.length : Int) := by omega
        have p3 : n < js.length := by omega
        have hsame : (s.thick == r.thick && (s.shade == r.shade && s.flaw == r.flaw)) = same s r := by simp [same]
        cases hb : same s r with
        | true =>
          have e5 : push js r = js.set n (merge s r) := by
            unfold push; rw [h3]; dsimp only; rw [hb, if_pos rfl, h1, Nat.add_sub_cancel]
          have e6 : (js.map encRun).set n (.agg [.int .i64 (IntKind.i64.wrap (s.len + r.len)), .int .i64 s.thick, .int .i64 s.shade, .int .i64 s.flaw]) = (push js r).map encRun := by
            rw [e5, List.map_set]; rfl
          have e7 : (push js r).length = js.length := by rw [e5, List.length_set]
          rw [hb] at hsame
          simp (maxSteps := 1000000) (implicitDefEqProofs := false) only [runs_ob, g1, g2, g3, g4, h2, w1, p1, p2, p3, hsame, e6, e7, encRun, regB hk2, regB hk3, evBD_nil, evBD_cons, effB_true, effB_false, effB2_some, effB2_none, isBar, Bool.true_eq_false, false_and, if_false, Int.natCast_nonneg, Int.toNat_natCast, List.getElem?_map, List.length_map, ss, List.replicate, evOp, evPlain, evVal, evMem, St.eval, St.put, St.get, constV, List.set, lenV, sliceOf, arrayOf, fieldsOf, normOf, norm, firstRegion, look, maskFrom, evBin, evIndexS, evLoad, evVar, evStore, evFieldAddr, nameOf, St.alloc, St.drop, killL, kill, killAll, killObs, killOb, upd, cells?, part, retag, retagL, putIn, refFree, refFreeL, isNew, isNewL, Ty.isAgg, splice, idsL, ids, idsLL, reach, depth, St.dropL, resultsV, resultV, ↓reduceIte, Nat.reduceBEq, Nat.reduceAdd, Nat.reduceSub, Nat.reduceMul, Nat.reduceEqDiff, Nat.reduceLeDiff, Nat.reduceLT, effOf, effMem, effStore, effCall, effVar, effLit, effMake, effApp, Eff.ap, lend, evLit, evMake, evNil, freeze, onto, dropO, elemsV, sized, evCmp, eqT, eqG, minV, evUn, evField, evExtract, evIndexA, evIndexV, evSlice, optInt, fillV, placeOf, thawed, del, isNilSlice, plain, plainL, cellsJ, junkOk, evLook, evMap, evEnter, effEnter, findV, mapOf, keyOk, evFrame, unframe, closed, fixed, sameEs, pickObs, putObs, wit, sameWit, Option.isSome_some, evNilCheck, St.with, setSlots, setObs, wantedD, seqOf, noRange, setAll, Array.size, te, einl, inls, efr]
          exact ⟨(), by simp; omega⟩
        | false =>
          have e5 : push js r = js ++ [r] := by
            unfold push; rw [h3]; dsimp only; rw [hb, if_neg (by simp)]
          have e6 : js.map encRun ++ [.agg [.int .i64 r.len, .int .i64 r.thick, .int .i64 r.shade, .int .i64 r.flaw]] = (push js r).map encRun := by rw [e5, List.map_append]; rfl
          have e7 : (push js r).length = js.length + 1 := by rw [e5]; simp
          rw [hb] at hsame
          rw [← e7] at hroom hbig
          simp (maxSteps := 1000000) (implicitDefEqProofs := false) only [runs_ob, g1, g2, g3, g4, h2, w1, p1, p2, p3, hsame, hroom, hbig, e6, ← e7, encRun, regB hk2, regB hk3, evBD_nil, evBD_cons, effB_true, effB_false, effB2_some, effB2_none, isBar, Bool.true_eq_false, false_and, if_false, Int.natCast_nonneg, Int.toNat_natCast, List.getElem?_map, List.length_map, ss, List.replicate, evOp, evPlain, evVal, evMem, St.eval, St.put, St.get, constV, List.set, lenV, sliceOf, arrayOf, fieldsOf, normOf, norm, firstRegion, look, maskFrom, evBin, evIndexS, evLoad, evVar, evStore, evFieldAddr, nameOf, St.alloc, St.drop, killL, kill, killAll, killObs, killOb, upd, cells?, part, retag, retagL, putIn, refFree, refFreeL, isNew, isNewL, Ty.isAgg, splice, idsL, ids, idsLL, reach, depth, St.dropL, resultsV, resultV, ↓reduceIte, Nat.reduceBEq, Nat.reduceAdd, Nat.reduceSub, Nat.reduceMul, Nat.reduceEqDiff, Nat.reduceLeDiff, Nat.reduceLT, effOf, effMem, effStore, effCall, effVar, effLit, effMake, effApp, Eff.ap, lend, evLit, evMake, evNil, freeze, onto, dropO, elemsV, sized, evCmp, eqT, eqG, minV, evUn, evField, evExtract, evIndexA, evIndexV, evSlice, optInt, fillV, placeOf, thawed, del, isNilSlice, plain, plainL, cellsJ, junkOk, evLook, evMap, evEnter, effEnter, findV, mapOf, keyOk, evFrame, unframe, closed, fixed, sameEs, pickObs, putObs, wit, sameWit, Option.isSome_some, evNilCheck, St.with, setSlots, setObs, wantedD, seqOf, noRange, setAll, Array.size, te, einl, inls, efr]
          exact ⟨(), by simp; omega⟩
  | cons r post =>
    have g1 : (pre.length : Int) < xs.length := by rw [i1]; simp; omega
    have g2 : pre.length < xs.length := by omega
    have g3 : xs[pre.length]? = some r := by rw [i1]; simp
    have g4 : IntKind.i64.wrap ((pre.length : Int) + 1) = ((pre ++ [r]).length : Int) := by rw [wrap_in (by omega)]; simp
    have t1 : total xs = total pre + (r.len + total post) := by rw [i1, total_app, total_cons]
    have ok1 := okay_app (pre := pre) (post := r :: post) (i1 ▸ v1)
    have t2 := okay_nonneg ok1.1
    have t3 := okay_nonneg (okay_app (pre := [r]) (post := post) ok1.2).2
    have t4 := ok1.2.1 r List.mem_cons_self
    have gl := good_len i2 (by omega)
    have e3 : total (pre ++ [r]) = total pre + r.len := by rw [total_app, total_cons, total_nil]; omega
    generalize ha : total pre = a at *
    have w1 : IntKind.i64.wrap (a + r.len) = a + r.len := wrap_in (by omega)
    rw [chAll, nz_app, ← List.append_assoc] at i5
    generalize hacc0 : acc ++ nz (chRun (a + r.len) r.mk' a (l.drop k)) = accE at *
    generalize hrest : restP (a + r.len) (l.drop k) = psE at *
    have fin : ∀ acc' k', Good acc' (a + r.len) → k' ≤ l.length → acc' = accE → l.drop k' = psE →
        ∃ i' : { i : (List Run × List Run) × List Run × Nat // xs = i.1.1 ++ i.1.2 ∧ Good i.2.1 (total i.1.1) ∧ UpP (total xs) (total i.1.1) (l.drop i.2.2) ∧ i.2.2 ≤ l.length ∧ i.2.1 ++ nz (chAll (total i.1.1) (l.drop i.2.2) i.1.2) = nz (chAll 0 l xs) },
          i'.1 = ((pre ++ [r], post), acc', k') := fun acc' k' f1 f2 f3 f4 =>
      ⟨⟨((pre ++ [r], post), acc', k'), by simpa using i1, by rw [e3]; exact f1, by rw [e3]; dsimp only; rw [f4, ← hrest]; exact upP_rest i3, f2, by rw [e3]; dsimp only; rw [f3, f4]; exact i5⟩, rfl⟩
    simp (maxSteps := 1000000) (implicitDefEqProofs := false) only [runs_ob, g1, g2, g3, w1, encRun, Int.natCast_nonneg, Int.toNat_natCast, List.getElem?_map, List.length_map, ss, List.replicate, evOp, evPlain, evVal, evMem, St.eval, St.put, St.get, constV, List.set, lenV, sliceOf, arrayOf, fieldsOf, normOf, norm, firstRegion, look, maskFrom, evBin, evIndexS, evLoad, evVar, evStore, evFieldAddr, nameOf, St.alloc, St.drop, killL, kill, killAll, killObs, killOb, upd, cells?, part, retag, retagL, putIn, refFree, refFreeL, isNew, isNewL, Ty.isAgg, splice, idsL, ids, idsLL, reach, depth, St.dropL, resultsV, resultV, ↓reduceIte, Nat.reduceBEq, Nat.reduceAdd, Nat.reduceSub, Nat.reduceMul, Nat.reduceEqDiff, Nat.reduceLeDiff, Nat.reduceLT, effOf, effMem, effStore, effCall, effVar, effLit, effMake, effApp, Eff.ap, lend, evLit, evMake, evNil, freeze, onto, dropO, elemsV, sized, evCmp, eqT, eqG, minV, evUn, evField, evExtract, evIndexA, evIndexV, evSlice, optInt, fillV, placeOf, thawed, del, isNilSlice, plain, plainL, cellsJ, junkOk, evLook, evMap, evEnter, effEnter, findV, mapOf, keyOk, evFrame, unframe, closed, fixed, sameEs, pickObs, putObs, wit, sameWit, Option.isSome_some, evNilCheck, St.with, setSlots, setObs, wantedD, seqOf, noRange, setAll, Array.size, te, einl, inls, efr]
    generalize hr : loopAt _ _ _ _ _ _ = r; revert r
    refine loop_inv (ι := { i : List Run × Int × Nat // Good i.1 i.2.1 ∧ i.2.1 ≤ a + r.len ∧ UpP (total xs) i.2.1 (l.drop i.2.2) ∧ i.2.2 ≤ l.length ∧ i.1 ++ nz (chRun (a + r.len) r.mk' i.2.1 (l.drop i.2.2)) = accE ∧ restP (a + r.len) (l.drop i.2.2) = psE })
      (fun i => [(9, .own 9 0 i.1.1.length), (10, .int .i64 i.1.2.1), (11, .int .i64 i.1.2.2)]) (fun i => [(9, runsOb i.1.1)]) (fun i => l.length - i.1.2.2) ⟨(acc, a, k), i2, by dsimp only; omega, i3, i4, hacc0, hrest⟩ (by simp (maxSteps := 1000000) (implicitDefEqProofs := false) only [runs_ob, ss, List.replicate, evOp, evPlain, evVal, evMem, St.eval, St.put, St.get, constV, List.set, lenV, sliceOf, arrayOf, fieldsOf, normOf, norm, firstRegion, look, maskFrom, evBin, evIndexS, evLoad, evVar, evStore, evFieldAddr, nameOf, St.alloc, St.drop, killL, kill, killAll, killObs, killOb, upd, cells?, part, retag, retagL, putIn, refFree, refFreeL, isNew, isNewL, Ty.isAgg, splice, idsL, ids, idsLL, reach, depth, St.dropL, resultsV, resultV, ↓reduceIte, Nat.reduceBEq, Nat.reduceAdd, Nat.reduceSub, Nat.reduceMul, Nat.reduceEqDiff, Nat.reduceLeDiff, Nat.reduceLT, effOf, effMem, effStore, effCall, effVar, effLit, effMake, effApp, Eff.ap, lend, evLit, evMake, evNil, freeze, onto, dropO, elemsV, sized, evCmp, eqT, eqG, minV, evUn, evField, evExtract, evIndexA, evIndexV, evSlice, optInt, fillV, placeOf, thawed, del, isNilSlice, plain, plainL, cellsJ, junkOk, evLook, evMap, evEnter, effEnter, findV, mapOf, keyOk, evFrame, unframe, closed, fixed, sameEs, pickObs, putObs, wit, sameWit, Option.isSome_some, evNilCheck, St.with, setSlots, setObs, wantedD, seqOf, noRange, setAll, Array.size, te, einl, inls, efr]) ?_
    rintro ⟨⟨acc1, a1, k1⟩, q1, q2, q3, q4, q5, q6⟩
    dsimp only at q1 q2 q3 q4 q5 q6 ⊢
    have q7 := good_len q1 (by omega)
    by_cases hk : k1 < l.length
    case neg =>
      have hk' : ¬ (k1 : Int) < l.length := by omega
      have hd : l.drop k1 = [] := List.drop_eq_nil_of_le (by omega)
      have hd0 := hd
      rw [hd, chRun] at q5
      rw [hd, restP, ← hd] at q6
      have e5 : accE = acc1 ++ nz [runOf (a + r.len - a1) r.mk'] ∧ psE = l.drop k1 := ⟨q5.symm, q6.symm⟩
      have t9 := good_len q1 (by omega)
      by_cases he : a1 < a + r.len
      · have w2 : IntKind.i64.wrap (a + r.len - a1) = a + r.len - a1 := wrap_in (by omega)
        have hroom : roomy (acc1.length + 1) 32 = true := by simp [roomy]; omega
        have hbig : acc1.length + 1 ≤ 4294967296 := by omega
        have e6 : accE = acc1 ++ [⟨a + r.len - a1, r.thick, r.shade, r.flaw⟩] := by rw [e5.1, nz_one _ _ (by omega)]; rfl
        have e7 : acc1.map encRun ++ [.agg [.int .i64 (a + r.len - a1), .int .i64 r.thick, .int .i64 r.shade, .int .i64 r.flaw]] = accE.map encRun := by rw [e6, List.map_append]; rfl
        have e8 : accE.length = acc1.length + 1 := by rw [e6]; simp
        rw [← e8] at hroom hbig
        simp (maxSteps := 1000000) (implicitDefEqProofs := false) only [runs_ob, hk', he, g1, g2, g3, g4, w2, hroom, hbig, e7, ← e8, encRun, Int.natCast_nonneg, Int.toNat_natCast, List.getElem?_map, List.length_map, ss, List.replicate, evOp, evPlain, evVal, evMem, St.eval, St.put, St.get, constV, List.set, lenV, sliceOf, arrayOf, fieldsOf, normOf, norm, firstRegion, look, maskFrom, evBin, evIndexS, evLoad, evVar, evStore, evFieldAddr, nameOf, St.alloc, St.drop, killL, kill, killAll, killObs, killOb, upd, cells?, part, retag, retagL, putIn, refFree, refFreeL, isNew, isNewL, Ty.isAgg, splice, idsL, ids, idsLL, reach, depth, St.dropL, resultsV, resultV, ↓reduceIte, Nat.reduceBEq, Nat.reduceAdd, Nat.reduceSub, Nat.reduceMul, Nat.reduceEqDiff, Nat.reduceLeDiff, Nat.reduceLT, effOf, effMem, effStore, effCall, effVar, effLit, effMake, effApp, Eff.ap, lend, evLit, evMake, evNil, freeze, onto, dropO, elemsV, sized, evCmp, eqT, eqG, minV, evUn, evField, evExtract, evIndexA, evIndexV, evSlice, optInt, fillV, placeOf, thawed, del, isNilSlice, plain, plainL, cellsJ, junkOk, evLook, evMap, evEnter, effEnter, findV, mapOf, keyOk, evFrame, unframe, closed, fixed, sameEs, pickObs, putObs, wit, sameWit, Option.isSome_some, evNilCheck, St.with, setSlots, setObs, wantedD, seqOf, noRange, setAll, Array.size, te, einl, inls, efr]
        have n1 := good_app (k := r.mk') q1 (show 0 < a + r.len - a1 by omega)
        rw [show a1 + (a + r.len - a1) = a + r.len by omega] at n1
        obtain ⟨i', hi'⟩ := fin accE k1 (by rw [e6]; exact n1) q4 rfl e5.2.symm
        refine ⟨i', ?_, ?_⟩
        · rw [hi']; dsimp only; rw [e3]
        · rw [hi']; exact Nat.lt_succ_self _
      · have he0 : a1 = a + r.len := by omega
        have e6 : accE = acc1 := by rw [e5.1, he0, Int.sub_self, nz_none, List.append_nil]
        simp (maxSteps := 1000000) (implicitDefEqProofs := false) only [runs_ob, hk', he, g1, g2, g3, g4, encRun, Int.natCast_nonneg, Int.toNat_natCast, List.getElem?_map, List.length_map, ss, List.replicate, evOp, evPlain, evVal, evMem, St.eval, St.put, St.get, constV, List.set, lenV, sliceOf, arrayOf, fieldsOf, normOf, norm, firstRegion, look, maskFrom, evBin, evIndexS, evLoad, evVar, evStore, evFieldAddr, nameOf, St.alloc, St.drop, killL, kill, killAll, killObs, killOb, upd, cells?, part, retag, retagL, putIn, refFree, refFreeL, isNew, isNewL, Ty.isAgg, splice, idsL, ids, idsLL, reach, depth, St.dropL, resultsV, resultV, ↓reduceIte, Nat.reduceBEq, Nat.reduceAdd, Nat.reduceSub, Nat.reduceMul, Nat.reduceEqDiff, Nat.reduceLeDiff, Nat.reduceLT, effOf, effMem, effStore, effCall, effVar, effLit, effMake, effApp, Eff.ap, lend, evLit, evMake, evNil, freeze, onto, dropO, elemsV, sized, evCmp, eqT, eqG, minV, evUn, evField, evExtract, evIndexA, evIndexV, evSlice, optInt, fillV, placeOf, thawed, del, isNilSlice, plain, plainL, cellsJ, junkOk, evLook, evMap, evEnter, effEnter, findV, mapOf, keyOk, evFrame, unframe, closed, fixed, sameEs, pickObs, putObs, wit, sameWit, Option.isSome_some, evNilCheck, St.with, setSlots, setObs, wantedD, seqOf, noRange, setAll, Array.size, te, einl, inls, efr]
        obtain ⟨i', hi'⟩ := fin acc1 k1 (by rw [← he0]; exact q1) q4 e6.symm e5.2.symm
        refine ⟨i', ?_, ?_⟩
        · rw [hi']; dsimp only; rw [e3]
        · rw [hi']; exact Nat.lt_succ_self _
    case pos =>
    have hk' : (k1 : Int) < l.length := by omega
    have hget : l[k1]? = some l[k1] := List.getElem?_eq_getElem hk
    have hd : l.drop k1 = l[k1] :: l.drop (k1 + 1) := List.drop_eq_getElem_cons hk
    generalize l[k1] = p at *
    by_cases hp : p < a + r.len
    case neg =>
      rw [hd, chRun, if_neg hp] at q5
      rw [hd, restP, if_neg hp, ← hd] at q6
      have e5 : accE = acc1 ++ nz [runOf (a + r.len - a1) r.mk'] ∧ psE = l.drop k1 := ⟨q5.symm, q6.symm⟩
      have t9 := good_len q1 (by omega)
      by_cases he : a1 < a + r.len
      · have w2 : IntKind.i64.wrap (a + r.len - a1) = a + r.len - a1 := wrap_in (by omega)
        have hroom : roomy (acc1.length + 1) 32 = true := by simp [roomy]; omega
        have hbig : acc1.length + 1 ≤ 4294967296 := by omega
        have e6 : accE = acc1 ++ [⟨a + r.len - a1, r.thick, r.shade, r.flaw⟩] := by rw [e5.1, nz_one _ _ (by omega)]; rfl
        have e7 : acc1.map encRun ++ [.agg [.int .i64 (a + r.len - a1), .int .i64 r.thick, .int .i64 r.shade, .int .i64 r.flaw]] = accE.map encRun := by rw [e6, List.map_append]; rfl
        have e8 : accE.length = acc1.length + 1 := by rw [e6]; simp
        rw [← e8] at hroom hbig
        simp (maxSteps := 1000000) (implicitDefEqProofs := false) only [runs_ob, hk', hk, hget, hp, vI_def, he, g1, g2, g3, g4, w2, hroom, hbig, e7, ← e8, encRun, Int.natCast_nonneg, Int.toNat_natCast, List.getElem?_map, List.length_map, ss, List.replicate, evOp, evPlain, evVal, evMem, St.eval, St.put, St.get, constV, List.set, lenV, sliceOf, arrayOf, fieldsOf, normOf, norm, firstRegion, look, maskFrom, evBin, evIndexS, evLoad, evVar, evStore, evFieldAddr, nameOf, St.alloc, St.drop, killL, kill, killAll, killObs, killOb, upd, cells?, part, retag, retagL, putIn, refFree, refFreeL, isNew, isNewL, Ty.isAgg, splice, idsL, ids, idsLL, reach, depth, St.dropL, resultsV, resultV, ↓reduceIte, Nat.reduceBEq, Nat.reduceAdd, Nat.reduceSub, Nat.reduceMul, Nat.reduceEqDiff, Nat.reduceLeDiff, Nat.reduceLT, effOf, effMem, effStore, effCall, effVar, effLit, effMake, effApp, Eff.ap, lend, evLit, evMake, evNil, freeze, onto, dropO, elemsV, sized, evCmp, eqT, eqG, minV, evUn, evField, evExtract, evIndexA, evIndexV, evSlice, optInt, fillV, placeOf, thawed, del, isNilSlice, plain, plainL, cellsJ, junkOk, evLook, evMap, evEnter, effEnter, findV, mapOf, keyOk, evFrame, unframe, closed, fixed, sameEs, pickObs, putObs, wit, sameWit, Option.isSome_some, evNilCheck, St.with, setSlots, setObs, wantedD, seqOf, noRange, setAll, Array.size, te, einl, inls, efr]
        have n1 := good_app (k := r.mk') q1 (show 0 < a + r.len - a1 by omega)
        rw [show a1 + (a + r.len - a1) = a + r.len by omega] at n1
        obtain ⟨i', hi'⟩ := fin accE k1 (by rw [e6]; exact n1) q4 rfl e5.2.symm
        refine ⟨i', ?_, ?_⟩
        · rw [hi']; dsimp only; rw [e3]
        · rw [hi']; exact Nat.lt_succ_self _
      · have he0 : a1 = a + r.len := by omega
        have e6 : accE = acc1 := by rw [e5.1, he0, Int.sub_self, nz_none, List.append_nil]
        simp (maxSteps := 1000000) (implicitDefEqProofs := false) only [runs_ob, hk', hk, hget, hp, vI_def, he, g1, g2, g3, g4, encRun, Int.natCast_nonneg, Int.toNat_natCast, List.getElem?_map, List.length_map, ss, List.replicate, evOp, evPlain, evVal, evMem, St.eval, St.put, St.get, constV, List.set, lenV, sliceOf, arrayOf, fieldsOf, normOf, norm, firstRegion, look, maskFrom, evBin, evIndexS, evLoad, evVar, evStore, evFieldAddr, nameOf, St.alloc, St.drop, killL, kill, killAll, killObs, killOb, upd, cells?, part, retag, retagL, putIn, refFree, refFreeL, isNew, isNewL, Ty.isAgg, splice, idsL, ids, idsLL, reach, depth, St.dropL, resultsV, resultV, ↓reduceIte, Nat.reduceBEq, Nat.reduceAdd, Nat.reduceSub, Nat.reduceMul, Nat.reduceEqDiff, Nat.reduceLeDiff, Nat.reduceLT, effOf, effMem, effStore, effCall, effVar, effLit, effMake, effApp, Eff.ap, lend, evLit, evMake, evNil, freeze, onto, dropO, elemsV, sized, evCmp, eqT, eqG, minV, evUn, evField, evExtract, evIndexA, evIndexV, evSlice, optInt, fillV, placeOf, thawed, del, isNilSlice, plain, plainL, cellsJ, junkOk, evLook, evMap, evEnter, effEnter, findV, mapOf, keyOk, evFrame, unframe, closed, fixed, sameEs, pickObs, putObs, wit, sameWit, Option.isSome_some, evNilCheck, St.with, setSlots, setObs, wantedD, seqOf, noRange, setAll, Array.size, te, einl, inls, efr]
        obtain ⟨i', hi'⟩ := fin acc1 k1 (by rw [← he0]; exact q1) q4 e6.symm e5.2.symm
        refine ⟨i', ?_, ?_⟩
        · rw [hi']; dsimp only; rw [e3]
        · rw [hi']; exact Nat.lt_succ_self _
    case pos =>
    rw [hd] at q3
    obtain ⟨u1, u2, u3⟩ := q3
    rw [hd, chRun, if_pos hp, nz_cons, nz_cons (runOf 1 (markP r.mk')), nz_one 1 _ (by decide)] at q5
    rw [hd, restP, if_pos hp] at q6
    have w3 : IntKind.i64.wrap (p + 1) = p + 1 := wrap_in (by omega)
    have w4 : IntKind.i64.wrap ((k1 : Int) + 1) = ((k1 + 1 : Nat) : Int) := by rw [wrap_in (by omega)]; omega
    have w5 : IntKind.i64.wrap (p - a1) = p - a1 := wrap_in (by omega)
    have fin2 : ∀ acc', Good acc' (p + 1) → acc' ++ nz (chRun (a + r.len) r.mk' (p + 1) (l.drop (k1 + 1))) = accE →
        ∃ i' : { i : List Run × Int × Nat // Good i.1 i.2.1 ∧ i.2.1 ≤ a + r.len ∧ UpP (total xs) i.2.1 (l.drop i.2.2) ∧ i.2.2 ≤ l.length ∧ i.1 ++ nz (chRun (a + r.len) r.mk' i.2.1 (l.drop i.2.2)) = accE ∧ restP (a + r.len) (l.drop i.2.2) = psE }, i'.1 = (acc', p + 1, k1 + 1) := fun acc' f1 f2 =>
      ⟨⟨(acc', p + 1, k1 + 1), f1, by dsimp only; omega, u3, by dsimp only; omega, f2, q6⟩, rfl⟩
    by_cases hpa : a1 < p
    · obtain ⟨acc2, e6⟩ : ∃ x, x = acc1 ++ [⟨p - a1, r.thick, r.shade, r.flaw⟩] := ⟨_, rfl⟩
      obtain ⟨acc3, f6⟩ : ∃ x, x = acc2 ++ [⟨1, r.thick, r.shade, bitsI .or .i64 r.flaw 1⟩] := ⟨_, rfl⟩
      have e7 : acc1.map encRun ++ [.agg [.int .i64 (p - a1), .int .i64 r.thick, .int .i64 r.shade, .int .i64 r.flaw]] = acc2.map encRun := by rw [e6, List.map_append]; rfl
      have f7 : acc2.map encRun ++ [.agg [.int .i64 1, .int .i64 r.thick, .int .i64 r.shade, .int .i64 (bitsI .or .i64 r.flaw 1)]] = acc3.map encRun := by rw [f6, List.map_append]; rfl
      have e8 : acc2.length = acc1.length + 1 := by rw [e6]; simp
      have f8 : acc3.length = acc2.length + 1 := by rw [f6]; simp
      have hroom : roomy acc2.length 32 = true := by simp [roomy]; omega
      have hbig : acc2.length ≤ 4294967296 := by omega
      have hroom2 : roomy acc3.length 32 = true := by simp [roomy]; omega
      have hbig2 : acc3.length ≤ 4294967296 := by omega
      have n1 := good_app (k := r.mk') q1 (show 0 < p - a1 by omega)
      have n2 := good_app (n := 1) (k := markP r.mk') n1 (by decide)
      rw [show a1 + (p - a1) + 1 = p + 1 by omega] at n2
      rw [nz_one _ _ (show p - a1 ≠ 0 by omega)] at q5
      obtain ⟨i', hi'⟩ := fin2 acc3 (by rw [f6, e6]; exact n2) (by rw [← q5, f6, e6]; simp only [List.append_assoc]; rfl)
      simp (maxSteps := 1000000) (implicitDefEqProofs := false) only [runs_ob, hk', hk, hget, hp, hpa, g1, g2, g3, w3, w4, w5, hroom, hbig, hroom2, hbig2, e7, f7, ← e8, ← f8, encRun, vI_def, regB hk1, evBD_nil, evBD_cons, effB_true, effB_false, effB2_some, effB2_none, isBar, Bool.true_eq_false, false_and, if_false, Int.natCast_nonneg, Int.toNat_natCast, List.getElem?_map, List.length_map, ss, List.replicate, evOp, evPlain, evVal, evMem, St.eval, St.put, St.get, constV, List.set, lenV, sliceOf, arrayOf, fieldsOf, normOf, norm, firstRegion, look, maskFrom, evBin, evIndexS, evLoad, evVar, evStore, evFieldAddr, nameOf, St.alloc, St.drop, killL, kill, killAll, killObs, killOb, upd, cells?, part, retag, retagL, putIn, refFree, refFreeL, isNew, isNewL, Ty.isAgg, splice, idsL, ids, idsLL, reach, depth, St.dropL, resultsV, resultV, ↓reduceIte, Nat.reduceBEq, Nat.reduceAdd, Nat.reduceSub, Nat.reduceMul, Nat.reduceEqDiff, Nat.reduceLeDiff, Nat.reduceLT, effOf, effMem, effStore, effCall, effVar, effLit, effMake, effApp, Eff.ap, lend, evLit, evMake, evNil, freeze, onto, dropO, elemsV, sized, evCmp, eqT, eqG, minV, evUn, evField, evExtract, evIndexA, evIndexV, evSlice, optInt, fillV, placeOf, thawed, del, isNilSlice, plain, plainL, cellsJ, junkOk, evLook, evMap, evEnter, effEnter, findV, mapOf, keyOk, evFrame, unframe, closed, fixed, sameEs, pickObs, putObs, wit, sameWit, Option.isSome_some, evNilCheck, St.with, setSlots, setObs, wantedD, seqOf, noRange, setAll, Array.size, te, einl, inls, efr]
      refine ⟨i', ?_, ?_⟩
      · rw [hi']
      · rw [hi']; dsimp only; omega
    · have hpe : a1 = p := by omega
      subst hpe
      obtain ⟨acc3, f6⟩ : ∃ x, x = acc1 ++ [⟨1, r.thick, r.shade, bitsI .or .i64 r.flaw 1⟩] := ⟨_, rfl⟩
      have f7 : acc1.map encRun ++ [.agg [.int .i64 1, .int .i64 r.thick, .int .i64 r.shade, .int .i64 (bitsI .or .i64 r.flaw 1)]] = acc3.map encRun := by rw [f6, List.map_append]; rfl
      have f8 : acc3.length = acc1.length + 1 := by rw [f6]; simp
      have hroom2 : roomy acc3.length 32 = true := by simp [roomy]; omega
      have hbig2 : acc3.length ≤ 4294967296 := by omega
      have n2 := good_app (n := 1) (k := markP r.mk') q1 (by decide)
      rw [Int.sub_self, nz_none, List.nil_append] at q5
      obtain ⟨i', hi'⟩ := fin2 acc3 (by rw [f6]; exact n2) (by rw [← q5, f6]; simp only [List.append_assoc]; rfl)
      simp (maxSteps := 1000000) (implicitDefEqProofs := false) only [runs_ob, hk', hk, hget, hp, Int.lt_irrefl, g1, g2, g3, w3, w4, hroom2, hbig2, f7, ← f8, encRun, vI_def, Int.natCast_nonneg, Int.toNat_natCast, List.getElem?_map, List.length_map, ss, List.replicate, evOp, evPlain, evVal, evMem, St.eval, St.put, St.get, constV, List.set, lenV, sliceOf, arrayOf, fieldsOf, normOf, norm, firstRegion, look, maskFrom, evBin, evIndexS, evLoad, evVar, evStore, evFieldAddr, nameOf, St.alloc, St.drop, killL, kill, killAll, killObs, killOb, upd, cells?, part, retag, retagL, putIn, refFree, refFreeL, isNew, isNewL, Ty.isAgg, splice, idsL, ids, idsLL, reach, depth, St.dropL, resultsV, resultV, ↓reduceIte, Nat.reduceBEq, Nat.reduceAdd, Nat.reduceSub, Nat.reduceMul, Nat.reduceEqDiff, Nat.reduceLeDiff, Nat.reduceLT, effOf, effMem, effStore, effCall, effVar, effLit, effMake, effApp, Eff.ap, lend, evLit, evMake, evNil, freeze, onto, dropO, elemsV, sized, evCmp, eqT, eqG, minV, evUn, evField, evExtract, evIndexA, evIndexV, evSlice, optInt, fillV, placeOf, thawed, del, isNilSlice, plain, plainL, cellsJ, junkOk, evLook, evMap, evEnter, effEnter, findV, mapOf, keyOk, evFrame, unframe, closed, fixed, sameEs, pickObs, putObs, wit, sameWit, Option.isSome_some, evNilCheck, St.with, setSlots, setObs, wantedD, seqOf, noRange, setAll, Array.size, te, einl, inls, efr]
      refine ⟨i', ?_, ?_⟩
      · rw [hi']
      · rw [hi']; dsimp only; omega
end Go.AM.B
end

section
/-
Chalk: every place of a pole has its mark.
-/
namespace Go.AM.B
open Go Go.AM Go.Proofs

theorem expand_one (n : Int) (k : Mk) : expand [runOf n k] = List.replicate n.toNat k := by
  simp [expand, runOf, Run.mk']

theorem chRun_len {n e : Int} {k : Mk} : ∀ {ps : List Int} {a : Int}, a ≤ e → UpP n a ps → ((expand (chRun e k a ps)).length : Int) = e - a
  | [], a, h, _ => by rw [chRun, expand_one, List.length_replicate]; omega
  | p :: ps, a, h, hu => by
    unfold chRun
    split
    · rename_i hp
      have ih := chRun_len (k := k) (e := e) (a := p + 1) (by omega) hu.2.2
      rw [expand_cons, expand_cons, List.length_append, List.length_append, List.length_replicate, List.length_replicate]
      have h1 : (runOf (p - a) k).len = p - a := rfl
      have h2 : (runOf 1 (markP k)).len = 1 := rfl
      have := hu.1
      rw [h1, h2]
      omega
    · rw [expand_one, List.length_replicate]; omega

theorem chRun_get {n e : Int} {k : Mk} : ∀ {ps : List Int} {a : Int}, a ≤ e → UpP n a ps → ∀ p ∈ ps, p < e → a ≤ p ∧ (expand (chRun e k a ps))[(p - a).toNat]? = some (markP k)
  | [], a, _, _, p, hp, _ => by cases hp
  | q :: ps, a, h, hu, p, hp, hpe => by
    obtain ⟨u1, u2, u3⟩ := hu
    unfold chRun
    have low : ∀ {l : List Int} {b : Int}, UpP n b l → ∀ x ∈ l, b ≤ x := by
      intro l
      induction l with
      | nil => intro b _ x hx; cases hx
      | cons y l ih =>
        intro b hb x hx
        rcases List.mem_cons.1 hx with rfl | hx
        · exact hb.1
        · have := ih hb.2.2 x hx; have := hb.1; omega
    rcases List.mem_cons.1 hp with rfl | hp
    · rw [if_pos hpe]
      refine ⟨u1, ?_⟩
      rw [expand_cons, expand_cons, List.getElem?_append_right (by rw [List.length_replicate]; exact Nat.le_refl _)]
      rw [List.length_replicate]
      have h1 : (runOf (p - a) k).len = p - a := rfl
      have h2 : (runOf 1 (markP k)).len = 1 := rfl
      rw [h1, h2, Nat.sub_self]
      rfl
    · have hq := low u3 p hp
      have hqe : q < e := by omega
      rw [if_pos hqe]
      have ih := chRun_get (k := k) (e := e) (a := q + 1) (by omega) u3 p hp hpe
      refine ⟨by omega, ?_⟩
      have h1 : (runOf (q - a) k).len = q - a := rfl
      have h2 : (runOf 1 (markP k)).len = 1 := rfl
      rw [expand_cons, expand_cons, List.getElem?_append_right (by rw [List.length_replicate, h1]; omega), List.length_replicate, h1,
        List.getElem?_append_right (by rw [List.length_replicate, h2]; omega), List.length_replicate, h2]
      rw [← ih.2]
      congr 1
      omega

theorem rest_mem {e : Int} : ∀ {ps : List Int} {p : Int}, p ∈ ps → e ≤ p → p ∈ restP e ps
  | [], p, hp, _ => by cases hp
  | q :: ps, p, hp, he => by
    unfold restP
    split
    · rename_i h
      rcases List.mem_cons.1 hp with rfl | hp
      · omega
      · exact rest_mem hp he
    · exact hp

theorem chAll_get {n : Int} : ∀ {rs : List Run} {a : Int} {ps : List Int}, (∀ r ∈ rs, 1 ≤ r.len) → UpP n a ps → ∀ p ∈ ps, p < a + total rs → a ≤ p ∧ ∃ r ∈ rs, (expand (chAll a ps rs))[(p - a).toNat]? = some (markP r.mk')
  | [], a, ps, _, hu, p, hp, hlt => by
    exfalso
    rw [total_nil, Int.add_zero] at hlt
    have low : ∀ {l : List Int} {b : Int}, UpP n b l → ∀ x ∈ l, b ≤ x := by
      intro l
      induction l with
      | nil => intro b _ x hx; cases hx
      | cons y l ih =>
        intro b hb x hx
        rcases List.mem_cons.1 hx with rfl | hx
        · exact hb.1
        · have := ih hb.2.2 x hx; have := hb.1; omega
    have := low hu p hp
    omega
  | r :: rs, a, ps, hr, hu, p, hp, hlt => by
    have h1 := hr r List.mem_cons_self
    rw [total_cons] at hlt
    rw [chAll, expand_app]
    have hl := chRun_len (k := r.mk') (e := a + r.len) (by omega) hu
    by_cases hpe : p < a + r.len
    · obtain ⟨k1, k2⟩ := chRun_get (k := r.mk') (e := a + r.len) (by omega) hu p hp hpe
      refine ⟨k1, r, List.mem_cons_self, ?_⟩
      rw [List.getElem?_append_left (by omega)]
      exact k2
    · obtain ⟨k1, s, hs, k2⟩ := chAll_get (rs := rs) (a := a + r.len) (fun q hq => hr q (List.mem_cons_of_mem _ hq)) (upP_rest hu) p (rest_mem hp (by omega)) (by omega)
      refine ⟨by omega, s, List.mem_cons_of_mem _ hs, ?_⟩
      rw [List.getElem?_append_right (by omega), ← k2]
      congr 1
      omega

theorem chAll_len {n : Int} : ∀ {rs : List Run} {a : Int} {ps : List Int}, (∀ r ∈ rs, 1 ≤ r.len) → UpP n a ps → ((expand (chAll a ps rs)).length : Int) = total rs
  | [], a, ps, _, _ => rfl
  | r :: rs, a, ps, hr, hu => by
    have h1 := hr r List.mem_cons_self
    have hl := chRun_len (k := r.mk') (e := a + r.len) (by omega) hu
    have ih := chAll_len (rs := rs) (a := a + r.len) (fun q hq => hr q (List.mem_cons_of_mem _ hq)) (upP_rest hu)
    rw [chAll, expand_app, total_cons, List.length_append]
    omega

def wellM (m : Mk) : Prop := (1 ≤ m.thick ∧ m.thick ≤ 1000) ∧ (0 ≤ m.shade ∧ m.shade ≤ 99) ∧ (0 ≤ m.flaw ∧ m.flaw ≤ 15)

theorem flaw_or {f : Int} (h : 0 ≤ f ∧ f ≤ 15) : (0 ≤ bitsI .or .i64 f 1 ∧ bitsI .or .i64 f 1 ≤ 15) ∧ (bitsI .and .i64 (bitsI .or .i64 f 1) 1 == 0) = false := by
  have : f = 0 ∨ f = 1 ∨ f = 2 ∨ f = 3 ∨ f = 4 ∨ f = 5 ∨ f = 6 ∨ f = 7 ∨ f = 8 ∨ f = 9 ∨ f = 10 ∨ f = 11 ∨ f = 12 ∨ f = 13 ∨ f = 14 ∨ f = 15 := by omega
  rcases this with rfl | rfl | rfl | rfl | rfl | rfl | rfl | rfl | rfl | rfl | rfl | rfl | rfl | rfl | rfl | rfl <;> decide

theorem wellM_mark {m : Mk} (h : wellM m) : wellM (markP m) := ⟨h.1, h.2.1, (flaw_or h.2.2).1⟩
theorem wellM_run {r : Run} (h : wellB r = true) : wellM r.mk' := by
  simp [wellB, inB] at h
  exact ⟨by show 1 ≤ r.thick ∧ r.thick ≤ 1000; omega, by show 0 ≤ r.shade ∧ r.shade ≤ 99; omega, by show 0 ≤ r.flaw ∧ r.flaw ≤ 15; omega⟩

theorem chRun_well {e : Int} {k : Mk} (h : wellM k) : ∀ {ps : List Int} {a : Int}, ∀ r ∈ chRun e k a ps, wellM r.mk'
  | [], a, r, hr => by simp only [chRun, List.mem_singleton] at hr; subst hr; exact h
  | p :: ps, a, r, hr => by
    unfold chRun at hr
    split at hr
    · rcases List.mem_cons.1 hr with rfl | hr
      · exact h
      · rcases List.mem_cons.1 hr with rfl | hr
        · exact wellM_mark h
        · exact chRun_well h r hr
    · simp only [List.mem_singleton] at hr; subst hr; exact h
theorem chAll_well : ∀ {rs : List Run} {a : Int} {ps : List Int}, (∀ r ∈ rs, wellM r.mk') → ∀ r ∈ chAll a ps rs, wellM r.mk'
  | [], a, ps, _, r, hr => by cases hr
  | q :: rs, a, ps, h, r, hr => by
    rw [chAll] at hr
    rcases List.mem_append.1 hr with hr | hr
    · exact chRun_well (h q List.mem_cons_self) r hr
    · exact chAll_well (fun x hx => h x (List.mem_cons_of_mem _ hx)) r hr

theorem chRun_pos {n e : Int} {k : Mk} : ∀ {ps : List Int} {a : Int}, a ≤ e → UpP n a ps → ∀ r ∈ chRun e k a ps, 0 ≤ r.len
  | [], a, h, _, r, hr => by simp only [chRun, List.mem_singleton] at hr; subst hr; show 0 ≤ e - a; omega
  | p :: ps, a, h, hu, r, hr => by
    have := hu.1
    unfold chRun at hr
    split at hr
    · rcases List.mem_cons.1 hr with rfl | hr
      · show 0 ≤ p - a; omega
      · rcases List.mem_cons.1 hr with rfl | hr
        · show (0 : Int) ≤ 1; omega
        · exact chRun_pos (by omega) hu.2.2 r hr
    · simp only [List.mem_singleton] at hr; subst hr; show 0 ≤ e - a; omega
theorem chAll_pos {n : Int} : ∀ {rs : List Run} {a : Int} {ps : List Int}, (∀ r ∈ rs, 1 ≤ r.len) → UpP n a ps → ∀ r ∈ chAll a ps rs, 0 ≤ r.len
  | [], a, ps, _, _, r, hr => by cases hr
  | q :: rs, a, ps, h, hu, r, hr => by
    have := h q List.mem_cons_self
    rw [chAll] at hr
    rcases List.mem_append.1 hr with hr | hr
    · exact chRun_pos (by omega) hu r hr
    · exact chAll_pos (fun x hx => h x (List.mem_cons_of_mem _ hx)) (upP_rest hu) r hr

theorem len_expand : ∀ {rs : List Run}, (∀ r ∈ rs, 0 ≤ r.len) → ((expand rs).length : Int) = total rs
  | [], _ => rfl
  | r :: rs, h => by
    have ih := len_expand fun q hq => h q (List.mem_cons_of_mem _ hq)
    have := h r List.mem_cons_self
    rw [expand_cons, List.length_append, List.length_replicate, total_cons]
    omega

/-- What is chalked is a valid band, and has the marks of the pieces. -/
theorem chalk_valid {xs : List Run} {l : List Int} (hv : validate xs = 0) (hu : UpP (total xs) 0 l) (h40 : (joinR (chAll 0 l xs)).length ≤ 40) :
    validate (joinR (chAll 0 l xs)) = 0 ∧ expand (joinR (chAll 0 l xs)) = expand (chAll 0 l xs) := by
  obtain ⟨v1, v2, v3⟩ := valid_okay hv
  have p1 := chAll_pos v1.1 hu
  have p2 := chAll_len v1.1 hu
  have e1 : joinR (chAll 0 l xs) = rle (expand (chAll 0 l xs)) := by
    rw [joinR_filter, joined_rle, expand_pos]
    · intro r hr
      obtain ⟨h1, h2⟩ := List.mem_filter.1 hr
      have := p1 r h1
      simp only [ne_eq, decide_not, Bool.not_eq_true', decide_eq_false_iff_not] at h2
      omega
    · have h3 := len_expand (rs := (chAll 0 l xs).filter fun r => r.len ≠ 0) fun r hr => p1 r (List.mem_filter.1 hr).1
      rw [expand_pos] at h3
      omega
  obtain ⟨r1, r2, r3⟩ := rle_ok (expand (chAll 0 l xs)) (by omega)
  rw [e1] at h40 ⊢
  refine ⟨?_, r2⟩
  have hall : (rle (expand (chAll 0 l xs))).all wellB = true := by
    rw [List.all_eq_true]
    intro r hr
    have q1 := r1 r hr
    have q2 : r.mk' ∈ expand (chAll 0 l xs) := by
      rw [← r2]
      unfold expand
      refine List.mem_flatMap.2 ⟨r, hr, ?_⟩
      rw [List.mem_replicate]
      exact ⟨by omega, rfl⟩
    unfold expand at q2
    obtain ⟨s, hs, q3⟩ := List.mem_flatMap.1 q2
    have q4 := (List.mem_replicate.1 q3).2
    have q5 := chAll_well (fun r hr => wellM_run (List.all_eq_true.1 (valid_all hv) r hr)) s hs
    rw [← q4] at q5
    obtain ⟨⟨a1, a2⟩, ⟨b1, b2⟩, ⟨c1, c2⟩⟩ := q5
    have a1 : 1 ≤ r.thick := a1
    have a2 : r.thick ≤ 1000 := a2
    have b1 : 0 ≤ r.shade := b1
    have b2 : r.shade ≤ 99 := b2
    have c1 : 0 ≤ r.flaw := c1
    have c2 : r.flaw ≤ 15 := c2
    simp only [wellB, Bool.and_eq_true, inB_iff]
    omega
  have okay : Okay (rle (expand (chAll 0 l xs))) := by
    refine ⟨fun r hr => (r1 r hr).1, ?_⟩
    have := len_expand (rs := rle (expand (chAll 0 l xs))) fun r hr => by have := (r1 r hr).1; omega
    rw [r2] at this
    omega
  have ht := ln_total okay
  have h5 := len_expand (rs := rle (expand (chAll 0 l xs))) fun r hr => by have := (r1 r hr).1; omega
  rw [r2] at h5
  unfold validate
  rw [if_neg (by omega), if_pos hall, if_neg (by omega)]

set_option maxHeartbeats 8000000 in
theorem c11 (xs : List Run) (h : Hang) : (orcω E X0).call 11 [.sl false (xs.map encRun), encH h] = some (.bool true) := by
  refine call_of rfl fn11 rfl ?_
  by_cases hx : 100 < xs.length
  · have hx' : (100 : Int) < xs.length := by omega
    unfold encH
    simp (maxSteps := 1000000) (implicitDefEqProofs := false) only [Try.ntmps11, Try.results11, efc11, fc11, hx', List.length_map, c25, ss, List.replicate, evOp, evPlain, evVal, evMem, St.eval, St.put, St.get, constV, List.set, lenV, sliceOf, arrayOf, fieldsOf, normOf, norm, firstRegion, look, maskFrom, evBin, evIndexS, evLoad, evVar, evStore, evFieldAddr, nameOf, St.alloc, St.drop, killL, kill, killAll, killObs, killOb, upd, cells?, part, retag, retagL, putIn, refFree, refFreeL, isNew, isNewL, Ty.isAgg, splice, idsL, ids, idsLL, reach, depth, St.dropL, resultsV, resultV, ↓reduceIte, Nat.reduceBEq, Nat.reduceAdd, Nat.reduceSub, Nat.reduceMul, Nat.reduceEqDiff, Nat.reduceLeDiff, Nat.reduceLT, effOf, effMem, effStore, effCall, effVar, effLit, effMake, effApp, Eff.ap, lend, evLit, evMake, evNil, freeze, onto, dropO, elemsV, sized, evCmp, eqT, eqG, minV, evUn, evField, evExtract, evIndexA, evIndexV, evSlice, optInt, fillV, placeOf, thawed, del, isNilSlice, plain, plainL, cellsJ, junkOk, evLook, evMap, evEnter, effEnter, findV, mapOf, keyOk, evFrame, unframe, closed, fixed, sameEs, pickObs, putObs, wit, sameWit, Option.isSome_some, evNilCheck, St.with, setSlots, setObs, wantedD, seqOf, noRange, setAll, Array.size, te, einl, inls, efr]
  have hx' : ¬ (100 : Int) < xs.length := by omega
  have k1 := c46 xs h (by omega)
  have k2 := c47 xs h (by omega)
  have k3 := c17 h
  have k4 := c19 h
  have k5 := c49 false xs (by omega)
  have k6 := c16 (total xs) h
  have k7 := c48 false false (chalkM xs h).1 (chalkM xs h).1
  have hlen : (chalkM xs h).1.length ≤ 40 := by
    unfold chalkM
    split
    · split
      · split
        · simp
        · dsimp only; omega
      · simp
    · simp
  have k7 := k7 (by omega)
  unfold encRes at k1 k2
  unfold lengthM encLen at k5
  unfold encIs at k6
  by_cases he : (chalkM xs h).2 = 0
  case neg =>
    have he' : ((chalkM xs h).2 != 0) = true := by simpa using he
    unfold encH at *
    simp (maxSteps := 1000000) (implicitDefEqProofs := false) only [Try.ntmps11, Try.results11, efc11, fc11, hx', List.length_map, k1, k2, k3, k4, k7, he', c25, bne_self_eq_false, decide_true, ss, List.replicate, evOp, evPlain, evVal, evMem, St.eval, St.put, St.get, constV, List.set, lenV, sliceOf, arrayOf, fieldsOf, normOf, norm, firstRegion, look, maskFrom, evBin, evIndexS, evLoad, evVar, evStore, evFieldAddr, nameOf, St.alloc, St.drop, killL, kill, killAll, killObs, killOb, upd, cells?, part, retag, retagL, putIn, refFree, refFreeL, isNew, isNewL, Ty.isAgg, splice, idsL, ids, idsLL, reach, depth, St.dropL, resultsV, resultV, ↓reduceIte, Nat.reduceBEq, Nat.reduceAdd, Nat.reduceSub, Nat.reduceMul, Nat.reduceEqDiff, Nat.reduceLeDiff, Nat.reduceLT, effOf, effMem, effStore, effCall, effVar, effLit, effMake, effApp, Eff.ap, lend, evLit, evMake, evNil, freeze, onto, dropO, elemsV, sized, evCmp, eqT, eqG, minV, evUn, evField, evExtract, evIndexA, evIndexV, evSlice, optInt, fillV, placeOf, thawed, del, isNilSlice, plain, plainL, cellsJ, junkOk, evLook, evMap, evEnter, effEnter, findV, mapOf, keyOk, evFrame, unframe, closed, fixed, sameEs, pickObs, putObs, wit, sameWit, Option.isSome_some, evNilCheck, St.with, setSlots, setObs, wantedD, seqOf, noRange, setAll, Array.size, te, einl, inls, efr]
  case pos =>
  have hv : validate xs = 0 := by
    unfold chalkM at he
    split at he
    · assumption
    · rename_i h0; exact absurd he h0
  obtain ⟨v1, v2, v3⟩ := valid_okay hv
  have hp : (polesR (total xs) h).2 = 0 := by
    unfold chalkM at he
    rw [if_pos hv] at he
    split at he
    · assumption
    · rename_i h0; exact absurd he h0
  have hpl : polesR (total xs) h = (poleL (total xs) h, 0) ∧ validH h = true := by
    rcases polesR_cases (total xs) h with hq | hq | hq
    · exact hq
    · rw [hq] at hp; cases hp
    · rw [hq] at hp; cases hp
  have up : UpP (total xs) 0 (poleL (total xs) h) := upP_mono (validH_iff.1 hpl.2).2.1.1 (polesW_up (validH_iff.1 hpl.2).1.1 _ _)
  have ho : chalkM xs h = (joinR (chAll 0 (poleL (total xs) h) xs), 0) := by
    unfold chalkM at he ⊢
    rw [if_pos hv, if_pos hp] at he ⊢
    rw [hpl.1] at he ⊢
    split at he
    · cases he
    · rename_i h0; rw [if_neg h0]
  have ll := polesR_len (total xs) h
  rw [hpl.1] at ll k6
  rw [ho] at k1 k2 k7 hlen
  dsimp only at k1 k2 k7 hlen ll k6
  obtain ⟨w1, w2⟩ := chalk_valid hv up hlen
  rw [if_pos hv, ln_total v1] at k5
  dsimp only at k5
  have atk : ∀ p ∈ poleL (total xs) h, ∃ m : Mk, (orcω E X0).call 50 [.sl false ((joinR (chAll 0 (poleL (total xs) h) xs)).map encRun), .int .i64 p] = some (.tup [.agg [.int .i64 m.thick, .int .i64 m.shade, .int .i64 m.flaw], .int .i64 0]) ∧ (bitsI .and .i64 m.flaw 1 == 0) = false := fun p hp' => by
    have lt : p < total xs := by
      have : ∀ {l : List Int} {b : Int}, UpP (total xs) b l → ∀ x ∈ l, x < total xs := by
        intro l
        induction l with
        | nil => intro b _ x hx; cases hx
        | cons y l ih =>
          intro b hb x hx
          rcases List.mem_cons.1 hx with rfl | hx
          · exact hb.2.1
          · exact ih hb.2.2 x hx
      exact this up p hp'
    obtain ⟨a1, r, hr, a2⟩ := chAll_get v1.1 up p hp' (by omega)
    rw [Int.sub_zero, ← w2] at a2
    have a3 := c50 (joinR (chAll 0 (poleL (total xs) h) xs)) p (by omega)
    unfold atM at a3
    rw [if_pos w1, if_pos a1, a2] at a3
    exact ⟨markP r.mk', a3, (flaw_or (wellM_run (List.all_eq_true.1 (valid_all hv) r hr)).2.2).2⟩
  generalize joinR (chAll 0 (poleL (total xs) h) xs) = o at *
  generalize poleL (total xs) h = l at *
  unfold encH at *
  simp (maxSteps := 1000000) (implicitDefEqProofs := false) only [Try.ntmps11, Try.results11, efc11, fc11, hx', List.length_map, k1, k2, k3, k4, k5, k6, k7, c25, bne_self_eq_false, decide_true, ss, List.replicate, evOp, evPlain, evVal, evMem, St.eval, St.put, St.get, constV, List.set, lenV, sliceOf, arrayOf, fieldsOf, normOf, norm, firstRegion, look, maskFrom, evBin, evIndexS, evLoad, evVar, evStore, evFieldAddr, nameOf, St.alloc, St.drop, killL, kill, killAll, killObs, killOb, upd, cells?, part, retag, retagL, putIn, refFree, refFreeL, isNew, isNewL, Ty.isAgg, splice, idsL, ids, idsLL, reach, depth, St.dropL, resultsV, resultV, ↓reduceIte, Nat.reduceBEq, Nat.reduceAdd, Nat.reduceSub, Nat.reduceMul, Nat.reduceEqDiff, Nat.reduceLeDiff, Nat.reduceLT, effOf, effMem, effStore, effCall, effVar, effLit, effMake, effApp, Eff.ap, lend, evLit, evMake, evNil, freeze, onto, dropO, elemsV, sized, evCmp, eqT, eqG, minV, evUn, evField, evExtract, evIndexA, evIndexV, evSlice, optInt, fillV, placeOf, thawed, del, isNilSlice, plain, plainL, cellsJ, junkOk, evLook, evMap, evEnter, effEnter, findV, mapOf, keyOk, evFrame, unframe, closed, fixed, sameEs, pickObs, putObs, wit, sameWit, Option.isSome_some, evNilCheck, St.with, setSlots, setObs, wantedD, seqOf, noRange, setAll, Array.size, te, einl, inls, efr]
  generalize hr : loopAt _ _ _ _ _ _ = r; revert r
  refine loop_list l (fun pre _ => [(13, .int .i64 pre.length)]) (fun _ _ => []) (fun _ (_ : Unit) => True) () (by omega) (by simp (maxSteps := 1000000) (implicitDefEqProofs := false) only [ss, List.replicate, evOp, evPlain, evVal, evMem, St.eval, St.put, St.get, constV, List.set, lenV, sliceOf, arrayOf, fieldsOf, normOf, norm, firstRegion, look, maskFrom, evBin, evIndexS, evLoad, evVar, evStore, evFieldAddr, nameOf, St.alloc, St.drop, killL, kill, killAll, killObs, killOb, upd, cells?, part, retag, retagL, putIn, refFree, refFreeL, isNew, isNewL, Ty.isAgg, splice, idsL, ids, idsLL, reach, depth, St.dropL, resultsV, resultV, ↓reduceIte, Nat.reduceBEq, Nat.reduceAdd, Nat.reduceSub, Nat.reduceMul, Nat.reduceEqDiff, Nat.reduceLeDiff, Nat.reduceLT, effOf, effMem, effStore, effCall, effVar, effLit, effMake, effApp, Eff.ap, lend, evLit, evMake, evNil, freeze, onto, dropO, elemsV, sized, evCmp, eqT, eqG, minV, evUn, evField, evExtract, evIndexA, evIndexV, evSlice, optInt, fillV, placeOf, thawed, del, isNilSlice, plain, plainL, cellsJ, junkOk, evLook, evMap, evEnter, effEnter, findV, mapOf, keyOk, evFrame, unframe, closed, fixed, sameEs, pickObs, putObs, wit, sameWit, Option.isSome_some, evNilCheck, St.with, setSlots, setObs, wantedD, seqOf, noRange, setAll, Array.size, te, einl, inls, efr]) trivial (fun _ _ => ?_) (fun pre p post _ hq _ g1 g2 g3 g4 => ?_)
  · simp (maxSteps := 1000000) (implicitDefEqProofs := false) only [Int.lt_irrefl, Try.ntmps11, Try.results11, efc11, fc11, c25, List.length_map, ss, List.replicate, evOp, evPlain, evVal, evMem, St.eval, St.put, St.get, constV, List.set, lenV, sliceOf, arrayOf, fieldsOf, normOf, norm, firstRegion, look, maskFrom, evBin, evIndexS, evLoad, evVar, evStore, evFieldAddr, nameOf, St.alloc, St.drop, killL, kill, killAll, killObs, killOb, upd, cells?, part, retag, retagL, putIn, refFree, refFreeL, isNew, isNewL, Ty.isAgg, splice, idsL, ids, idsLL, reach, depth, St.dropL, resultsV, resultV, ↓reduceIte, Nat.reduceBEq, Nat.reduceAdd, Nat.reduceSub, Nat.reduceMul, Nat.reduceEqDiff, Nat.reduceLeDiff, Nat.reduceLT, effOf, effMem, effStore, effCall, effVar, effLit, effMake, effApp, Eff.ap, lend, evLit, evMake, evNil, freeze, onto, dropO, elemsV, sized, evCmp, eqT, eqG, minV, evUn, evField, evExtract, evIndexA, evIndexV, evSlice, optInt, fillV, placeOf, thawed, del, isNilSlice, plain, plainL, cellsJ, junkOk, evLook, evMap, evEnter, effEnter, findV, mapOf, keyOk, evFrame, unframe, closed, fixed, sameEs, pickObs, putObs, wit, sameWit, Option.isSome_some, evNilCheck, St.with, setSlots, setObs, wantedD, seqOf, noRange, setAll, Array.size, te, einl, inls, efr]
  · obtain ⟨m, m1, m2⟩ := atk p (List.mem_of_getElem? g3)
    simp (maxSteps := 1000000) (implicitDefEqProofs := false) only [g1, g2, g3, g4, m1, m2, vI_def, bne_self_eq_false, Int.natCast_nonneg, Int.toNat_natCast, List.getElem?_map, List.length_map, ss, List.replicate, evOp, evPlain, evVal, evMem, St.eval, St.put, St.get, constV, List.set, lenV, sliceOf, arrayOf, fieldsOf, normOf, norm, firstRegion, look, maskFrom, evBin, evIndexS, evLoad, evVar, evStore, evFieldAddr, nameOf, St.alloc, St.drop, killL, kill, killAll, killObs, killOb, upd, cells?, part, retag, retagL, putIn, refFree, refFreeL, isNew, isNewL, Ty.isAgg, splice, idsL, ids, idsLL, reach, depth, St.dropL, resultsV, resultV, ↓reduceIte, Nat.reduceBEq, Nat.reduceAdd, Nat.reduceSub, Nat.reduceMul, Nat.reduceEqDiff, Nat.reduceLeDiff, Nat.reduceLT, effOf, effMem, effStore, effCall, effVar, effLit, effMake, effApp, Eff.ap, lend, evLit, evMake, evNil, freeze, onto, dropO, elemsV, sized, evCmp, eqT, eqG, minV, evUn, evField, evExtract, evIndexA, evIndexV, evSlice, optInt, fillV, placeOf, thawed, del, isNilSlice, plain, plainL, cellsJ, junkOk, evLook, evMap, evEnter, effEnter, findV, mapOf, keyOk, evFrame, unframe, closed, fixed, sameEs, pickObs, putObs, wit, sameWit, Option.isSome_some, evNilCheck, St.with, setSlots, setObs, wantedD, seqOf, noRange, setAll, Array.size, te, einl, inls, efr]
    (first | exact ⟨(), trivial⟩ | refine ⟨(), ?_, trivial⟩ | skip)
end Go.AM.B
end
