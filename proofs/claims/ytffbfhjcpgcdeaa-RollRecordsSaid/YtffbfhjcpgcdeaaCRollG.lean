import Derived.Test.YtffbfhjcpgcdeaaCRollE
set_option linter.unusedVariables false
set_option linter.unusedSimpArgs false
set_option maxRecDepth 20000

namespace Go.AM.C
open Go Go.Proofs

def priceAt (l : List Art) (b : Int) : Int := match l[b.toNat]? with | some a => a.price | none => 0

def bestAt (ms : List Mk) (l : List Art) : Nat → Int
  | 0 => -1
  | i + 1 => match l[i]? with
    | some a => if a.len = (ms.length : Int) ∧ fitA ms a 0 = true ∧ (bestAt ms l i < 0 ∨ priceAt l (bestAt ms l i) < a.price) then i else bestAt ms l i
    | none => bestAt ms l i

theorem bestAt_in (ms : List Mk) (l : List Art) : ∀ i : Nat, -1 ≤ bestAt ms l i ∧ bestAt ms l i < i
  | 0 => by simp [bestAt]
  | i + 1 => by
    have := bestAt_in ms l i
    unfold bestAt
    split
    · split <;> omega
    · omega

theorem bestAt_some {ms : List Mk} {l : List Art} {i : Nat} {a : Art} (h : l[i]? = some a) : bestAt ms l (i + 1) = if a.len = (ms.length : Int) ∧ fitA ms a 0 = true ∧ (bestAt ms l i < 0 ∨ priceAt l (bestAt ms l i) < a.price) then (i : Int) else bestAt ms l i := by
  rw [bestAt, h]

def gradeR (xs : List Run) (l : List Art) : Int × Bool × Int := if errM xs l = 0 then (max (bestAt (expand xs) l l.length) 0, decide (0 ≤ bestAt (expand xs) l l.length), 0) else (0, false, errM xs l)
def encG (x : Int × Bool × Int) : V := .tup [.int .i64 x.1, .bool x.2.1, .int .i64 x.2.2]

theorem okT22 : okCode (Try.f22.body.getD .skip) = true := by decide +kernel

set_option maxHeartbeats 8000000 in
theorem c22 (xs : List Run) (l : List Art) (hx : xs.length ≤ 100000) (hl : l.length ≤ 100000) : (orcω E X0).call 22 [.sl false (xs.map encRun), .sl false (l.map encArt)] = some (encG (gradeR xs l)) := by
  refine call_of rfl fn22 rfl ?_
  have hok := okT22
  simp only [Try.f22, Option.getD_some, okCode, Bool.and_eq_true, Bool.and_true, Bool.true_and] at hok
  have k1 := c50 xs l hx hl
  by_cases he : errM xs l = 0
  · rw [benchV_eq he] at k1
    unfold gradeR
    rw [if_pos he]
    obtain ⟨e1, e2, e3⟩ := errM_zero he
    have e4 := expand_len (valid_okay e1).1
    have g4 := offs_len (expand xs) l 0
    simp (maxSteps := 1000000) (implicitDefEqProofs := false) only [Try.ntmps22, Try.results22, efc22, fc22, k1, g4, bne_self_eq_false, encG, ss, sd, zH, qG, zF, zG, St.get, qE, qF, qB, zC, norm, look, zE, qA, qI, St.alloc, St.drop, zA, part, zB, depth, qD, ↓reduceIte, Nat.reduceBEq, Nat.reduceAdd, Nat.reduceSub, Nat.reduceMul, Nat.reduceEqDiff, Nat.reduceLeDiff, Nat.reduceLT, qJ, qK, qL, qM, qN, qO, qP, qQ, qR, zI, qS, qC, qT, evSlice0, qV, qW, qX, qY, qZ, zJ, zK, zL, wit, Option.isSome_some, qH, xJ, evPre, St.with, zD, Array.size, evLitX, evAppX, evCold, nameT, te, einl, inls, efr]
    generalize hr : loopAt _ _ _ _ _ _ = r; revert r
    refine loop_inv (ι := { i : Nat // i ≤ l.length }) (fun i => [(9, .int .i64 (bestAt (expand xs) l i.1)), (24, .int .i64 i.1)]) (fun i => [(7, { es := 3, flat := true, t := false, app := false, elems := [.agg [.sl false (xs.map encRun), .int .i64 ((expand xs).length : Nat), .sl true (offs (expand xs) 0 l)]] })]) (fun i => l.length - i.1) ⟨0, by omega⟩ (by simp (maxSteps := 1000000) (implicitDefEqProofs := false) only [bestAt, ss, sd, zH, qG, zF, zG, St.get, qE, qF, qB, zC, norm, look, zE, qA, qI, St.alloc, St.drop, zA, part, zB, depth, qD, ↓reduceIte, Nat.reduceBEq, Nat.reduceAdd, Nat.reduceSub, Nat.reduceMul, Nat.reduceEqDiff, Nat.reduceLeDiff, Nat.reduceLT, qJ, qK, qL, qM, qN, qO, qP, qQ, qR, zI, qS, qC, qT, evSlice0, qV, qW, qX, qY, qZ, zJ, zK, zL, wit, Option.isSome_some, qH, xJ, evPre, St.with, zD, Array.size, evLitX, evAppX, evCold, nameT, te, einl, inls, efr]) ?_
    rintro ⟨i, hi⟩
    dsimp only
    have w1 : IntKind.i64.wrap ((i : Int) + 1) = ((i + 1 : Nat) : Int) := by rw [wrap_in (by omega)]; omega
    by_cases hlt : (i : Int) < (l.length : Int)
    · have g0 : i < l.length := by omega
      have g1 : l[i]? = some l[i] := List.getElem?_eq_getElem g0
      have g2 := (validA_len e3).2 l[i] (List.getElem_mem g0)
      generalize l[i] = a at *
      have g3 := offs_get (expand xs) l 0 i
      rw [g1, Option.map_some, Nat.zero_add] at g3
      have b1 := bestAt_some (ms := expand xs) g1
      have b2 := bestAt_in (expand xs) l i
      have b3 := bits_get (expand xs).length (fitA (expand xs) a) (f := 0) (by omega)
      have b4 := bits_len (expand xs).length (fitA (expand xs) a)
      have b5 : (0 : Int) < (((expand xs).length + 1 : Nat) : Int) := by omega
      rw [show ((0 : Nat) : Int) = 0 from rfl] at b3
      generalize hB : bestAt (expand xs) l i = B at *
      have same : ∀ s : Int, s = bestAt (expand xs) l (i + 1) → s = bestAt (expand xs) l (i + 1) := fun _ h => h
      cases c1 : (a.len == ((expand xs).length : Int)) with
      | false =>
        have n1 : ¬ a.len = ((expand xs).length : Int) := by simpa using c1
        rw [if_neg (fun h => n1 h.1)] at b1
        simp (maxSteps := 1000000) (implicitDefEqProofs := false) only [hlt, w1, g3, g4, b3, b4, b5, c1, encOffer, Int.natCast_nonneg, Int.toNat_natCast, Int.toNat_zero, Int.le_refl, evRegion_st hok, ss, sd, zH, qG, zF, zG, St.get, qE, qF, qB, zC, norm, look, zE, qA, qI, St.alloc, St.drop, zA, part, zB, depth, qD, ↓reduceIte, Nat.reduceBEq, Nat.reduceAdd, Nat.reduceSub, Nat.reduceMul, Nat.reduceEqDiff, Nat.reduceLeDiff, Nat.reduceLT, qJ, qK, qL, qM, qN, qO, qP, qQ, qR, zI, qS, qC, qT, evSlice0, qV, qW, qX, qY, qZ, zJ, zK, zL, wit, Option.isSome_some, qH, xJ, evPre, St.with, zD, Array.size, evLitX, evAppX, evCold, nameT, te, einl, inls, efr]
        exact ⟨⟨i + 1, by omega⟩, by dsimp only; rw [b1], by dsimp only; omega⟩
      | true =>
        have y1 : a.len = ((expand xs).length : Int) := by simpa using c1
        cases c2 : fitA (expand xs) a 0 with
        | false =>
          rw [c2] at b1 b3
          rw [if_neg (fun h => by cases h.2.1)] at b1
          simp (maxSteps := 1000000) (implicitDefEqProofs := false) only [hlt, w1, g3, g4, b3, b4, b5, c1, encOffer, Int.natCast_nonneg, Int.toNat_natCast, Int.toNat_zero, Int.le_refl, evRegion_st hok, ss, sd, zH, qG, zF, zG, St.get, qE, qF, qB, zC, norm, look, zE, qA, qI, St.alloc, St.drop, zA, part, zB, depth, qD, ↓reduceIte, Nat.reduceBEq, Nat.reduceAdd, Nat.reduceSub, Nat.reduceMul, Nat.reduceEqDiff, Nat.reduceLeDiff, Nat.reduceLT, qJ, qK, qL, qM, qN, qO, qP, qQ, qR, zI, qS, qC, qT, evSlice0, qV, qW, qX, qY, qZ, zJ, zK, zL, wit, Option.isSome_some, qH, xJ, evPre, St.with, zD, Array.size, evLitX, evAppX, evCold, nameT, te, einl, inls, efr]
          exact ⟨⟨i + 1, by omega⟩, by dsimp only; rw [b1], by dsimp only; omega⟩
        | true =>
          rw [c2] at b1 b3
          by_cases c3 : B < 0
          · rw [if_pos ⟨y1, rfl, .inl c3⟩] at b1
            simp (maxSteps := 1000000) (implicitDefEqProofs := false) only [hlt, w1, g3, g4, b3, b4, b5, c1, c3, encOffer, Int.natCast_nonneg, Int.toNat_natCast, Int.toNat_zero, Int.le_refl, evRegion_st hok, ss, sd, zH, qG, zF, zG, St.get, qE, qF, qB, zC, norm, look, zE, qA, qI, St.alloc, St.drop, zA, part, zB, depth, qD, ↓reduceIte, Nat.reduceBEq, Nat.reduceAdd, Nat.reduceSub, Nat.reduceMul, Nat.reduceEqDiff, Nat.reduceLeDiff, Nat.reduceLT, qJ, qK, qL, qM, qN, qO, qP, qQ, qR, zI, qS, qC, qT, evSlice0, qV, qW, qX, qY, qZ, zJ, zK, zL, wit, Option.isSome_some, qH, xJ, evPre, St.with, zD, Array.size, evLitX, evAppX, evCold, nameT, te, einl, inls, efr]
            exact ⟨⟨i + 1, by omega⟩, by dsimp only; rw [b1], by dsimp only; omega⟩
          · have d0 : B.toNat < l.length := by omega
            have d1 : l[B.toNat]? = some l[B.toNat] := List.getElem?_eq_getElem d0
            generalize l[B.toNat] = a' at *
            have d2 := offs_get (expand xs) l 0 B.toNat
            rw [d1, Option.map_some, Nat.zero_add] at d2
            have d3 : 0 ≤ B := by omega
            have d4 : B < (l.length : Int) := by omega
            have d5 : priceAt l B = a'.price := by unfold priceAt; rw [d1]
            rw [d5] at b1
            by_cases c4 : a'.price < a.price
            · rw [if_pos ⟨y1, rfl, .inr c4⟩] at b1
              simp (maxSteps := 1000000) (implicitDefEqProofs := false) only [hlt, w1, g3, g4, b3, b4, b5, c1, c3, c4, d2, d3, d4, encOffer, Int.natCast_nonneg, Int.toNat_natCast, Int.toNat_zero, Int.le_refl, evRegion_st hok, ss, sd, zH, qG, zF, zG, St.get, qE, qF, qB, zC, norm, look, zE, qA, qI, St.alloc, St.drop, zA, part, zB, depth, qD, ↓reduceIte, Nat.reduceBEq, Nat.reduceAdd, Nat.reduceSub, Nat.reduceMul, Nat.reduceEqDiff, Nat.reduceLeDiff, Nat.reduceLT, qJ, qK, qL, qM, qN, qO, qP, qQ, qR, zI, qS, qC, qT, evSlice0, qV, qW, qX, qY, qZ, zJ, zK, zL, wit, Option.isSome_some, qH, xJ, evPre, St.with, zD, Array.size, evLitX, evAppX, evCold, nameT, te, einl, inls, efr]
              exact ⟨⟨i + 1, by omega⟩, by dsimp only; rw [b1], by dsimp only; omega⟩
            · rw [if_neg (fun h => h.2.2.elim c3 c4)] at b1
              simp (maxSteps := 1000000) (implicitDefEqProofs := false) only [hlt, w1, g3, g4, b3, b4, b5, c1, c3, c4, d2, d3, d4, encOffer, Int.natCast_nonneg, Int.toNat_natCast, Int.toNat_zero, Int.le_refl, evRegion_st hok, ss, sd, zH, qG, zF, zG, St.get, qE, qF, qB, zC, norm, look, zE, qA, qI, St.alloc, St.drop, zA, part, zB, depth, qD, ↓reduceIte, Nat.reduceBEq, Nat.reduceAdd, Nat.reduceSub, Nat.reduceMul, Nat.reduceEqDiff, Nat.reduceLeDiff, Nat.reduceLT, qJ, qK, qL, qM, qN, qO, qP, qQ, qR, zI, qS, qC, qT, evSlice0, qV, qW, qX, qY, qZ, zJ, zK, zL, wit, Option.isSome_some, qH, xJ, evPre, St.with, zD, Array.size, evLitX, evAppX, evCold, nameT, te, einl, inls, efr]
              exact ⟨⟨i + 1, by omega⟩, by dsimp only; rw [b1], by dsimp only; omega⟩
    · obtain rfl : i = l.length := by omega
      simp (maxSteps := 1000000) (implicitDefEqProofs := false) only [hlt, g4, Try.ntmps22, Try.results22, efc22, fc22, ss, sd, zH, qG, zF, zG, St.get, qE, qF, qB, zC, norm, look, zE, qA, qI, St.alloc, St.drop, zA, part, zB, depth, qD, ↓reduceIte, Nat.reduceBEq, Nat.reduceAdd, Nat.reduceSub, Nat.reduceMul, Nat.reduceEqDiff, Nat.reduceLeDiff, Nat.reduceLT, qJ, qK, qL, qM, qN, qO, qP, qQ, qR, zI, qS, qC, qT, evSlice0, qV, qW, qX, qY, qZ, zJ, zK, zL, wit, Option.isSome_some, qH, xJ, evPre, St.with, zD, Array.size, evLitX, evAppX, evCold, nameT, te, einl, inls, efr]
  · unfold layV at k1
    rw [if_neg he] at k1
    unfold gradeR
    rw [if_neg he]
    have he' : (errM xs l != 0) = true := by simpa using he
    simp (maxSteps := 1000000) (implicitDefEqProofs := false) only [Try.ntmps22, Try.results22, efc22, fc22, k1, bench0, encG, he', List.map_nil, ss, sd, zH, qG, zF, zG, St.get, qE, qF, qB, zC, norm, look, zE, qA, qI, St.alloc, St.drop, zA, part, zB, depth, qD, ↓reduceIte, Nat.reduceBEq, Nat.reduceAdd, Nat.reduceSub, Nat.reduceMul, Nat.reduceEqDiff, Nat.reduceLeDiff, Nat.reduceLT, qJ, qK, qL, qM, qN, qO, qP, qQ, qR, zI, qS, qC, qT, evSlice0, qV, qW, qX, qY, qZ, zJ, zK, zL, wit, Option.isSome_some, qH, xJ, evPre, St.with, zD, Array.size, evLitX, evAppX, evCold, nameT, te, einl, inls, efr]

theorem okT23 : okCode (Try.f23.body.getD .skip) = true := by decide +kernel

set_option maxHeartbeats 8000000 in
theorem c23 (xs : List Run) (l : List Art) (hx : xs.length ≤ 100000) (hl : l.length ≤ 100000) : (orcω E X0).call 23 [.sl false (xs.map encRun), .sl false (l.map encArt)] = some (encG (gradeR xs l)) := by
  refine call_of rfl fn23 rfl ?_
  have hok := okT23
  simp only [Try.f23, Option.getD_some, okCode, Bool.and_eq_true, Bool.and_true, Bool.true_and] at hok
  have k1 := c52 xs l hx hl
  unfold marksM at k1
  by_cases he : errM xs l = 0
  · rw [if_pos he] at k1
    simp only [encMks] at k1
    unfold gradeR
    rw [if_pos he]
    obtain ⟨e1, e2, e3⟩ := errM_zero he
    have e4 := expand_len (valid_okay e1).1
    simp (maxSteps := 1000000) (implicitDefEqProofs := false) only [Try.ntmps23, Try.results23, efc23, fc23, k1, bne_self_eq_false, encG, ss, sd, zH, qG, zF, zG, St.get, qE, qF, qB, zC, norm, look, zE, qA, qI, St.alloc, St.drop, zA, part, zB, depth, qD, ↓reduceIte, Nat.reduceBEq, Nat.reduceAdd, Nat.reduceSub, Nat.reduceMul, Nat.reduceEqDiff, Nat.reduceLeDiff, Nat.reduceLT, qJ, qK, qL, qM, qN, qO, qP, qQ, qR, zI, qS, qC, qT, evSlice0, qV, qW, qX, qY, qZ, zJ, zK, zL, wit, Option.isSome_some, qH, xJ, evPre, St.with, zD, Array.size, evLitX, evAppX, evCold, nameT, te, einl, inls, efr]
    generalize hr : loopAt _ _ _ _ _ _ = r; revert r
    refine loop_inv (ι := { i : Nat // i ≤ l.length }) (fun i => [(9, .int .i64 (bestAt (expand xs) l i.1)), (10, .int .i64 i.1)]) (fun i => []) (fun i => l.length - i.1) ⟨0, by omega⟩ (by simp (maxSteps := 1000000) (implicitDefEqProofs := false) only [bestAt, ss, sd, zH, qG, zF, zG, St.get, qE, qF, qB, zC, norm, look, zE, qA, qI, St.alloc, St.drop, zA, part, zB, depth, qD, ↓reduceIte, Nat.reduceBEq, Nat.reduceAdd, Nat.reduceSub, Nat.reduceMul, Nat.reduceEqDiff, Nat.reduceLeDiff, Nat.reduceLT, qJ, qK, qL, qM, qN, qO, qP, qQ, qR, zI, qS, qC, qT, evSlice0, qV, qW, qX, qY, qZ, zJ, zK, zL, wit, Option.isSome_some, qH, xJ, evPre, St.with, zD, Array.size, evLitX, evAppX, evCold, nameT, te, einl, inls, efr]) ?_
    rintro ⟨i, hi⟩
    dsimp only
    have w1 : IntKind.i64.wrap ((i : Int) + 1) = ((i + 1 : Nat) : Int) := by rw [wrap_in (by omega)]; omega
    by_cases hlt : (i : Int) < (l.length : Int)
    · have g0 : i < l.length := by omega
      have g1 : l[i]? = some l[i] := List.getElem?_eq_getElem g0
      have g2 := (validA_len e3).2 l[i] (List.getElem_mem g0)
      generalize l[i] = a at *
      have b1 := bestAt_some (ms := expand xs) g1
      have b2 := bestAt_in (expand xs) l i
      have k2 := c53 (expand xs) l 0 i (by omega) e3
      rw [fitsM_some (by omega) g1] at k2
      generalize hB : bestAt (expand xs) l i = B at *
      cases c1 : (a.len == ((expand xs).length : Int)) with
      | false =>
        have n1 : ¬ a.len = ((expand xs).length : Int) := by simpa using c1
        rw [if_neg (fun h => n1 h.1)] at b1
        simp (maxSteps := 1000000) (implicitDefEqProofs := false) only [hlt, w1, g1, k2, c1, encArt, Int.natCast_nonneg, Int.toNat_natCast, List.getElem?_map, evRegion_st hok, ss, sd, zH, qG, zF, zG, St.get, qE, qF, qB, zC, norm, look, zE, qA, qI, St.alloc, St.drop, zA, part, zB, depth, qD, ↓reduceIte, Nat.reduceBEq, Nat.reduceAdd, Nat.reduceSub, Nat.reduceMul, Nat.reduceEqDiff, Nat.reduceLeDiff, Nat.reduceLT, qJ, qK, qL, qM, qN, qO, qP, qQ, qR, zI, qS, qC, qT, evSlice0, qV, qW, qX, qY, qZ, zJ, zK, zL, wit, Option.isSome_some, qH, xJ, evPre, St.with, zD, Array.size, evLitX, evAppX, evCold, nameT, te, einl, inls, efr]
        exact ⟨⟨i + 1, by omega⟩, by dsimp only; rw [b1], by dsimp only; omega⟩
      | true =>
        have y1 : a.len = ((expand xs).length : Int) := by simpa using c1
        cases c2 : fitA (expand xs) a 0 with
        | false =>
          rw [c2] at b1 k2
          rw [if_neg (fun h => by cases h.2.1)] at b1
          simp (maxSteps := 1000000) (implicitDefEqProofs := false) only [hlt, w1, g1, k2, c1, encArt, Int.natCast_nonneg, Int.toNat_natCast, List.getElem?_map, evRegion_st hok, ss, sd, zH, qG, zF, zG, St.get, qE, qF, qB, zC, norm, look, zE, qA, qI, St.alloc, St.drop, zA, part, zB, depth, qD, ↓reduceIte, Nat.reduceBEq, Nat.reduceAdd, Nat.reduceSub, Nat.reduceMul, Nat.reduceEqDiff, Nat.reduceLeDiff, Nat.reduceLT, qJ, qK, qL, qM, qN, qO, qP, qQ, qR, zI, qS, qC, qT, evSlice0, qV, qW, qX, qY, qZ, zJ, zK, zL, wit, Option.isSome_some, qH, xJ, evPre, St.with, zD, Array.size, evLitX, evAppX, evCold, nameT, te, einl, inls, efr]
          exact ⟨⟨i + 1, by omega⟩, by dsimp only; rw [b1], by dsimp only; omega⟩
        | true =>
          rw [c2] at b1 k2
          by_cases c3 : B < 0
          · rw [if_pos ⟨y1, rfl, .inl c3⟩] at b1
            simp (maxSteps := 1000000) (implicitDefEqProofs := false) only [hlt, w1, g1, k2, c1, c3, encArt, Int.natCast_nonneg, Int.toNat_natCast, List.getElem?_map, evRegion_st hok, ss, sd, zH, qG, zF, zG, St.get, qE, qF, qB, zC, norm, look, zE, qA, qI, St.alloc, St.drop, zA, part, zB, depth, qD, ↓reduceIte, Nat.reduceBEq, Nat.reduceAdd, Nat.reduceSub, Nat.reduceMul, Nat.reduceEqDiff, Nat.reduceLeDiff, Nat.reduceLT, qJ, qK, qL, qM, qN, qO, qP, qQ, qR, zI, qS, qC, qT, evSlice0, qV, qW, qX, qY, qZ, zJ, zK, zL, wit, Option.isSome_some, qH, xJ, evPre, St.with, zD, Array.size, evLitX, evAppX, evCold, nameT, te, einl, inls, efr]
            exact ⟨⟨i + 1, by omega⟩, by dsimp only; rw [b1], by dsimp only; omega⟩
          · have d0 : B.toNat < l.length := by omega
            have d1 : l[B.toNat]? = some l[B.toNat] := List.getElem?_eq_getElem d0
            generalize l[B.toNat] = a' at *
            have d3 : 0 ≤ B := by omega
            have d4 : B < (l.length : Int) := by omega
            have d5 : priceAt l B = a'.price := by unfold priceAt; rw [d1]
            rw [d5] at b1
            by_cases c4 : a'.price < a.price
            · rw [if_pos ⟨y1, rfl, .inr c4⟩] at b1
              simp (maxSteps := 1000000) (implicitDefEqProofs := false) only [hlt, w1, g1, k2, c1, c3, c4, d1, d3, d4, encArt, Int.natCast_nonneg, Int.toNat_natCast, List.getElem?_map, evRegion_st hok, ss, sd, zH, qG, zF, zG, St.get, qE, qF, qB, zC, norm, look, zE, qA, qI, St.alloc, St.drop, zA, part, zB, depth, qD, ↓reduceIte, Nat.reduceBEq, Nat.reduceAdd, Nat.reduceSub, Nat.reduceMul, Nat.reduceEqDiff, Nat.reduceLeDiff, Nat.reduceLT, qJ, qK, qL, qM, qN, qO, qP, qQ, qR, zI, qS, qC, qT, evSlice0, qV, qW, qX, qY, qZ, zJ, zK, zL, wit, Option.isSome_some, qH, xJ, evPre, St.with, zD, Array.size, evLitX, evAppX, evCold, nameT, te, einl, inls, efr]
              exact ⟨⟨i + 1, by omega⟩, by dsimp only; rw [b1], by dsimp only; omega⟩
            · rw [if_neg (fun h => h.2.2.elim c3 c4)] at b1
              simp (maxSteps := 1000000) (implicitDefEqProofs := false) only [hlt, w1, g1, k2, c1, c3, c4, d1, d3, d4, encArt, Int.natCast_nonneg, Int.toNat_natCast, List.getElem?_map, evRegion_st hok, ss, sd, zH, qG, zF, zG, St.get, qE, qF, qB, zC, norm, look, zE, qA, qI, St.alloc, St.drop, zA, part, zB, depth, qD, ↓reduceIte, Nat.reduceBEq, Nat.reduceAdd, Nat.reduceSub, Nat.reduceMul, Nat.reduceEqDiff, Nat.reduceLeDiff, Nat.reduceLT, qJ, qK, qL, qM, qN, qO, qP, qQ, qR, zI, qS, qC, qT, evSlice0, qV, qW, qX, qY, qZ, zJ, zK, zL, wit, Option.isSome_some, qH, xJ, evPre, St.with, zD, Array.size, evLitX, evAppX, evCold, nameT, te, einl, inls, efr]
              exact ⟨⟨i + 1, by omega⟩, by dsimp only; rw [b1], by dsimp only; omega⟩
    · obtain rfl : i = l.length := by omega
      by_cases c3 : bestAt (expand xs) l l.length < 0
      · simp (maxSteps := 1000000) (implicitDefEqProofs := false) only [hlt, c3, Try.ntmps23, Try.results23, efc23, fc23, ss, sd, zH, qG, zF, zG, St.get, qE, qF, qB, zC, norm, look, zE, qA, qI, St.alloc, St.drop, zA, part, zB, depth, qD, ↓reduceIte, Nat.reduceBEq, Nat.reduceAdd, Nat.reduceSub, Nat.reduceMul, Nat.reduceEqDiff, Nat.reduceLeDiff, Nat.reduceLT, qJ, qK, qL, qM, qN, qO, qP, qQ, qR, zI, qS, qC, qT, evSlice0, qV, qW, qX, qY, qZ, zJ, zK, zL, wit, Option.isSome_some, qH, xJ, evPre, St.with, zD, Array.size, evLitX, evAppX, evCold, nameT, te, einl, inls, efr]
        rw [show max (bestAt (expand xs) l l.length) 0 = 0 by omega, decide_eq_false (by omega)]
      · simp (maxSteps := 1000000) (implicitDefEqProofs := false) only [hlt, c3, Try.ntmps23, Try.results23, efc23, fc23, ss, sd, zH, qG, zF, zG, St.get, qE, qF, qB, zC, norm, look, zE, qA, qI, St.alloc, St.drop, zA, part, zB, depth, qD, ↓reduceIte, Nat.reduceBEq, Nat.reduceAdd, Nat.reduceSub, Nat.reduceMul, Nat.reduceEqDiff, Nat.reduceLeDiff, Nat.reduceLT, qJ, qK, qL, qM, qN, qO, qP, qQ, qR, zI, qS, qC, qT, evSlice0, qV, qW, qX, qY, qZ, zJ, zK, zL, wit, Option.isSome_some, qH, xJ, evPre, St.with, zD, Array.size, evLitX, evAppX, evCold, nameT, te, einl, inls, efr]
        rw [show max (bestAt (expand xs) l l.length) 0 = bestAt (expand xs) l l.length by omega, decide_eq_true (by omega)]
  · rw [if_neg he] at k1
    simp only [encMks] at k1
    unfold gradeR
    rw [if_neg he]
    have he' : (errM xs l != 0) = true := by simpa using he
    simp (maxSteps := 1000000) (implicitDefEqProofs := false) only [Try.ntmps23, Try.results23, efc23, fc23, k1, encG, he', List.map_nil, ss, sd, zH, qG, zF, zG, St.get, qE, qF, qB, zC, norm, look, zE, qA, qI, St.alloc, St.drop, zA, part, zB, depth, qD, ↓reduceIte, Nat.reduceBEq, Nat.reduceAdd, Nat.reduceSub, Nat.reduceMul, Nat.reduceEqDiff, Nat.reduceLeDiff, Nat.reduceLT, qJ, qK, qL, qM, qN, qO, qP, qQ, qR, zI, qS, qC, qT, evSlice0, qV, qW, qX, qY, qZ, zJ, zK, zL, wit, Option.isSome_some, qH, xJ, evPre, St.with, zD, Array.size, evLitX, evAppX, evCold, nameT, te, einl, inls, efr]

theorem c4 (xs : List Run) (l : List Art) : (orcω E X0).call 4 [.sl false (xs.map encRun), .sl false (l.map encArt)] = some (.bool true) := by
  refine call_of rfl fn4 rfl ?_
  have k1 := c16 xs l false []
  cases hlong : long xs l 0 with
  | true =>
    rw [List.length_nil, hlong] at k1
    simp (maxSteps := 1000000) (implicitDefEqProofs := false) only [Try.ntmps4, Try.results4, efc4, k1, c17, ss, sd, zH, qG, zF, zG, St.get, qE, qF, qB, zC, norm, look, zE, qA, qI, St.alloc, St.drop, zA, part, zB, depth, qD, ↓reduceIte, Nat.reduceBEq, Nat.reduceAdd, Nat.reduceSub, Nat.reduceMul, Nat.reduceEqDiff, Nat.reduceLeDiff, Nat.reduceLT, qJ, qK, qL, qM, qN, qO, qP, qQ, qR, zI, qS, qC, qT, evSlice0, qV, qW, qX, qY, qZ, zJ, zK, zL, wit, Option.isSome_some, qH, xJ, evPre, St.with, zD, Array.size, evLitX, evAppX, evCold, nameT, te, einl, inls, efr]
  | false =>
    rw [List.length_nil, hlong] at k1
    unfold long at hlong
    simp only [Bool.or_eq_false_iff, decide_eq_false_iff_not] at hlong
    have k2 := c22 xs l (by omega) (by omega)
    have k3 := c23 xs l (by omega) (by omega)
    generalize gradeR xs l = R at *
    obtain ⟨n, b, e⟩ := R
    simp only [encG] at k2 k3
    have hb : (b == b) = true := by simp
    simp (maxSteps := 1000000) (implicitDefEqProofs := false) only [Try.ntmps4, Try.results4, efc4, k1, k2, k3, c17, hb, beq_self_eq_true, ss, sd, zH, qG, zF, zG, St.get, qE, qF, qB, zC, norm, look, zE, qA, qI, St.alloc, St.drop, zA, part, zB, depth, qD, ↓reduceIte, Nat.reduceBEq, Nat.reduceAdd, Nat.reduceSub, Nat.reduceMul, Nat.reduceEqDiff, Nat.reduceLeDiff, Nat.reduceLT, qJ, qK, qL, qM, qN, qO, qP, qQ, qR, zI, qS, qC, qT, evSlice0, qV, qW, qX, qY, qZ, zJ, zK, zL, wit, Option.isSome_some, qH, xJ, evPre, St.with, zD, Array.size, evLitX, evAppX, evCold, nameT, te, einl, inls, efr]

end Go.AM.C

