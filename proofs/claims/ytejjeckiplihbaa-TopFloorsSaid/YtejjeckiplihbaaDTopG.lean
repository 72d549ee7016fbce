/- A part of the proof: the texts DTopP, DTop, DTopF, one after another. No condition. -/
import Derived.Test.YtejjeckiplihbaaDPlaneP
import Derived.Test.YtejjeckiplihbaaDLbG
import Derived.Test.YtejjeckiplihbaaDUsed
import Derived.Test.YtejjeckiplihbaaDCovers
import Derived.Test.YtejjeckiplihbaaDLayV
import Derived.Test.YtejjeckiplihbaaDOptG
import Derived.Test.YtejjeckiplihbaaDMemG
set_option linter.unusedSimpArgs false
set_option maxRecDepth 20000

section
/-
The laid floor: one error at all cells, or the colours of the plane (plain).
-/
namespace Go.AM.D
open Go

/-- The colour of a laid cell is that of the plane. -/
theorem laid_match {p : Pat} (hp : patE p = 0) {r : Room} {w o : Int} (hd : dividedE r w o = 0) {j : Job} (hss : j.ss = stripsV r w o) (hje : jobE j = 0) {l : List Cut} {n : Nat} (hf : fewM j = some (l, n)) {x y : Nat} (hx : x < 60) (hy : y < 60) (hc : cellM r.rects x y = true) (hm : w.tmod (leastW p : Nat) = 0 ∧ j.rep.tmod (roundN (leastW p) (leastS p) (leastH p) : Nat) = 0) :
    ∃ a, laidV p w j l x y = .tup [.int .i64 a, .int .i64 0] ∧ atV p (x - o) y = .tup [.int .i64 a, .int .i64 0] := by
  have hpo := patE_ok hp
  obtain ⟨h1, h2, h3, h4⟩ := dividedE_zero hd
  obtain ⟨hacc, _⟩ := accept hje hf
  have hfit := checkM_zero hacc
  obtain ⟨hj, hjo⟩ := jobE_zero hje
  have hchk : checkL j l = 0 := by
    unfold checkM at hacc
    rw [if_pos hje] at hacc
    exact hacc
  unfold laidV
  rw [if_neg (by omega), if_neg (by omega), if_neg (by rw [inB_iff.2 (by omega)]; simp)]
  rw [if_neg (fun h => h hm), if_neg (by omega)]
  have hcov := covers_strips (cells_inside (roomE_all h1)) (w := w) (o := o) h2.1 h2.2 h3 h4
  unfold coversM at hcov
  have hcv := List.all_eq_true.1 (List.all_eq_true.1 hcov x (List.mem_range.2 hx)) y (List.mem_range.2 hy)
  rw [hc] at hcv
  simp only [Bool.not_true, Bool.false_or, decide_eq_true_eq] at hcv
  have hsv : stripsV r w o = stripsM (cellM r.rects) w o := if_pos hd
  rw [← hsv, ← hss] at hcv
  have hex : ∃ s ∈ j.ss, lies w x y s = true := by
    have : 0 < j.ss.countP (lies w x y) := by omega
    exact List.countP_pos_iff.1 this
  obtain ⟨m, s, c, gs, hl, hcm, hcs, hgo⟩ := laidGo_find p j w x y l (fun i hi => fit_all hfit hi) j.ss 0 rfl hex
  rw [hgo]
  unfold laidCut
  have hly := lies_iff.1 hl
  obtain ⟨pre, ho⟩ := fit_one hfit hcm
  have hst : stripOf j c = s := by
    rw [strip_idx hcs]
    unfold stripI
    exact getD_of gs
  have hph := ho.phased
  rw [hst] at hph
  have hrep := hj.rep
  have hsm : s ∈ stripsM (cellM r.rects) w o := by rw [← hsv, ← hss]; exact List.mem_of_getElem? gs
  obtain ⟨k, hk⟩ := strips_x hsm
  obtain ⟨u, hu⟩ := Int.dvd_of_tmod_eq_zero hm.1
  obtain ⟨v, hv⟩ := Int.dvd_of_tmod_eq_zero hm.2
  have hrow : ((rollOf j c).ph + c.a + y - s.a) % j.rep = (y : Int) % j.rep := by
    have hd0 : ((rollOf j c).ph + c.a - s.a) % j.rep = 0 := Int.emod_eq_emod_iff_emod_sub_eq_zero.1 hph
    obtain ⟨q, hq⟩ := Int.dvd_of_emod_eq_zero hd0
    rw [show (rollOf j c).ph + c.a + (y : Int) - s.a = y + j.rep * q by omega, Int.add_mul_emod_self_left]
  rw [hrow]
  have ey := Int.mul_ediv_add_emod (y : Int) j.rep
  have y1 := Int.emod_nonneg (y : Int) (show j.rep ≠ 0 by omega)
  have y2 := Int.emod_lt_of_pos (y : Int) (show 0 < j.rep by omega)
  have hcol : colP p ((x : Int) - s.x) ((y : Int) % j.rep) = colP p ((x : Int) - o) y := by
    have p1 := (per_wide hpo).int (-(k * u))
    have p2 := (per_round hpo).int (-(v * ((y : Int) / j.rep)))
    have p3 := p1.add p2
    have := p3 ((x : Int) - o) y
    rw [Int.mul_zero, Int.mul_zero, Int.add_zero, Int.zero_add] at this
    rw [← this]
    congr 1
    · rw [hk, hu, Int.neg_mul, show k * ((leastW p : Nat) * u) = k * u * (leastW p : Nat) by rw [Int.mul_comm ((leastW p : Nat) : Int) u, Int.mul_assoc]]
      omega
    · have e3 : v * ((y : Int) / j.rep) * (roundN (leastW p) (leastS p) (leastH p) : Nat) = j.rep * ((y : Int) / j.rep) := by
        rw [Int.mul_right_comm, Int.mul_comm v, ← hv]
      rw [Int.neg_mul, e3]
      omega
  refine ⟨colP p ((x : Int) - o) y, ?_, ?_⟩
  · have hn : (nearP ((x : Int) - s.x) && nearP ((y : Int) % j.rep)) = true := by
      rw [Bool.and_eq_true, nearP_iff, nearP_iff]
      omega
    unfold atV atP
    rw [if_pos hp, if_pos hn, hcol]
  · have hn : (nearP ((x : Int) - o) && nearP (y : Int)) = true := by
      rw [Bool.and_eq_true, nearP_iff, nearP_iff]
      omega
    unfold atV atP
    rw [if_pos hp, if_pos hn]

theorem laid_either (p : Pat) {r : Room} {w o : Int} (hd : dividedE r w o = 0) {j : Job} (hss : j.ss = stripsV r w o) (hje : jobE j = 0) {l : List Cut} {n : Nat} (hf : fewM j = some (l, n)) :
    (∃ c : Int, (c = 13 ∨ c = 1 ∨ c = 4) ∧ ∀ x y, laidV p w j l x y = .tup [.int .i64 0, .int .i64 c]) ∨
    ∀ x y : Nat, x < 60 → y < 60 → cellM r.rects x y = true → ∃ a, laidV p w j l x y = .tup [.int .i64 a, .int .i64 0] ∧ atV p (x - o) y = .tup [.int .i64 a, .int .i64 0] := by
  by_cases hp : patE p = 0
  rotate_left
  · left
    refine ⟨patE p, ?_, fun x y => ?_⟩
    · unfold patE at *
      repeat' split
      all_goals simp_all
    · unfold laidV
      rw [if_pos hp]
  by_cases hm : w.tmod (leastW p : Nat) = 0 ∧ j.rep.tmod (roundN (leastW p) (leastS p) (leastH p) : Nat) = 0
  · right
    exact fun x y hx hy hc => laid_match hp hd hss hje hf hx hy hc hm
  · left
    obtain ⟨h1, h2, h3, h4⟩ := dividedE_zero hd
    refine ⟨13, .inl rfl, fun x y => ?_⟩
    unfold laidV
    rw [if_neg (by omega), if_neg (by omega), if_neg (by rw [inB_iff.2 (by omega)]; simp), if_pos hm]
end Go.AM.D
end

section
/-
TopFloors: the laid floor has the pattern of the plane at every cell.
-/
namespace Go.AM.D
open Go Go.AM Go.Proofs

set_option maxRecDepth 20000 in
set_option maxHeartbeats 16000000 in
theorem c57 (r : Room) (l : Lay) (j : Job) (cuts : List Cut) (o : Int) (hr : r.rects.length ≤ 8) (hd : r.doors.length ≤ 4) (hp : l.p.cs.length ≤ 144) (hcl : cuts.length ≤ 6) (hroom : roomE r = 0) (ho : 0 ≤ o ∧ o < 20)
    (hlaid : (∃ c : Int, (c = 13 ∨ c = 1 ∨ c = 4) ∧ ∀ x y, laidV l.p l.w j cuts x y = .tup [.int .i64 0, .int .i64 c]) ∨
      ∀ x y : Nat, x < 60 → y < 60 → cellM r.rects x y = true → ∃ a, laidV l.p l.w j cuts x y = .tup [.int .i64 a, .int .i64 0] ∧ atV l.p (x - o) y = .tup [.int .i64 a, .int .i64 0]) :
    (orcω E X0).call 57 [encRoom r, encLay l, encJob j, .sl false (cuts.map encCut), .int .i64 o] = some (.bool true) := by
  refine call_of rfl fn57 rfl ?_
  have k1 := fun x y => c24 r x y (by omega) (by omega)
  have k2 := fun (x : Nat) (hx : x < 60) y => c38 l.p l.w j cuts x y (by omega) (by omega) (by omega)
  have k3 := fun x y => c44 l.p x y (by omega)
  have hhas : ∀ x y, hasR r x y = cellM r.rects x y := fun x y => by unfold hasR; rw [hroom]; simp
  simp only [hhas, hroom] at k1
  obtain ⟨p, w, j0, cuts0⟩ := l
  dsimp only at *
  unfold encLay encRoom encPat encJob at *
  simp (maxSteps := 1000000) (implicitDefEqProofs := false) only [Try.ntmps57, Try.results57, efc57, fc57, ss, sd, evOp, evPlain, evVal, evMem, St.get, sliceOf, arrayOf, fieldsOf, normOf, norm, look, evVar, evFieldAddr, nameOf, St.alloc, St.drop, killOb, part, splice, depth, resultsV, ↓reduceIte, Nat.reduceBEq, Nat.reduceAdd, Nat.reduceSub, Nat.reduceMul, Nat.reduceEqDiff, Nat.reduceLeDiff, Nat.reduceLT, effOf, effMem, effVar, effLit, effMake, effApp, lend, evLit, evNil, freeze, evField, evIndexT, orNil, evSlice, placeOf, evMap, mapOf, keyOk, evFrame, closed, fixed, sameEs, wit, Option.isSome_some, St.with, wantedD, Array.size, te, einl, inls, efr]
  generalize hr : loopAt _ _ _ _ _ _ = r; revert r
  rcases hlaid with ⟨e, he, hl⟩ | hl
  · refine loop_inv (ι := { y : Nat // y ≤ 60 }) (fun y => [(12, .int .i64 (y.1 : Nat))]) (fun _ => []) (fun y => 60 - y.1) ⟨0, by omega⟩ (by simp (maxSteps := 1000000) (implicitDefEqProofs := false) only [Int.natCast_zero, ss, sd, evOp, evPlain, evVal, evMem, St.get, sliceOf, arrayOf, fieldsOf, normOf, norm, look, evVar, evFieldAddr, nameOf, St.alloc, St.drop, killOb, part, splice, depth, resultsV, ↓reduceIte, Nat.reduceBEq, Nat.reduceAdd, Nat.reduceSub, Nat.reduceMul, Nat.reduceEqDiff, Nat.reduceLeDiff, Nat.reduceLT, effOf, effMem, effVar, effLit, effMake, effApp, lend, evLit, evNil, freeze, evField, evIndexT, orNil, evSlice, placeOf, evMap, mapOf, keyOk, evFrame, closed, fixed, sameEs, wit, Option.isSome_some, St.with, wantedD, Array.size, te, einl, inls, efr]) ?_
    rintro ⟨y, hy⟩
    dsimp only
    by_cases y60 : y < 60
    rotate_left
    · have yn : ¬ (y : Int) < 60 := by omega
      simp (maxSteps := 1000000) (implicitDefEqProofs := false) only [yn, Try.ntmps57, Try.results57, efc57, fc57, ss, sd, evOp, evPlain, evVal, evMem, St.get, sliceOf, arrayOf, fieldsOf, normOf, norm, look, evVar, evFieldAddr, nameOf, St.alloc, St.drop, killOb, part, splice, depth, resultsV, ↓reduceIte, Nat.reduceBEq, Nat.reduceAdd, Nat.reduceSub, Nat.reduceMul, Nat.reduceEqDiff, Nat.reduceLeDiff, Nat.reduceLT, effOf, effMem, effVar, effLit, effMake, effApp, lend, evLit, evNil, freeze, evField, evIndexT, orNil, evSlice, placeOf, evMap, mapOf, keyOk, evFrame, closed, fixed, sameEs, wit, Option.isSome_some, St.with, wantedD, Array.size, te, einl, inls, efr]
    have yn : (y : Int) < 60 := by omega
    have w1 : IntKind.i64.wrap ((y : Int) + 1) = ((y + 1 : Nat) : Int) := by rw [wrap_in (by omega)]; omega
    simp (maxSteps := 1000000) (implicitDefEqProofs := false) only [yn, ss, sd, evOp, evPlain, evVal, evMem, St.get, sliceOf, arrayOf, fieldsOf, normOf, norm, look, evVar, evFieldAddr, nameOf, St.alloc, St.drop, killOb, part, splice, depth, resultsV, ↓reduceIte, Nat.reduceBEq, Nat.reduceAdd, Nat.reduceSub, Nat.reduceMul, Nat.reduceEqDiff, Nat.reduceLeDiff, Nat.reduceLT, effOf, effMem, effVar, effLit, effMake, effApp, lend, evLit, evNil, freeze, evField, evIndexT, orNil, evSlice, placeOf, evMap, mapOf, keyOk, evFrame, closed, fixed, sameEs, wit, Option.isSome_some, St.with, wantedD, Array.size, te, einl, inls, efr]
    generalize hr : loopAt _ _ _ _ _ _ = r; revert r
    refine loop_inv (ι := { x : Nat // x ≤ 60 }) (fun x => [(13, .int .i64 (x.1 : Nat))]) (fun _ => []) (fun x => 60 - x.1) ⟨0, by omega⟩ (by simp (maxSteps := 1000000) (implicitDefEqProofs := false) only [Int.natCast_zero, ss, sd, evOp, evPlain, evVal, evMem, St.get, sliceOf, arrayOf, fieldsOf, normOf, norm, look, evVar, evFieldAddr, nameOf, St.alloc, St.drop, killOb, part, splice, depth, resultsV, ↓reduceIte, Nat.reduceBEq, Nat.reduceAdd, Nat.reduceSub, Nat.reduceMul, Nat.reduceEqDiff, Nat.reduceLeDiff, Nat.reduceLT, effOf, effMem, effVar, effLit, effMake, effApp, lend, evLit, evNil, freeze, evField, evIndexT, orNil, evSlice, placeOf, evMap, mapOf, keyOk, evFrame, closed, fixed, sameEs, wit, Option.isSome_some, St.with, wantedD, Array.size, te, einl, inls, efr]) ?_
    rintro ⟨x, hx⟩
    dsimp only
    have c0 : (0 : Int) < 400 := by decide
    by_cases x60 : x < 60
    rotate_left
    · have xn : ¬ (x : Int) < 60 := by omega
      simp (maxSteps := 1000000) (implicitDefEqProofs := false) only [xn, w1, ss, sd, evOp, evPlain, evVal, evMem, St.get, sliceOf, arrayOf, fieldsOf, normOf, norm, look, evVar, evFieldAddr, nameOf, St.alloc, St.drop, killOb, part, splice, depth, resultsV, ↓reduceIte, Nat.reduceBEq, Nat.reduceAdd, Nat.reduceSub, Nat.reduceMul, Nat.reduceEqDiff, Nat.reduceLeDiff, Nat.reduceLT, effOf, effMem, effVar, effLit, effMake, effApp, lend, evLit, evNil, freeze, evField, evIndexT, orNil, evSlice, placeOf, evMap, mapOf, keyOk, evFrame, closed, fixed, sameEs, wit, Option.isSome_some, St.with, wantedD, Array.size, te, einl, inls, efr]
      exact ⟨⟨y + 1, by omega⟩, by first | rfl | simp, by dsimp only; omega⟩
    have xn : (x : Int) < 60 := by omega
    have w3 : IntKind.i64.wrap ((x : Int) + 1) = ((x + 1 : Nat) : Int) := by rw [wrap_in (by omega)]; omega
    have w4 : IntKind.i64.wrap (0 + 1) = 1 := by decide
    have k1 := k1 x y
    have k2 := k2 x x60 y
    rw [hl] at k2
    cases hc : cellM r.rects (x : Int) (y : Int) with
    | false =>
      rw [hc] at k1
      simp (maxSteps := 1000000) (implicitDefEqProofs := false) only [xn, c0, k1, w3, bne_self_eq_false, ss, sd, evOp, evPlain, evVal, evMem, St.get, sliceOf, arrayOf, fieldsOf, normOf, norm, look, evVar, evFieldAddr, nameOf, St.alloc, St.drop, killOb, part, splice, depth, resultsV, ↓reduceIte, Nat.reduceBEq, Nat.reduceAdd, Nat.reduceSub, Nat.reduceMul, Nat.reduceEqDiff, Nat.reduceLeDiff, Nat.reduceLT, effOf, effMem, effVar, effLit, effMake, effApp, lend, evLit, evNil, freeze, evField, evIndexT, orNil, evSlice, placeOf, evMap, mapOf, keyOk, evFrame, closed, fixed, sameEs, wit, Option.isSome_some, St.with, wantedD, Array.size, te, einl, inls, efr]
      exact ⟨⟨x + 1, by omega⟩, by first | rfl | simp, by dsimp only; omega⟩
    | true =>
      rw [hc] at k1
      have q1 : ((1 : Int) == 13) = false := rfl
      have q2 : ((4 : Int) == 13) = false := rfl
      have q3 : ((4 : Int) == 1) = false := rfl
      rcases he with rfl | rfl | rfl
      · simp (maxSteps := 1000000) (implicitDefEqProofs := false) only [xn, c0, k1, k2, w4, bne_self_eq_false, beq_self_eq_true, Try.ntmps57, Try.results57, efc57, fc57, ss, sd, evOp, evPlain, evVal, evMem, St.get, sliceOf, arrayOf, fieldsOf, normOf, norm, look, evVar, evFieldAddr, nameOf, St.alloc, St.drop, killOb, part, splice, depth, resultsV, ↓reduceIte, Nat.reduceBEq, Nat.reduceAdd, Nat.reduceSub, Nat.reduceMul, Nat.reduceEqDiff, Nat.reduceLeDiff, Nat.reduceLT, effOf, effMem, effVar, effLit, effMake, effApp, lend, evLit, evNil, freeze, evField, evIndexT, orNil, evSlice, placeOf, evMap, mapOf, keyOk, evFrame, closed, fixed, sameEs, wit, Option.isSome_some, St.with, wantedD, Array.size, te, einl, inls, efr]
      · simp (maxSteps := 1000000) (implicitDefEqProofs := false) only [xn, c0, k1, k2, w4, q1, bne_self_eq_false, beq_self_eq_true, Try.ntmps57, Try.results57, efc57, fc57, ss, sd, evOp, evPlain, evVal, evMem, St.get, sliceOf, arrayOf, fieldsOf, normOf, norm, look, evVar, evFieldAddr, nameOf, St.alloc, St.drop, killOb, part, splice, depth, resultsV, ↓reduceIte, Nat.reduceBEq, Nat.reduceAdd, Nat.reduceSub, Nat.reduceMul, Nat.reduceEqDiff, Nat.reduceLeDiff, Nat.reduceLT, effOf, effMem, effVar, effLit, effMake, effApp, lend, evLit, evNil, freeze, evField, evIndexT, orNil, evSlice, placeOf, evMap, mapOf, keyOk, evFrame, closed, fixed, sameEs, wit, Option.isSome_some, St.with, wantedD, Array.size, te, einl, inls, efr]
      · simp (maxSteps := 1000000) (implicitDefEqProofs := false) only [xn, c0, k1, k2, w4, q2, q3, bne_self_eq_false, beq_self_eq_true, Try.ntmps57, Try.results57, efc57, fc57, ss, sd, evOp, evPlain, evVal, evMem, St.get, sliceOf, arrayOf, fieldsOf, normOf, norm, look, evVar, evFieldAddr, nameOf, St.alloc, St.drop, killOb, part, splice, depth, resultsV, ↓reduceIte, Nat.reduceBEq, Nat.reduceAdd, Nat.reduceSub, Nat.reduceMul, Nat.reduceEqDiff, Nat.reduceLeDiff, Nat.reduceLT, effOf, effMem, effVar, effLit, effMake, effApp, lend, evLit, evNil, freeze, evField, evIndexT, orNil, evSlice, placeOf, evMap, mapOf, keyOk, evFrame, closed, fixed, sameEs, wit, Option.isSome_some, St.with, wantedD, Array.size, te, einl, inls, efr]
  · refine loop_inv (ι := { q : Nat × Nat // q.1 ≤ 60 ∧ q.2 ≤ 400 }) (fun q => [(11, .int .i64 (q.1.2 : Nat)), (12, .int .i64 (q.1.1 : Nat))]) (fun _ => []) (fun q => 60 - q.1.1) ⟨(0, 0), by omega, by omega⟩ (by simp (maxSteps := 1000000) (implicitDefEqProofs := false) only [Int.natCast_zero, ss, sd, evOp, evPlain, evVal, evMem, St.get, sliceOf, arrayOf, fieldsOf, normOf, norm, look, evVar, evFieldAddr, nameOf, St.alloc, St.drop, killOb, part, splice, depth, resultsV, ↓reduceIte, Nat.reduceBEq, Nat.reduceAdd, Nat.reduceSub, Nat.reduceMul, Nat.reduceEqDiff, Nat.reduceLeDiff, Nat.reduceLT, effOf, effMem, effVar, effLit, effMake, effApp, lend, evLit, evNil, freeze, evField, evIndexT, orNil, evSlice, placeOf, evMap, mapOf, keyOk, evFrame, closed, fixed, sameEs, wit, Option.isSome_some, St.with, wantedD, Array.size, te, einl, inls, efr]) ?_
    rintro ⟨⟨y, c⟩, hy, hc⟩
    dsimp only at hy hc ⊢
    by_cases y60 : y < 60
    rotate_left
    · have yn : ¬ (y : Int) < 60 := by omega
      simp (maxSteps := 1000000) (implicitDefEqProofs := false) only [yn, Try.ntmps57, Try.results57, efc57, fc57, ss, sd, evOp, evPlain, evVal, evMem, St.get, sliceOf, arrayOf, fieldsOf, normOf, norm, look, evVar, evFieldAddr, nameOf, St.alloc, St.drop, killOb, part, splice, depth, resultsV, ↓reduceIte, Nat.reduceBEq, Nat.reduceAdd, Nat.reduceSub, Nat.reduceMul, Nat.reduceEqDiff, Nat.reduceLeDiff, Nat.reduceLT, effOf, effMem, effVar, effLit, effMake, effApp, lend, evLit, evNil, freeze, evField, evIndexT, orNil, evSlice, placeOf, evMap, mapOf, keyOk, evFrame, closed, fixed, sameEs, wit, Option.isSome_some, St.with, wantedD, Array.size, te, einl, inls, efr]
    have yn : (y : Int) < 60 := by omega
    have w1 : IntKind.i64.wrap ((y : Int) + 1) = ((y + 1 : Nat) : Int) := by rw [wrap_in (by omega)]; omega
    simp (maxSteps := 1000000) (implicitDefEqProofs := false) only [yn, ss, sd, evOp, evPlain, evVal, evMem, St.get, sliceOf, arrayOf, fieldsOf, normOf, norm, look, evVar, evFieldAddr, nameOf, St.alloc, St.drop, killOb, part, splice, depth, resultsV, ↓reduceIte, Nat.reduceBEq, Nat.reduceAdd, Nat.reduceSub, Nat.reduceMul, Nat.reduceEqDiff, Nat.reduceLeDiff, Nat.reduceLT, effOf, effMem, effVar, effLit, effMake, effApp, lend, evLit, evNil, freeze, evField, evIndexT, orNil, evSlice, placeOf, evMap, mapOf, keyOk, evFrame, closed, fixed, sameEs, wit, Option.isSome_some, St.with, wantedD, Array.size, te, einl, inls, efr]
    generalize hr : loopAt _ _ _ _ _ _ = r; revert r
    refine loop_inv (ι := { q : Nat × Nat // q.1 ≤ 60 ∧ q.2 ≤ 400 }) (fun q => [(11, .int .i64 (q.1.2 : Nat)), (13, .int .i64 (q.1.1 : Nat))]) (fun _ => []) (fun q => 60 - q.1.1) ⟨(0, c), by omega, hc⟩ (by simp (maxSteps := 1000000) (implicitDefEqProofs := false) only [Int.natCast_zero, ss, sd, evOp, evPlain, evVal, evMem, St.get, sliceOf, arrayOf, fieldsOf, normOf, norm, look, evVar, evFieldAddr, nameOf, St.alloc, St.drop, killOb, part, splice, depth, resultsV, ↓reduceIte, Nat.reduceBEq, Nat.reduceAdd, Nat.reduceSub, Nat.reduceMul, Nat.reduceEqDiff, Nat.reduceLeDiff, Nat.reduceLT, effOf, effMem, effVar, effLit, effMake, effApp, lend, evLit, evNil, freeze, evField, evIndexT, orNil, evSlice, placeOf, evMap, mapOf, keyOk, evFrame, closed, fixed, sameEs, wit, Option.isSome_some, St.with, wantedD, Array.size, te, einl, inls, efr]) ?_
    rintro ⟨⟨x, c⟩, hx, hc⟩
    dsimp only at hx hc ⊢
    by_cases x60 : x < 60
    rotate_left
    · have xn : ¬ (x : Int) < 60 := by omega
      simp (maxSteps := 1000000) (implicitDefEqProofs := false) only [xn, w1, ss, sd, evOp, evPlain, evVal, evMem, St.get, sliceOf, arrayOf, fieldsOf, normOf, norm, look, evVar, evFieldAddr, nameOf, St.alloc, St.drop, killOb, part, splice, depth, resultsV, ↓reduceIte, Nat.reduceBEq, Nat.reduceAdd, Nat.reduceSub, Nat.reduceMul, Nat.reduceEqDiff, Nat.reduceLeDiff, Nat.reduceLT, effOf, effMem, effVar, effLit, effMake, effApp, lend, evLit, evNil, freeze, evField, evIndexT, orNil, evSlice, placeOf, evMap, mapOf, keyOk, evFrame, closed, fixed, sameEs, wit, Option.isSome_some, St.with, wantedD, Array.size, te, einl, inls, efr]
      exact ⟨⟨(y + 1, c), by dsimp only; omega, hc⟩, by first | rfl | simp, by dsimp only; omega⟩
    have xn : (x : Int) < 60 := by omega
    by_cases c400 : c < 400
    rotate_left
    · have cn : ¬ (c : Int) < 400 := by omega
      simp (maxSteps := 1000000) (implicitDefEqProofs := false) only [xn, cn, w1, ss, sd, evOp, evPlain, evVal, evMem, St.get, sliceOf, arrayOf, fieldsOf, normOf, norm, look, evVar, evFieldAddr, nameOf, St.alloc, St.drop, killOb, part, splice, depth, resultsV, ↓reduceIte, Nat.reduceBEq, Nat.reduceAdd, Nat.reduceSub, Nat.reduceMul, Nat.reduceEqDiff, Nat.reduceLeDiff, Nat.reduceLT, effOf, effMem, effVar, effLit, effMake, effApp, lend, evLit, evNil, freeze, evField, evIndexT, orNil, evSlice, placeOf, evMap, mapOf, keyOk, evFrame, closed, fixed, sameEs, wit, Option.isSome_some, St.with, wantedD, Array.size, te, einl, inls, efr]
      exact ⟨⟨(y + 1, c), by dsimp only; omega, hc⟩, by first | rfl | simp, by dsimp only; omega⟩
    have cn : (c : Int) < 400 := by omega
    have w3 : IntKind.i64.wrap ((x : Int) + 1) = ((x + 1 : Nat) : Int) := by rw [wrap_in (by omega)]; omega
    have w5 : IntKind.i64.wrap ((c : Int) + 1) = ((c + 1 : Nat) : Int) := by rw [wrap_in (by omega)]; omega
    have w4 : IntKind.i64.wrap ((x : Int) - o) = x - o := wrap_in (by omega)
    have k1 := k1 x y
    have k2 := k2 x x60 y
    have k3 := k3 ((x : Int) - o) y
    cases hcm : cellM r.rects (x : Int) (y : Int) with
    | false =>
      rw [hcm] at k1
      simp (maxSteps := 1000000) (implicitDefEqProofs := false) only [xn, cn, k1, w3, bne_self_eq_false, ss, sd, evOp, evPlain, evVal, evMem, St.get, sliceOf, arrayOf, fieldsOf, normOf, norm, look, evVar, evFieldAddr, nameOf, St.alloc, St.drop, killOb, part, splice, depth, resultsV, ↓reduceIte, Nat.reduceBEq, Nat.reduceAdd, Nat.reduceSub, Nat.reduceMul, Nat.reduceEqDiff, Nat.reduceLeDiff, Nat.reduceLT, effOf, effMem, effVar, effLit, effMake, effApp, lend, evLit, evNil, freeze, evField, evIndexT, orNil, evSlice, placeOf, evMap, mapOf, keyOk, evFrame, closed, fixed, sameEs, wit, Option.isSome_some, St.with, wantedD, Array.size, te, einl, inls, efr]
      exact ⟨⟨(x + 1, c), by dsimp only; omega, hc⟩, by first | rfl | simp, by dsimp only; omega⟩
    | true =>
      rw [hcm] at k1
      obtain ⟨a, ha, hb⟩ := hl x y x60 y60 hcm
      rw [ha] at k2
      rw [hb] at k3
      have q1 : ((0 : Int) == 13) = false := rfl
      have q2 : ((0 : Int) == 1) = false := rfl
      have q3 : ((0 : Int) == 4) = false := rfl
      simp (maxSteps := 1000000) (implicitDefEqProofs := false) only [xn, cn, k1, k2, k3, w3, w4, w5, q1, q2, q3, bne_self_eq_false, beq_self_eq_true, ss, sd, evOp, evPlain, evVal, evMem, St.get, sliceOf, arrayOf, fieldsOf, normOf, norm, look, evVar, evFieldAddr, nameOf, St.alloc, St.drop, killOb, part, splice, depth, resultsV, ↓reduceIte, Nat.reduceBEq, Nat.reduceAdd, Nat.reduceSub, Nat.reduceMul, Nat.reduceEqDiff, Nat.reduceLeDiff, Nat.reduceLT, effOf, effMem, effVar, effLit, effMake, effApp, lend, evLit, evNil, freeze, evField, evIndexT, orNil, evSlice, placeOf, evMap, mapOf, keyOk, evFrame, closed, fixed, sameEs, wit, Option.isSome_some, St.with, wantedD, Array.size, te, einl, inls, efr]
      exact ⟨⟨(x + 1, c + 1), by dsimp only; omega, by dsimp only; omega⟩, by first | rfl | simp, by dsimp only; omega⟩
end Go.AM.D
end

section
/-
TopFloors: the strips cover the room, and the laid floor has the pattern of the plane.
-/
namespace Go.AM.D
open Go Go.AM Go.Proofs
theorem strF_len' {f : Int → Int → Bool} {w : Int} : ∀ (n : Nat) (x : Int), (strF f w n x).length ≤ n
  | 0, _ => by simp [strF]
  | n + 1, x => by
    have := strF_len' (f := f) (w := w) n (x + w)
    unfold strF
    split
    · split
      · simp; omega
      · omega
    · simp
theorem strips_len' {f : Int → Int → Bool} {w o : Int} : (stripsM f w o).length ≤ 82 := strF_len' _ _

def room12 : Room := ⟨[⟨0, 0, 3, 4⟩], []⟩
theorem area12 : areaR room12 = 12 ∧ roomE room12 = 0 := by decide +kernel
set_option maxRecDepth 20000 in
set_option maxHeartbeats 16000000 in
theorem c15 (r : Room) (l : Lay) (o : Int) : (orcω E X0).call 15 [encRoom r, encLay l, .int .i64 o] = some (.bool true) := by
  refine call_of rfl fn15 rfl ?_
  have k0 := c22 room12 (by decide) (by decide)
  rw [area12.1, area12.2] at k0
  simp only [encRoom, room12, List.map_cons, List.map_nil, encRect] at k0
  obtain ⟨p, w, j, cuts⟩ := l
  unfold encLay
  dsimp only
  by_cases h8 : (8 : Int) < r.rects.length
  · unfold encRoom at *
    simp (maxSteps := 1000000) (implicitDefEqProofs := false) only [Try.ntmps15, Try.results15, efc15, k0, h8, bne_self_eq_false, List.length_map, ss, sd, evOp, evPlain, evVal, evMem, St.get, sliceOf, arrayOf, fieldsOf, normOf, norm, look, evVar, evFieldAddr, nameOf, St.alloc, St.drop, killOb, part, splice, depth, resultsV, ↓reduceIte, Nat.reduceBEq, Nat.reduceAdd, Nat.reduceSub, Nat.reduceMul, Nat.reduceEqDiff, Nat.reduceLeDiff, Nat.reduceLT, effOf, effMem, effVar, effLit, effMake, effApp, lend, evLit, evNil, freeze, evField, evIndexT, orNil, evSlice, placeOf, evMap, mapOf, keyOk, evFrame, closed, fixed, sameEs, wit, Option.isSome_some, St.with, wantedD, Array.size, te, einl, inls, efr]
  by_cases h4 : (4 : Int) < r.doors.length
  · unfold encRoom at *
    simp (maxSteps := 1000000) (implicitDefEqProofs := false) only [Try.ntmps15, Try.results15, efc15, k0, h8, h4, bne_self_eq_false, List.length_map, ss, sd, evOp, evPlain, evVal, evMem, St.get, sliceOf, arrayOf, fieldsOf, normOf, norm, look, evVar, evFieldAddr, nameOf, St.alloc, St.drop, killOb, part, splice, depth, resultsV, ↓reduceIte, Nat.reduceBEq, Nat.reduceAdd, Nat.reduceSub, Nat.reduceMul, Nat.reduceEqDiff, Nat.reduceLeDiff, Nat.reduceLT, effOf, effMem, effVar, effLit, effMake, effApp, lend, evLit, evNil, freeze, evField, evIndexT, orNil, evSlice, placeOf, evMap, mapOf, keyOk, evFrame, closed, fixed, sameEs, wit, Option.isSome_some, St.with, wantedD, Array.size, te, einl, inls, efr]
  by_cases h144 : (144 : Int) < p.cs.length
  · unfold encRoom at *
    simp (maxSteps := 1000000) (implicitDefEqProofs := false) only [Try.ntmps15, Try.results15, efc15, k0, h8, h4, h144, bne_self_eq_false, List.length_map, ss, sd, evOp, evPlain, evVal, evMem, St.get, sliceOf, arrayOf, fieldsOf, normOf, norm, look, evVar, evFieldAddr, nameOf, St.alloc, St.drop, killOb, part, splice, depth, resultsV, ↓reduceIte, Nat.reduceBEq, Nat.reduceAdd, Nat.reduceSub, Nat.reduceMul, Nat.reduceEqDiff, Nat.reduceLeDiff, Nat.reduceLT, effOf, effMem, effVar, effLit, effMake, effApp, lend, evLit, evNil, freeze, evField, evIndexT, orNil, evSlice, placeOf, evMap, mapOf, keyOk, evFrame, closed, fixed, sameEs, wit, Option.isSome_some, St.with, wantedD, Array.size, te, einl, inls, efr]
  have k1 := c18 r w o (by omega) (by omega)
  by_cases hd : dividedE r w o = 0
  rotate_left
  · have q1 : (dividedE r w o != 0) = true := by simpa using hd
    generalize stripsV r w o = sv at *
    generalize dividedE r w o = de at *
    unfold encRoom at *
    simp (maxSteps := 1000000) (implicitDefEqProofs := false) only [Try.ntmps15, Try.results15, efc15, k0, k1, h8, h4, h144, q1, bne_self_eq_false, List.length_map, ss, sd, evOp, evPlain, evVal, evMem, St.get, sliceOf, arrayOf, fieldsOf, normOf, norm, look, evVar, evFieldAddr, nameOf, St.alloc, St.drop, killOb, part, splice, depth, resultsV, ↓reduceIte, Nat.reduceBEq, Nat.reduceAdd, Nat.reduceSub, Nat.reduceMul, Nat.reduceEqDiff, Nat.reduceLeDiff, Nat.reduceLT, effOf, effMem, effVar, effLit, effMake, effApp, lend, evLit, evNil, freeze, evField, evIndexT, orNil, evSlice, placeOf, evMap, mapOf, keyOk, evFrame, closed, fixed, sameEs, wit, Option.isSome_some, St.with, wantedD, Array.size, te, einl, inls, efr]
  obtain ⟨d1, d2, d3, d4⟩ := dividedE_zero hd
  have hd0 : dividedE r w 0 = 0 := by
    unfold dividedE
    rw [if_neg (by simpa using d1), if_pos ⟨inB_iff.2 (by omega), inB_iff.2 (by omega)⟩]
  have hsv : stripsV r w o = stripsM (cellM r.rects) w o := if_pos hd
  have hcov : coversV r w (stripsV r w o) = true := by
    unfold coversV
    rw [if_pos hd0, hsv]
    exact covers_strips (cells_inside (roomE_all d1)) d2.1 d2.2 d3 d4
  have hsl : (stripsV r w o).length ≤ 82 := by rw [hsv]; exact strips_len'
  have k2 := c27 r w (stripsV r w o) (by omega) (by omega) (by omega)
  rw [hcov, hd0] at k2
  rw [hd] at k1
  have k3 := c43 ⟨stripsV r w o, j.rs, j.rep⟩
  have few : fewV ⟨stripsV r w o, j.rs, j.rep⟩ = if ¬ jobE ⟨stripsV r w o, j.rs, j.rep⟩ = 0 then .tup [.sl true [], .int .i64 0, .bool false, .int .i64 (jobE ⟨stripsV r w o, j.rs, j.rep⟩)] else (match fewM ⟨stripsV r w o, j.rs, j.rep⟩ with
    | some (l, c) => .tup [.sl true (l.map encCut), .int .i64 (c : Nat), .bool true, .int .i64 0]
    | none => .tup [.sl true [], .int .i64 0, .bool false, .int .i64 0]) := rfl
  by_cases hje : jobE ⟨stripsV r w o, j.rs, j.rep⟩ = 0
  rotate_left
  · rw [few, if_pos hje] at k3
    have q1 : (jobE ⟨stripsV r w o, j.rs, j.rep⟩ != 0) = true := by simpa using hje
    generalize jobE ⟨stripsV r w o, j.rs, j.rep⟩ = e at *
    unfold encJob at k3
    dsimp only at k3
    generalize stripsV r w o = sv at *
    unfold encRoom at *
    simp (maxSteps := 1000000) (implicitDefEqProofs := false) only [Try.ntmps15, Try.results15, efc15, k0, k1, k2, k3, h8, h4, h144, q1, bne_self_eq_false, List.length_map, ss, sd, evOp, evPlain, evVal, evMem, St.get, sliceOf, arrayOf, fieldsOf, normOf, norm, look, evVar, evFieldAddr, nameOf, St.alloc, St.drop, killOb, part, splice, depth, resultsV, ↓reduceIte, Nat.reduceBEq, Nat.reduceAdd, Nat.reduceSub, Nat.reduceMul, Nat.reduceEqDiff, Nat.reduceLeDiff, Nat.reduceLT, effOf, effMem, effVar, effLit, effMake, effApp, lend, evLit, evNil, freeze, evField, evIndexT, orNil, evSlice, placeOf, evMap, mapOf, keyOk, evFrame, closed, fixed, sameEs, wit, Option.isSome_some, St.with, wantedD, Array.size, te, einl, inls, efr]
  rw [few, if_neg (fun h => h hje)] at k3
  cases hf : fewM ⟨stripsV r w o, j.rs, j.rep⟩ with
  | none =>
    rw [hf] at k3
    unfold encJob at k3
    dsimp only at k3
    generalize stripsV r w o = sv at *
    unfold encRoom at *
    simp (maxSteps := 1000000) (implicitDefEqProofs := false) only [Try.ntmps15, Try.results15, efc15, k0, k1, k2, k3, h8, h4, h144, bne_self_eq_false, List.length_map, ss, sd, evOp, evPlain, evVal, evMem, St.get, sliceOf, arrayOf, fieldsOf, normOf, norm, look, evVar, evFieldAddr, nameOf, St.alloc, St.drop, killOb, part, splice, depth, resultsV, ↓reduceIte, Nat.reduceBEq, Nat.reduceAdd, Nat.reduceSub, Nat.reduceMul, Nat.reduceEqDiff, Nat.reduceLeDiff, Nat.reduceLT, effOf, effMem, effVar, effLit, effMake, effApp, lend, evLit, evNil, freeze, evField, evIndexT, orNil, evSlice, placeOf, evMap, mapOf, keyOk, evFrame, closed, fixed, sameEs, wit, Option.isSome_some, St.with, wantedD, Array.size, te, einl, inls, efr]
  | some q =>
    obtain ⟨cl, n⟩ := q
    rw [hf] at k3
    obtain ⟨hacc, hused⟩ := accept hje hf
    obtain ⟨hj, hjo⟩ := jobE_zero hje
    have hfit := checkM_zero hacc
    have hcl : cl.length ≤ 6 := by
      have h1 := hfit.len
      have h2 := hfit.job.nss
      omega
    have k4 := c46 ⟨stripsV r w o, j.rs, j.rep⟩
    have k5 := c49 ⟨stripsV r w o, j.rs, j.rep⟩ cl (by omega)
    have hu : usedV ⟨stripsV r w o, j.rs, j.rep⟩ cl = (n : Nat) := by unfold usedV; rw [if_pos hacc, hused]
    rw [hacc, hu] at k5
    have hlb : ∃ a : Int, lbV ⟨stripsV r w o, j.rs, j.rep⟩ = .tup [.int .i64 a, .bool true, .int .i64 0] ∧ a ≤ n := by
      unfold lbV
      rw [if_neg (fun h => h hje)]
      dsimp only
      have hst : ∀ s ∈ stripsV r w o, 0 ≤ s.a ∧ s.a ≤ s.b ∧ s.b ≤ 60 := fun s hs => by have := hj.ss s hs; omega
      have hneed := (lenM_in hst).1
      by_cases hz : lenM (stripsV r w o) = 0
      · rw [if_pos hz]
        exact ⟨0, rfl, by omega⟩
      · rw [if_neg hz]
        have h3 := lb_few hj hjo hf (by dsimp only; omega)
        dsimp only at h3
        exact ⟨_, by rw [decide_eq_true h3.1], h3.2⟩
    obtain ⟨a, hl1, hl2⟩ := hlb
    rw [hl1] at k4
    have k6 := c57 r ⟨p, w, j, cuts⟩ ⟨stripsV r w o, j.rs, j.rep⟩ cl o (by omega) (by omega) (by dsimp only; omega) hcl d1 (by omega) (laid_either p hd (j := ⟨stripsV r w o, j.rs, j.rep⟩) rfl hje hf)
    unfold encJob at k3 k4 k5 k6
    unfold encLay at k6
    dsimp only at k3 k4 k5 k6
    have hna : ¬ (n : Int) < a := by omega
    generalize stripsV r w o = sv at *
    unfold encRoom at *
    simp (maxSteps := 1000000) (implicitDefEqProofs := false) only [Try.ntmps15, Try.results15, efc15, k0, k1, k2, k3, k4, k5, k6, h8, h4, h144, hna, bne_self_eq_false, List.length_map, ss, sd, evOp, evPlain, evVal, evMem, St.get, sliceOf, arrayOf, fieldsOf, normOf, norm, look, evVar, evFieldAddr, nameOf, St.alloc, St.drop, killOb, part, splice, depth, resultsV, ↓reduceIte, Nat.reduceBEq, Nat.reduceAdd, Nat.reduceSub, Nat.reduceMul, Nat.reduceEqDiff, Nat.reduceLeDiff, Nat.reduceLT, effOf, effMem, effVar, effLit, effMake, effApp, lend, evLit, evNil, freeze, evField, evIndexT, orNil, evSlice, placeOf, evMap, mapOf, keyOk, evFrame, closed, fixed, sameEs, wit, Option.isSome_some, St.with, wantedD, Array.size, te, einl, inls, efr]
end Go.AM.D
end
