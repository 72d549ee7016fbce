/-
The law of offcuts.
-/
import Derived.Test.YtejjeckiplihbaaDOffB
import Derived.Test.YtejjeckiplihbaaDJobs
set_option linter.unusedSimpArgs false
set_option maxRecDepth 20000

namespace Go.AM.D
open Go Go.AM Go.Proofs

theorem okT56 : okCode (Try.f56.body.getD .skip) = true := by decide +kernel
set_option maxRecDepth 20000 in
set_option maxHeartbeats 8000000 in
theorem c56 (rows : List (List (Int × Int))) (hl : rows.length ≤ 1000) (hg : ∀ g ∈ rows, g.length ≤ 1000) : (orcω E X0).call 56 [.sl false (rows.map encGaps), .sl false (rows.map encGaps)] = some (.bool true) := by
  refine call_of rfl fn56 rfl ?_
  have hok := okT56
  simp only [Try.f56, Option.getD_some, okCode, Bool.and_eq_true, Bool.and_true, Bool.true_and] at hok
  obtain ⟨hk1, hk2⟩ := hok
  simp (maxSteps := 1000000) (implicitDefEqProofs := false) only [Try.ntmps56, Try.results56, efc56, fc56, bne_self_eq_false, List.length_map, ss, sd, evOp, evPlain, evVal, evMem, St.get, sliceOf, arrayOf, fieldsOf, normOf, norm, look, evVar, evFieldAddr, nameOf, St.alloc, St.drop, killOb, part, splice, depth, resultsV, ↓reduceIte, Nat.reduceBEq, Nat.reduceAdd, Nat.reduceSub, Nat.reduceMul, Nat.reduceEqDiff, Nat.reduceLeDiff, Nat.reduceLT, effOf, effMem, effVar, effLit, effMake, effApp, lend, evLit, evNil, freeze, evField, evIndexT, orNil, evSlice, placeOf, evMap, mapOf, keyOk, evFrame, closed, fixed, sameEs, wit, Option.isSome_some, St.with, wantedD, Array.size, te, einl, inls, efr]
  generalize hr : loopAt _ _ _ _ _ _ = r; revert r
  refine loop_nat rows.length (fun i _ => [(5, .int .i64 (i : Nat))]) (fun _ _ => []) (fun _ (_ : Unit) => True) () (by omega) (by simp (maxSteps := 1000000) (implicitDefEqProofs := false) only [Int.natCast_zero, ss, sd, evOp, evPlain, evVal, evMem, St.get, sliceOf, arrayOf, fieldsOf, normOf, norm, look, evVar, evFieldAddr, nameOf, St.alloc, St.drop, killOb, part, splice, depth, resultsV, ↓reduceIte, Nat.reduceBEq, Nat.reduceAdd, Nat.reduceSub, Nat.reduceMul, Nat.reduceEqDiff, Nat.reduceLeDiff, Nat.reduceLT, effOf, effMem, effVar, effLit, effMake, effApp, lend, evLit, evNil, freeze, evField, evIndexT, orNil, evSlice, placeOf, evMap, mapOf, keyOk, evFrame, closed, fixed, sameEs, wit, Option.isSome_some, St.with, wantedD, Array.size, te, einl, inls, efr]) trivial (fun _ _ => ?_) (fun i _ _ a1 a2 a3 => ?_)
  · simp (maxSteps := 1000000) (implicitDefEqProofs := false) only [Int.lt_irrefl, List.length_map, Try.ntmps56, Try.results56, efc56, fc56, ss, sd, evOp, evPlain, evVal, evMem, St.get, sliceOf, arrayOf, fieldsOf, normOf, norm, look, evVar, evFieldAddr, nameOf, St.alloc, St.drop, killOb, part, splice, depth, resultsV, ↓reduceIte, Nat.reduceBEq, Nat.reduceAdd, Nat.reduceSub, Nat.reduceMul, Nat.reduceEqDiff, Nat.reduceLeDiff, Nat.reduceLT, effOf, effMem, effVar, effLit, effMake, effApp, lend, evLit, evNil, freeze, evField, evIndexT, orNil, evSlice, placeOf, evMap, mapOf, keyOk, evFrame, closed, fixed, sameEs, wit, Option.isSome_some, St.with, wantedD, Array.size, te, einl, inls, efr]
  · have g1 : rows[i]? = some rows[i] := List.getElem?_eq_getElem a1
    have hgi := hg rows[i] (List.getElem_mem _)
    generalize rows[i] = g at *
    simp (maxSteps := 1000000) (implicitDefEqProofs := false) only [a2, g1, encGaps, evRegion_st hk1, bne_self_eq_false, Int.natCast_nonneg, Int.toNat_natCast, List.getElem?_map, List.length_map, ss, sd, evOp, evPlain, evVal, evMem, St.get, sliceOf, arrayOf, fieldsOf, normOf, norm, look, evVar, evFieldAddr, nameOf, St.alloc, St.drop, killOb, part, splice, depth, resultsV, ↓reduceIte, Nat.reduceBEq, Nat.reduceAdd, Nat.reduceSub, Nat.reduceMul, Nat.reduceEqDiff, Nat.reduceLeDiff, Nat.reduceLT, effOf, effMem, effVar, effLit, effMake, effApp, lend, evLit, evNil, freeze, evField, evIndexT, orNil, evSlice, placeOf, evMap, mapOf, keyOk, evFrame, closed, fixed, sameEs, wit, Option.isSome_some, St.with, wantedD, Array.size, te, einl, inls, efr]
    generalize hr : loopAt _ _ _ _ _ _ = r; revert r
    refine loop_nat g.length (fun k _ => [(6, .int .i64 (k : Nat))]) (fun _ _ => []) (fun _ (_ : Unit) => True) () (by omega) (by simp (maxSteps := 1000000) (implicitDefEqProofs := false) only [Int.natCast_zero, ss, sd, evOp, evPlain, evVal, evMem, St.get, sliceOf, arrayOf, fieldsOf, normOf, norm, look, evVar, evFieldAddr, nameOf, St.alloc, St.drop, killOb, part, splice, depth, resultsV, ↓reduceIte, Nat.reduceBEq, Nat.reduceAdd, Nat.reduceSub, Nat.reduceMul, Nat.reduceEqDiff, Nat.reduceLeDiff, Nat.reduceLT, effOf, effMem, effVar, effLit, effMake, effApp, lend, evLit, evNil, freeze, evField, evIndexT, orNil, evSlice, placeOf, evMap, mapOf, keyOk, evFrame, closed, fixed, sameEs, wit, Option.isSome_some, St.with, wantedD, Array.size, te, einl, inls, efr]) trivial (fun _ _ => ?_) (fun k _ _ b1 b2 b3 => ?_)
    · simp (maxSteps := 1000000) (implicitDefEqProofs := false) only [Int.lt_irrefl, a2, a3, g1, encGaps, Int.natCast_nonneg, Int.toNat_natCast, List.getElem?_map, List.length_map, ss, sd, evOp, evPlain, evVal, evMem, St.get, sliceOf, arrayOf, fieldsOf, normOf, norm, look, evVar, evFieldAddr, nameOf, St.alloc, St.drop, killOb, part, splice, depth, resultsV, ↓reduceIte, Nat.reduceBEq, Nat.reduceAdd, Nat.reduceSub, Nat.reduceMul, Nat.reduceEqDiff, Nat.reduceLeDiff, Nat.reduceLT, effOf, effMem, effVar, effLit, effMake, effApp, lend, evLit, evNil, freeze, evField, evIndexT, orNil, evSlice, placeOf, evMap, mapOf, keyOk, evFrame, closed, fixed, sameEs, wit, Option.isSome_some, St.with, wantedD, Array.size, te, einl, inls, efr]
      (first | exact ⟨(), trivial⟩ | refine ⟨(), ?_, trivial⟩ | skip)
    · have g2 : g[k]? = some g[k] := List.getElem?_eq_getElem b1
      generalize g[k] = s at *
      simp (maxSteps := 1000000) (implicitDefEqProofs := false) only [a2, g1, g2, b2, b3, encGaps, encSpan, evRegion_st hk2, beq_self_eq_true, Bool.and_self, Bool.and_true, Bool.not_true, Int.natCast_nonneg, Int.toNat_natCast, List.getElem?_map, List.length_map, ss, sd, evOp, evPlain, evVal, evMem, St.get, sliceOf, arrayOf, fieldsOf, normOf, norm, look, evVar, evFieldAddr, nameOf, St.alloc, St.drop, killOb, part, splice, depth, resultsV, ↓reduceIte, Nat.reduceBEq, Nat.reduceAdd, Nat.reduceSub, Nat.reduceMul, Nat.reduceEqDiff, Nat.reduceLeDiff, Nat.reduceLT, effOf, effMem, effVar, effLit, effMake, effApp, lend, evLit, evNil, freeze, evField, evIndexT, orNil, evSlice, placeOf, evMap, mapOf, keyOk, evFrame, closed, fixed, sameEs, wit, Option.isSome_some, St.with, wantedD, Array.size, te, einl, inls, efr]
      (first | exact ⟨(), trivial⟩ | refine ⟨(), ?_, trivial⟩ | skip)

theorem scan_spans (u : Nat → Bool) : ∀ k : Nat, ∀ s ∈ (scanS u k).2, 0 ≤ s.1 ∧ s.1 ≤ s.2 ∧ s.2 ≤ (k : Int)
  | 0, s, h => by cases h
  | k + 1, s, h => by
    have ih := scan_spans u k
    have hf := scan_from u k
    rw [scan_step] at h
    split at h
    · split at h
      · rcases List.mem_append.1 h with h | h
        · have := ih s h; omega
        · rw [List.mem_singleton.1 h]
          dsimp only
          omega
      · have := ih s h; omega
    · split at h
      · have := ih s h; omega
      · have := ih s h; omega
theorem gapLen_in {L : Int} : ∀ g : List (Int × Int), (∀ s ∈ g, 0 ≤ s.1 ∧ s.1 ≤ s.2 ∧ s.2 ≤ L) → 0 ≤ gapLen g ∧ gapLen g ≤ L * g.length
  | [], _ => by simp [gapLen]
  | s :: g, h => by
    have ih := gapLen_in g fun x hx => h x (List.mem_cons_of_mem _ hx)
    have hs := h s List.mem_cons_self
    show 0 ≤ _ + gapLen g ∧ _ + gapLen g ≤ L * ((g.length + 1 : Nat) : Int)
    rw [Int.natCast_add, Int.mul_add]
    simp only [Int.natCast_one, Int.mul_one]
    omega
theorem gapLen_one (g : List (Int × Int)) (s : Int × Int) : gapLen (g ++ [s]) = gapLen g + (s.2 - s.1) := by
  rw [gapLen_app]
  show _ + (_ + 0) = _
  omega
theorem sumN_in {f : Nat → Int} {M : Int} (h : ∀ i, -M ≤ f i ∧ f i ≤ M) : ∀ n : Nat, -(M * n) ≤ sumN f n ∧ sumN f n ≤ M * n
  | 0 => by simp [sumN]
  | n + 1 => by
    have ih := sumN_in h n
    have h1 := h n
    show -(M * ((n + 1 : Nat) : Int)) ≤ sumN f n + f n ∧ sumN f n + f n ≤ M * ((n + 1 : Nat) : Int)
    rw [Int.natCast_add, Int.mul_add]
    simp only [Int.natCast_one, Int.mul_one]
    omega

theorem okT13 : okCode (Try.f13.body.getD .skip) = true := by decide +kernel
set_option maxRecDepth 20000 in
set_option maxHeartbeats 16000000 in
theorem c13 (j : Job) (cuts : List Cut) : (orcω E X0).call 13 [encJob j, .sl false (cuts.map encCut)] = some (.bool true) := by
  refine call_of rfl fn13 rfl ?_
  have hok := okT13
  simp only [Try.f13, Option.getD_some, okCode, Bool.and_eq_true, Bool.and_true, Bool.true_and] at hok
  obtain ⟨hk1, hk2⟩ := hok
  have k0 := c17
  by_cases h40 : (40 : Int) < cuts.length
  · unfold encJob
    simp (maxSteps := 1000000) (implicitDefEqProofs := false) only [Try.ntmps13, Try.results13, efc13, fc13, k0, h40, List.length_map, ss, sd, evOp, evPlain, evVal, evMem, St.get, sliceOf, arrayOf, fieldsOf, normOf, norm, look, evVar, evFieldAddr, nameOf, St.alloc, St.drop, killOb, part, splice, depth, resultsV, ↓reduceIte, Nat.reduceBEq, Nat.reduceAdd, Nat.reduceSub, Nat.reduceMul, Nat.reduceEqDiff, Nat.reduceLeDiff, Nat.reduceLT, effOf, effMem, effVar, effLit, effMake, effApp, lend, evLit, evNil, freeze, evField, evIndexT, orNil, evSlice, placeOf, evMap, mapOf, keyOk, evFrame, closed, fixed, sameEs, wit, Option.isSome_some, St.with, wantedD, Array.size, te, einl, inls, efr]
  have k1 := c39 j
  have k2 := c41 j
  have k3 := c54 j cuts (by omega)
  have k4 := c55 j cuts (by omega)
  by_cases he : checkM j cuts = 0
  rotate_left
  · have hr : offR j cuts = [] := by unfold offR; rw [if_neg he]
    rw [hr] at k3 k4
    have k5 := c56 [] (by decide) (fun _ h => by cases h)
    rw [List.map_nil] at k3 k4 k5
    have q1 : (checkM j cuts == 0) = false := by simpa using he
    generalize checkM j cuts = e at *
    unfold encJob at k1 k2 k3 k4 ⊢
    simp (maxSteps := 1000000) (implicitDefEqProofs := false) only [Try.ntmps13, Try.results13, efc13, fc13, k0, h40, k1, k2, k3, k4, k5, bne_self_eq_false, Bool.not_true, List.length_map, ss, sd, evOp, evPlain, evVal, evMem, St.get, sliceOf, arrayOf, fieldsOf, normOf, norm, look, evVar, evFieldAddr, nameOf, St.alloc, St.drop, killOb, part, splice, depth, resultsV, ↓reduceIte, Nat.reduceBEq, Nat.reduceAdd, Nat.reduceSub, Nat.reduceMul, Nat.reduceEqDiff, Nat.reduceLeDiff, Nat.reduceLT, effOf, effMem, effVar, effLit, effMake, effApp, lend, evLit, evNil, freeze, evField, evIndexT, orNil, evSlice, placeOf, evMap, mapOf, keyOk, evFrame, closed, fixed, sameEs, wit, Option.isSome_some, St.with, wantedD, Array.size, te, einl, inls, efr]
    generalize hr : loopAt _ _ _ _ _ _ = r; revert r
    refine loop_inv (ι := Unit) (fun _ => [(9, .int .i64 0), (10, .int .i64 0)]) (fun _ => []) (fun _ => 0) () (by simp (maxSteps := 1000000) (implicitDefEqProofs := false) only [ss, sd, evOp, evPlain, evVal, evMem, St.get, sliceOf, arrayOf, fieldsOf, normOf, norm, look, evVar, evFieldAddr, nameOf, St.alloc, St.drop, killOb, part, splice, depth, resultsV, ↓reduceIte, Nat.reduceBEq, Nat.reduceAdd, Nat.reduceSub, Nat.reduceMul, Nat.reduceEqDiff, Nat.reduceLeDiff, Nat.reduceLT, effOf, effMem, effVar, effLit, effMake, effApp, lend, evLit, evNil, freeze, evField, evIndexT, orNil, evSlice, placeOf, evMap, mapOf, keyOk, evFrame, closed, fixed, sameEs, wit, Option.isSome_some, St.with, wantedD, Array.size, te, einl, inls, efr]) ?_
    intro _
    have fin : ∀ P : Prop, P → P := fun _ h => h
    by_cases p1 : (0 : Int) < j.rs.length
    all_goals
      simp (maxSteps := 1000000) (implicitDefEqProofs := false) only [p1, q1, List.length_map, ss, sd, evOp, evPlain, evVal, evMem, St.get, sliceOf, arrayOf, fieldsOf, normOf, norm, look, evVar, evFieldAddr, nameOf, St.alloc, St.drop, killOb, part, splice, depth, resultsV, ↓reduceIte, Nat.reduceBEq, Nat.reduceAdd, Nat.reduceSub, Nat.reduceMul, Nat.reduceEqDiff, Nat.reduceLeDiff, Nat.reduceLT, effOf, effMem, effVar, effLit, effMake, effApp, lend, evLit, evNil, freeze, evField, evIndexT, orNil, evSlice, placeOf, evMap, mapOf, keyOk, evFrame, closed, fixed, sameEs, wit, Option.isSome_some, St.with, wantedD, Array.size, te, einl, inls, efr]
      generalize hr : loopAt _ _ _ _ _ _ = r; revert r
      refine loop_inv (ι := Unit) (fun _ => [(12, .int .i64 0)]) (fun _ => []) (fun _ => 0) () (by simp (maxSteps := 1000000) (implicitDefEqProofs := false) only [ss, sd, evOp, evPlain, evVal, evMem, St.get, sliceOf, arrayOf, fieldsOf, normOf, norm, look, evVar, evFieldAddr, nameOf, St.alloc, St.drop, killOb, part, splice, depth, resultsV, ↓reduceIte, Nat.reduceBEq, Nat.reduceAdd, Nat.reduceSub, Nat.reduceMul, Nat.reduceEqDiff, Nat.reduceLeDiff, Nat.reduceLT, effOf, effMem, effVar, effLit, effMake, effApp, lend, evLit, evNil, freeze, evField, evIndexT, orNil, evSlice, placeOf, evMap, mapOf, keyOk, evFrame, closed, fixed, sameEs, wit, Option.isSome_some, St.with, wantedD, Array.size, te, einl, inls, efr]) ?_
      intro _
      by_cases p2 : (0 : Int) < j.ss.length
      all_goals simp (maxSteps := 1000000) (implicitDefEqProofs := false) only [p2, q1, k0, beq_self_eq_true, List.length_map, Try.ntmps13, Try.results13, efc13, fc13, ss, sd, evOp, evPlain, evVal, evMem, St.get, sliceOf, arrayOf, fieldsOf, normOf, norm, look, evVar, evFieldAddr, nameOf, St.alloc, St.drop, killOb, part, splice, depth, resultsV, ↓reduceIte, Nat.reduceBEq, Nat.reduceAdd, Nat.reduceSub, Nat.reduceMul, Nat.reduceEqDiff, Nat.reduceLeDiff, Nat.reduceLT, effOf, effMem, effVar, effLit, effMake, effApp, lend, evLit, evNil, freeze, evField, evIndexT, orNil, evSlice, placeOf, evMap, mapOf, keyOk, evFrame, closed, fixed, sameEs, wit, Option.isSome_some, St.with, wantedD, Array.size, te, einl, inls, efr]
  have hfit := checkM_zero he
  have hj := hfit.job
  have h6 := hj.nss
  have h5 := hj.nrs
  have hz := left_zero hfit
  have hr : offR j cuts = (List.range j.rs.length).map (gapsM j cuts) := by
    unfold offR
    rw [if_pos he]
    unfold rowsM
    refine List.map_congr_left fun r hr => ?_
    exact off_gaps hfit (List.mem_range.1 hr)
  have hsp : ∀ r, r < j.rs.length → ((rollOf j ⟨0, r, 0⟩).l ≤ 300 ∧ 1 ≤ (rollOf j ⟨0, r, 0⟩).l) ∧ (gapsM j cuts r).length ≤ 301 ∧ ∀ s ∈ gapsM j cuts r, 0 ≤ s.1 ∧ s.1 ≤ s.2 ∧ s.2 ≤ 301 := fun r hr => by
    have hroll := roll_get (j := j) (c := ⟨0, r, 0⟩) (by dsimp only; omega)
    have hlr := (hj.rs _ (List.mem_of_getElem? hroll)).1
    have h1 := scan_from (endU (usedAt j cuts r) (rollOf j ⟨0, r, 0⟩).l.toNat) ((rollOf j ⟨0, r, 0⟩).l.toNat + 1)
    have h2 := scan_spans (endU (usedAt j cuts r) (rollOf j ⟨0, r, 0⟩).l.toNat) ((rollOf j ⟨0, r, 0⟩).l.toNat + 1)
    refine ⟨by omega, by unfold gapsM; omega, fun s hs => ?_⟩
    have := h2 s hs
    omega
  rw [hr] at k3 k4
  rw [he] at k3 k4
  have hgl : ∀ g ∈ (List.range j.rs.length).map (gapsM j cuts), g.length ≤ 1000 := fun g hg => by
    obtain ⟨r, hr, rfl⟩ := List.mem_map.1 hg
    have := (hsp r (List.mem_range.1 hr)).2.1
    omega
  have k5 := c56 ((List.range j.rs.length).map (gapsM j cuts)) (by simp; omega) hgl
  have hget : ∀ i, i < j.rs.length → ((List.range j.rs.length).map (gapsM j cuts))[i]? = some (gapsM j cuts i) := fun i hi => by
    rw [List.getElem?_map, List.getElem?_range hi]
    rfl
  have hlr : ((List.range j.rs.length).map (gapsM j cuts)).length = j.rs.length := by simp
  generalize (List.range j.rs.length).map (gapsM j cuts) = rows at *
  generalize gapsM j cuts = gm at *
  obtain ⟨A, hA⟩ : ∃ A : Nat → Int, A = sumN (fun r => (rollOf j ⟨0, r, 0⟩).l - gapLen (gm r)) := ⟨_, rfl⟩
  obtain ⟨Bs, hB⟩ : ∃ Bs : Nat → Int, Bs = sumN (fun k => sizeM (j.ss.getD k strip0)) := ⟨_, rfl⟩
  rw [← hA, ← hB] at hz
  have hA0 : A 0 = 0 := by rw [hA]; rfl
  have hB0 : Bs 0 = 0 := by rw [hB]; rfl
  have hAs : ∀ i, A (i + 1) = A i + ((rollOf j ⟨0, i, 0⟩).l - gapLen (gm i)) := fun i => by rw [hA]; rfl
  have hBs : ∀ i, Bs (i + 1) = Bs i + sizeM (j.ss.getD i strip0) := fun i => by rw [hB]; rfl
  have hAin : ∀ i, i ≤ j.rs.length → -((i : Int) * 100000) ≤ A i ∧ A i ≤ (i : Int) * 100000 := by
    intro i
    induction i with
    | zero => intro _; rw [hA0]; decide
    | succ i ih =>
      intro hi
      have h1 := ih (by omega)
      have h2 := hsp i (by omega)
      have h3 := gapLen_in (L := 301) (gm i) h2.2.2
      rw [hAs i]
      omega
  have hBin : ∀ i, i ≤ j.ss.length → 0 ≤ Bs i ∧ Bs i ≤ (i : Int) * 60 := by
    intro i
    induction i with
    | zero => intro _; rw [hB0]; decide
    | succ i ih =>
      intro hi
      have h1 := ih (by omega)
      have g1 : j.ss[i]? = some (j.ss[i]'(by omega)) := List.getElem?_eq_getElem _
      have h2 := hj.ss _ (List.mem_of_getElem? g1)
      rw [hBs i, getD_of g1]
      unfold sizeM
      omega
  clear hA hB he hr hfit hgl
  unfold encJob at k1 k2 k3 k4 ⊢
  simp (maxSteps := 1000000) (implicitDefEqProofs := false) only [Try.ntmps13, Try.results13, efc13, fc13, k0, h40, k1, k2, k3, k4, k5, bne_self_eq_false, Bool.not_true, List.length_map, ss, sd, evOp, evPlain, evVal, evMem, St.get, sliceOf, arrayOf, fieldsOf, normOf, norm, look, evVar, evFieldAddr, nameOf, St.alloc, St.drop, killOb, part, splice, depth, resultsV, ↓reduceIte, Nat.reduceBEq, Nat.reduceAdd, Nat.reduceSub, Nat.reduceMul, Nat.reduceEqDiff, Nat.reduceLeDiff, Nat.reduceLT, effOf, effMem, effVar, effLit, effMake, effApp, lend, evLit, evNil, freeze, evField, evIndexT, orNil, evSlice, placeOf, evMap, mapOf, keyOk, evFrame, closed, fixed, sameEs, wit, Option.isSome_some, St.with, wantedD, Array.size, te, einl, inls, efr]
  generalize hr : loopAt _ _ _ _ _ _ = r; revert r
  refine loop_nat j.rs.length (fun i _ => [(9, .int .i64 (A i)), (10, .int .i64 (i : Nat))]) (fun _ _ => []) (fun _ (_ : Unit) => True) () (by omega) (by simp (maxSteps := 1000000) (implicitDefEqProofs := false) only [hA0, Int.natCast_zero, ss, sd, evOp, evPlain, evVal, evMem, St.get, sliceOf, arrayOf, fieldsOf, normOf, norm, look, evVar, evFieldAddr, nameOf, St.alloc, St.drop, killOb, part, splice, depth, resultsV, ↓reduceIte, Nat.reduceBEq, Nat.reduceAdd, Nat.reduceSub, Nat.reduceMul, Nat.reduceEqDiff, Nat.reduceLeDiff, Nat.reduceLT, effOf, effMem, effVar, effLit, effMake, effApp, lend, evLit, evNil, freeze, evField, evIndexT, orNil, evSlice, placeOf, evMap, mapOf, keyOk, evFrame, closed, fixed, sameEs, wit, Option.isSome_some, St.with, wantedD, Array.size, te, einl, inls, efr]) trivial (fun _ _ => ?_) (fun i _ _ a1 a2 a3 => ?_)
  rotate_left
  · have gi := hget i a1
    have gr := roll_get (j := j) (c := ⟨0, i, 0⟩) (by dsimp only; omega)
    rw [Int.toNat_natCast] at gr
    have hs := hsp i a1
    have hAi := hAin i (by omega)
    have hAi2 := hAin (i + 1) (by omega)
    have hst := hAs i
    have hgp : ∀ pre post, gm i = pre ++ post → 0 ≤ gapLen pre ∧ gapLen pre ≤ 100000 := fun pre post hp => by
      have h1 := gapLen_in (L := 301) pre fun s hs' => hs.2.2 s (by rw [hp]; exact List.mem_append_left _ hs')
      have h2 : pre.length ≤ (gm i).length := by rw [hp]; simp
      omega
    generalize rollOf j ⟨0, i, 0⟩ = ro at *
    generalize gm i = g at *
    obtain ⟨rl, rph, rsh⟩ := ro
    dsimp only at *
    have w1 : IntKind.i64.wrap (A i + rl) = A i + rl := wrap_in (by omega)
    simp (maxSteps := 1000000) (implicitDefEqProofs := false) only [a2, gi, gr, w1, encRoll, beq_self_eq_true, Int.natCast_nonneg, Int.toNat_natCast, List.getElem?_map, List.length_map, ss, sd, evOp, evPlain, evVal, evMem, St.get, sliceOf, arrayOf, fieldsOf, normOf, norm, look, evVar, evFieldAddr, nameOf, St.alloc, St.drop, killOb, part, splice, depth, resultsV, ↓reduceIte, Nat.reduceBEq, Nat.reduceAdd, Nat.reduceSub, Nat.reduceMul, Nat.reduceEqDiff, Nat.reduceLeDiff, Nat.reduceLT, effOf, effMem, effVar, effLit, effMake, effApp, lend, evLit, evNil, freeze, evField, evIndexT, orNil, evSlice, placeOf, evMap, mapOf, keyOk, evFrame, closed, fixed, sameEs, wit, Option.isSome_some, St.with, wantedD, Array.size, te, einl, inls, efr]
    generalize hr : loopAt _ _ _ _ _ _ = r; revert r
    refine loop_list g (fun pre _ => [(9, .int .i64 (A i + rl - gapLen pre)), (11, .int .i64 pre.length)]) (fun _ _ => []) (fun _ (_ : Unit) => True) () (by omega) (by simp (maxSteps := 1000000) (implicitDefEqProofs := false) only [gapLen, Int.sub_zero, ss, sd, evOp, evPlain, evVal, evMem, St.get, sliceOf, arrayOf, fieldsOf, normOf, norm, look, evVar, evFieldAddr, nameOf, St.alloc, St.drop, killOb, part, splice, depth, resultsV, ↓reduceIte, Nat.reduceBEq, Nat.reduceAdd, Nat.reduceSub, Nat.reduceMul, Nat.reduceEqDiff, Nat.reduceLeDiff, Nat.reduceLT, effOf, effMem, effVar, effLit, effMake, effApp, lend, evLit, evNil, freeze, evField, evIndexT, orNil, evSlice, placeOf, evMap, mapOf, keyOk, evFrame, closed, fixed, sameEs, wit, Option.isSome_some, St.with, wantedD, Array.size, te, einl, inls, efr]) trivial (fun _ _ => ?_) (fun pre x post _ hp _ g1 g2 g3 g4 => ?_)
    · have e1 : A i + rl - gapLen g = A (i + 1) := by omega
      simp (maxSteps := 1000000) (implicitDefEqProofs := false) only [a2, a3, gi, e1, hlr, encGaps, Int.lt_irrefl, Int.natCast_nonneg, Int.toNat_natCast, List.getElem?_map, List.length_map, ss, sd, evOp, evPlain, evVal, evMem, St.get, sliceOf, arrayOf, fieldsOf, normOf, norm, look, evVar, evFieldAddr, nameOf, St.alloc, St.drop, killOb, part, splice, depth, resultsV, ↓reduceIte, Nat.reduceBEq, Nat.reduceAdd, Nat.reduceSub, Nat.reduceMul, Nat.reduceEqDiff, Nat.reduceLeDiff, Nat.reduceLT, effOf, effMem, effVar, effLit, effMake, effApp, lend, evLit, evNil, freeze, evField, evIndexT, orNil, evSlice, placeOf, evMap, mapOf, keyOk, evFrame, closed, fixed, sameEs, wit, Option.isSome_some, St.with, wantedD, Array.size, te, einl, inls, efr]
      (first | exact ⟨(), trivial⟩ | refine ⟨(), ?_, trivial⟩ | skip)
    · have hx := hs.2.2 x (by rw [hp]; simp)
      have h1 := hgp pre (x :: post) hp
      have h2 := hgp (pre ++ [x]) post (by rw [hp]; simp)
      have e1 := gapLen_one pre x
      have w2 : IntKind.i64.wrap (x.2 - x.1) = x.2 - x.1 := wrap_in (by omega)
      have w3 : IntKind.i64.wrap (A i + rl - gapLen pre - (x.2 - x.1)) = A i + rl - gapLen (pre ++ [x]) := by rw [wrap_in (by omega)]; omega
      have a4 : (i : Int) < rows.length := by omega
      simp (maxSteps := 1000000) (implicitDefEqProofs := false) only [a2, a4, gi, g1, g2, g3, g4, w2, w3, encGaps, encSpan, evRegion_st hk1, Int.natCast_nonneg, Int.toNat_natCast, List.getElem?_map, List.length_map, ss, sd, evOp, evPlain, evVal, evMem, St.get, sliceOf, arrayOf, fieldsOf, normOf, norm, look, evVar, evFieldAddr, nameOf, St.alloc, St.drop, killOb, part, splice, depth, resultsV, ↓reduceIte, Nat.reduceBEq, Nat.reduceAdd, Nat.reduceSub, Nat.reduceMul, Nat.reduceEqDiff, Nat.reduceLeDiff, Nat.reduceLT, effOf, effMem, effVar, effLit, effMake, effApp, lend, evLit, evNil, freeze, evField, evIndexT, orNil, evSlice, placeOf, evMap, mapOf, keyOk, evFrame, closed, fixed, sameEs, wit, Option.isSome_some, St.with, wantedD, Array.size, te, einl, inls, efr]
      (first | exact ⟨(), trivial⟩ | refine ⟨(), ?_, trivial⟩ | skip)
  simp (maxSteps := 1000000) (implicitDefEqProofs := false) only [Int.lt_irrefl, List.length_map, ss, sd, evOp, evPlain, evVal, evMem, St.get, sliceOf, arrayOf, fieldsOf, normOf, norm, look, evVar, evFieldAddr, nameOf, St.alloc, St.drop, killOb, part, splice, depth, resultsV, ↓reduceIte, Nat.reduceBEq, Nat.reduceAdd, Nat.reduceSub, Nat.reduceMul, Nat.reduceEqDiff, Nat.reduceLeDiff, Nat.reduceLT, effOf, effMem, effVar, effLit, effMake, effApp, lend, evLit, evNil, freeze, evField, evIndexT, orNil, evSlice, placeOf, evMap, mapOf, keyOk, evFrame, closed, fixed, sameEs, wit, Option.isSome_some, St.with, wantedD, Array.size, te, einl, inls, efr]
  generalize hr : loopAt _ _ _ _ _ _ = r; revert r
  refine loop_nat j.ss.length (fun i _ => [(9, .int .i64 (A j.rs.length - Bs i)), (12, .int .i64 (i : Nat))]) (fun _ _ => []) (fun _ (_ : Unit) => True) () (by omega) (by simp (maxSteps := 1000000) (implicitDefEqProofs := false) only [hB0, Int.sub_zero, Int.natCast_zero, ss, sd, evOp, evPlain, evVal, evMem, St.get, sliceOf, arrayOf, fieldsOf, normOf, norm, look, evVar, evFieldAddr, nameOf, St.alloc, St.drop, killOb, part, splice, depth, resultsV, ↓reduceIte, Nat.reduceBEq, Nat.reduceAdd, Nat.reduceSub, Nat.reduceMul, Nat.reduceEqDiff, Nat.reduceLeDiff, Nat.reduceLT, effOf, effMem, effVar, effLit, effMake, effApp, lend, evLit, evNil, freeze, evField, evIndexT, orNil, evSlice, placeOf, evMap, mapOf, keyOk, evFrame, closed, fixed, sameEs, wit, Option.isSome_some, St.with, wantedD, Array.size, te, einl, inls, efr]) trivial (fun _ _ => ?_) (fun i _ _ a1 a2 a3 => ?_)
  · have q1 : (A j.rs.length - Bs j.ss.length == 0) = true := by rw [hz, Int.sub_self]; rfl
    simp (maxSteps := 1000000) (implicitDefEqProofs := false) only [Int.lt_irrefl, q1, k0, List.length_map, Try.ntmps13, Try.results13, efc13, fc13, ss, sd, evOp, evPlain, evVal, evMem, St.get, sliceOf, arrayOf, fieldsOf, normOf, norm, look, evVar, evFieldAddr, nameOf, St.alloc, St.drop, killOb, part, splice, depth, resultsV, ↓reduceIte, Nat.reduceBEq, Nat.reduceAdd, Nat.reduceSub, Nat.reduceMul, Nat.reduceEqDiff, Nat.reduceLeDiff, Nat.reduceLT, effOf, effMem, effVar, effLit, effMake, effApp, lend, evLit, evNil, freeze, evField, evIndexT, orNil, evSlice, placeOf, evMap, mapOf, keyOk, evFrame, closed, fixed, sameEs, wit, Option.isSome_some, St.with, wantedD, Array.size, te, einl, inls, efr]
  · have g1 : j.ss[i]? = some (j.ss[i]'(by omega)) := List.getElem?_eq_getElem _
    have h2 := hj.ss _ (List.mem_of_getElem? g1)
    have hst := hBs i
    rw [getD_of g1] at hst
    have hb1 := hBin i (by omega)
    have hb2 := hBin (i + 1) (by omega)
    have hAn := hAin j.rs.length (Nat.le_refl _)
    generalize j.ss[i]'(by omega) = s at *
    unfold sizeM at hst
    obtain ⟨sx, sa, sb⟩ := s
    dsimp only at *
    have w2 : IntKind.i64.wrap (sb - sa) = sb - sa := wrap_in (by omega)
    have w3 : IntKind.i64.wrap (A j.rs.length - Bs i - (sb - sa)) = A j.rs.length - Bs (i + 1) := by rw [wrap_in (by omega)]; omega
    simp (maxSteps := 1000000) (implicitDefEqProofs := false) only [a2, a3, g1, w2, w3, encStrip, evRegion_st hk2, beq_self_eq_true, Int.natCast_nonneg, Int.toNat_natCast, List.getElem?_map, List.length_map, ss, sd, evOp, evPlain, evVal, evMem, St.get, sliceOf, arrayOf, fieldsOf, normOf, norm, look, evVar, evFieldAddr, nameOf, St.alloc, St.drop, killOb, part, splice, depth, resultsV, ↓reduceIte, Nat.reduceBEq, Nat.reduceAdd, Nat.reduceSub, Nat.reduceMul, Nat.reduceEqDiff, Nat.reduceLeDiff, Nat.reduceLT, effOf, effMem, effVar, effLit, effMake, effApp, lend, evLit, evNil, freeze, evField, evIndexT, orNil, evSlice, placeOf, evMap, mapOf, keyOk, evFrame, closed, fixed, sameEs, wit, Option.isSome_some, St.with, wantedD, Array.size, te, einl, inls, efr]
    (first | exact ⟨(), trivial⟩ | refine ⟨(), ?_, trivial⟩ | skip)
end Go.AM.D
