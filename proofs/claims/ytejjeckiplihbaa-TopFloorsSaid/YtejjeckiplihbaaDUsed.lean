/-
How many rolls are used.
-/
import Derived.Test.YtejjeckiplihbaaDComp
import Derived.Test.YtejjeckiplihbaaDCheckG
import Derived.Test.YtejjeckiplihbaaDFitP
set_option linter.unusedSimpArgs false
set_option maxRecDepth 20000

namespace Go.AM.D
open Go Go.AM Go.Proofs

def seenB (m : List Int) (k : Nat) (r : Nat) : Bool := (m.take k).any fun x => decide (x = (r : Int))
theorem seen_iff {m : List Int} {k r : Nat} : seenB m k r = true ↔ ∃ i, i < k ∧ m[i]? = some (r : Int) := by
  unfold seenB
  rw [List.any_eq_true]
  constructor
  · rintro ⟨x, hx, he⟩
    obtain ⟨i, hi, rfl⟩ := List.mem_iff_getElem.1 hx
    rw [List.length_take] at hi
    rw [List.getElem_take] at he
    exact ⟨i, by omega, by rw [List.getElem?_eq_getElem (by omega)]; exact congrArg some (of_decide_eq_true he)⟩
  · rintro ⟨i, hi, hm⟩
    obtain ⟨h1, h2⟩ := List.getElem?_eq_some_iff.1 hm
    refine ⟨m[i], ?_, decide_eq_true h2⟩
    rw [List.mem_iff_getElem]
    exact ⟨i, by rw [List.length_take]; omega, List.getElem_take⟩
/-- In a sorted list the runs are the different numbers. -/
theorem runs_count {m : List Int} {N : Nat} (hs : m.Pairwise fun x y => x ≤ y) (hm : ∀ x ∈ m, 0 ≤ x ∧ x < N) : ∀ k : Nat, k ≤ m.length → runsTo m k = (List.range N).countP (seenB m k)
  | 0, _ => by
    have : ∀ r, seenB m 0 r = false := fun r => by simp [seenB]
    show 0 = _
    symm
    rw [List.countP_eq_zero]
    intro r _
    rw [this]
    decide
  | k + 1, hk => by
    have ih := runs_count hs hm k (by omega)
    have gk : m[k]? = some m[k] := List.getElem?_eq_getElem (by omega)
    have bk := hm m[k] (List.getElem_mem _)
    obtain ⟨r, hr⟩ : ∃ r : Nat, m[k] = (r : Int) := ⟨m[k].toNat, by omega⟩
    have gk' : m[k]? = some (r : Int) := by rw [gk, hr]
    have hsuc : ∀ i, seenB m (k + 1) i = (seenB m k i || decide (i = r)) := fun i => by
      rw [Bool.eq_iff_iff, Bool.or_eq_true, seen_iff, seen_iff, decide_eq_true_eq]
      constructor
      · rintro ⟨a, ha, he⟩
        by_cases hak : a = k
        · subst hak
          rw [gk'] at he
          have := Option.some.inj he
          exact .inr (by omega)
        · exact .inl ⟨a, by omega, he⟩
      · rintro (⟨a, ha, he⟩ | rfl)
        · exact ⟨a, by omega, he⟩
        · exact ⟨k, by omega, gk'⟩
    have hold : seenB m k r = true ↔ ¬ k = 0 ∧ m.getD k 0 = m.getD (k - 1) 0 := by
      rw [seen_iff]
      constructor
      · rintro ⟨a, ha, he⟩
        refine ⟨by omega, ?_⟩
        have g1 : m[k - 1]? = some (m[k - 1]'(by omega)) := List.getElem?_eq_getElem _
        obtain ⟨a1, a2⟩ := List.getElem?_eq_some_iff.1 he
        have p := List.pairwise_iff_getElem.1 hs
        have o1 := p (k - 1) k (by omega) (by omega) (by omega)
        have o2 : m[a] ≤ m[k - 1]'(by omega) := by
          rcases Nat.lt_or_ge a (k - 1) with h | h
          · exact p a (k - 1) (by omega) (by omega) h
          · have : a = k - 1 := by omega
            subst this
            exact Int.le_refl _
        rw [List.getD_eq_getElem?_getD, List.getD_eq_getElem?_getD, gk, g1]
        show m[k] = m[k - 1]'(by omega)
        omega
      · rintro ⟨h0, he⟩
        refine ⟨k - 1, by omega, ?_⟩
        have g1 : m[k - 1]? = some (m[k - 1]'(by omega)) := List.getElem?_eq_getElem _
        rw [List.getD_eq_getElem?_getD, List.getD_eq_getElem?_getD, gk', g1] at he
        rw [g1]
        exact congrArg some he.symm
    show runsTo m k + (if _ then 1 else 0) = _
    rw [ih]
    cases hsr : seenB m k r with
    | true =>
      have h1 := hold.1 hsr
      rw [if_neg (by rintro (h | h); exact h1.1 h; exact h h1.2)]
      have : seenB m k = seenB m (k + 1) := by
        funext i
        rw [hsuc]
        by_cases hi : i = r
        · subst hi; rw [hsr]; rfl
        · rw [decide_eq_false hi, Bool.or_false]
      rw [this, Nat.add_zero]
    | false =>
      have h1 : k = 0 ∨ ¬ m.getD k 0 = m.getD (k - 1) 0 := by
        by_cases h0 : k = 0
        · exact .inl h0
        · refine .inr fun h => ?_
          rw [hold.2 ⟨h0, h⟩] at hsr
          cases hsr
      rw [if_pos h1, countP_point (k := r) (p := seenB m k) (q := seenB m (k + 1)) hsr (by rw [hsuc, decide_eq_true rfl, Bool.or_true]) (fun i hi => by rw [hsuc, decide_eq_false hi, Bool.or_false]), if_pos (by omega)]
/-- The rolls of right cuts: sorted, their runs are the used rolls. -/
theorem used_runs {j : Job} {cuts : List Cut} (h : Fit j cuts) : runsTo (isort ltI (cuts.map (·.r))) (cuts.map (·.r)).length = usedN j cuts := by
  have hp := isort_perm (lt := ltI) (cuts.map (·.r))
  rw [show (cuts.map (·.r)).length = (isort ltI (cuts.map (·.r))).length from (isort_len _).symm]
  rw [runs_count (N := j.rs.length) (sorted_ints _) (fun x hx => by
    obtain ⟨c, hc, rfl⟩ := List.mem_map.1 (hp.mem_iff.1 hx)
    have := (h.good c hc).1
    omega) _ (Nat.le_refl _)]
  unfold usedN
  congr 1
  funext r
  rw [Bool.eq_iff_iff]
  unfold seenB rollUsed
  rw [List.take_length, List.any_eq_true, List.any_eq_true]
  constructor
  · rintro ⟨x, hx, he⟩
    obtain ⟨c, hc, rfl⟩ := List.mem_map.1 (hp.mem_iff.1 hx)
    exact ⟨c, hc, he⟩
  · rintro ⟨c, hc, he⟩
    exact ⟨c.r, hp.mem_iff.2 (List.mem_map_of_mem hc), he⟩

theorem c49 (j : Job) (cuts : List Cut) (hn : cuts.length ≤ 1000000000) : (orcω E X0).call 49 [encJob j, .sl false (cuts.map encCut)] = some (.tup [.int .i64 (usedV j cuts), .int .i64 (checkM j cuts)]) := by
  refine call_of rfl fn49 rfl ?_
  have k1 := c52 j cuts hn
  unfold usedV
  by_cases he : checkM j cuts = 0
  rotate_left
  · rw [if_neg he]
    have q1 : (checkM j cuts != 0) = true := by simpa using he
    generalize checkM j cuts = e at *
    unfold encJob at k1 ⊢
    simp (maxSteps := 1000000) (implicitDefEqProofs := false) only [Try.ntmps49, Try.results49, efc49, fc49, k1, q1, ss, sd, evOp, evPlain, evVal, evMem, St.get, sliceOf, arrayOf, fieldsOf, normOf, norm, look, evVar, evFieldAddr, nameOf, St.alloc, St.drop, killOb, part, splice, depth, resultsV, ↓reduceIte, Nat.reduceBEq, Nat.reduceAdd, Nat.reduceSub, Nat.reduceMul, Nat.reduceEqDiff, Nat.reduceLeDiff, Nat.reduceLT, effOf, effMem, effVar, effLit, effMake, effApp, lend, evLit, evNil, freeze, evField, evIndexT, orNil, evSlice, placeOf, evMap, mapOf, keyOk, evFrame, closed, fixed, sameEs, wit, Option.isSome_some, St.with, wantedD, Array.size, te, einl, inls, efr]
  rw [if_pos he, he]
  rw [he] at k1
  have hfit := checkM_zero he
  have hu := used_runs hfit
  have h6 := hfit.job.nss
  have hl := hfit.len
  clear he hfit
  unfold encJob at k1 ⊢
  simp (maxSteps := 1000000) (implicitDefEqProofs := false) only [Try.ntmps49, Try.results49, efc49, fc49, k1, bne_self_eq_false, List.length_map, ss, sd, evOp, evPlain, evVal, evMem, St.get, sliceOf, arrayOf, fieldsOf, normOf, norm, look, evVar, evFieldAddr, nameOf, St.alloc, St.drop, killOb, part, splice, depth, resultsV, ↓reduceIte, Nat.reduceBEq, Nat.reduceAdd, Nat.reduceSub, Nat.reduceMul, Nat.reduceEqDiff, Nat.reduceLeDiff, Nat.reduceLT, effOf, effMem, effVar, effLit, effMake, effApp, lend, evLit, evNil, freeze, evField, evIndexT, orNil, evSlice, placeOf, evMap, mapOf, keyOk, evFrame, closed, fixed, sameEs, wit, Option.isSome_some, St.with, wantedD, Array.size, te, einl, inls, efr]
  generalize hr : loopAt _ _ _ _ _ _ = r; revert r
  refine loop_list cuts (fun pre _ => [(7, .own 7 0 pre.length), (18, .int .i64 pre.length)]) (fun pre _ => [(7, obB ((pre.map (·.r)).map vI))]) (fun _ (_ : Unit) => True) () (by omega) (by simp (maxSteps := 1000000) (implicitDefEqProofs := false) only [obB, ss, sd, evOp, evPlain, evVal, evMem, St.get, sliceOf, arrayOf, fieldsOf, normOf, norm, look, evVar, evFieldAddr, nameOf, St.alloc, St.drop, killOb, part, splice, depth, resultsV, ↓reduceIte, Nat.reduceBEq, Nat.reduceAdd, Nat.reduceSub, Nat.reduceMul, Nat.reduceEqDiff, Nat.reduceLeDiff, Nat.reduceLT, effOf, effMem, effVar, effLit, effMake, effApp, lend, evLit, evNil, freeze, evField, evIndexT, orNil, evSlice, placeOf, evMap, mapOf, keyOk, evFrame, closed, fixed, sameEs, wit, Option.isSome_some, St.with, wantedD, Array.size, te, einl, inls, efr]) trivial (fun _ _ => ?_) (fun pre x post _ hp _ g1 g2 g3 g4 => ?_)
  · have hlen : (cuts.map (·.r)).length = cuts.length := by simp
    have hlen2 : (isort ltI (cuts.map (·.r))).length = cuts.length := by rw [isort_len, hlen]
    have k2 := fun b outer => c100 b 7 outer [(7, { es := 1, flat := true, t := true, app := true, elems := (cuts.map (·.r)).map vI })] (cuts.map (·.r)) (by omega) true true rfl rfl
    have k3 := fun b outer => c101 b 7 outer [(7, { es := 1, flat := true, t := true, app := true, elems := (isort ltI (cuts.map (·.r))).map vI })] (isort ltI (cuts.map (·.r))) (by omega) true true rfl rfl
    rw [hlen] at k2 hu
    rw [hlen2, hu] at k3
    generalize cuts.map (·.r) = m at *
    generalize usedN j cuts = un at *
    generalize isort ltI m = m' at *
    obtain ⟨f, k2⟩ := Classical.skolem.1 fun b => Classical.skolem.1 (k2 b)
    obtain ⟨f3, k3⟩ := Classical.skolem.1 fun b => Classical.skolem.1 (k3 b)
    obtain ⟨f4, k3⟩ := Classical.skolem.1 fun b => Classical.skolem.1 (k3 b)
    simp (maxSteps := 1000000) (implicitDefEqProofs := false) only [Int.lt_irrefl, k2, k3, obB, Try.ntmps49, Try.results49, efc49, fc49, ss, sd, evOp, evPlain, evVal, evMem, St.get, sliceOf, arrayOf, fieldsOf, normOf, norm, look, evVar, evFieldAddr, nameOf, St.alloc, St.drop, killOb, part, splice, depth, resultsV, ↓reduceIte, Nat.reduceBEq, Nat.reduceAdd, Nat.reduceSub, Nat.reduceMul, Nat.reduceEqDiff, Nat.reduceLeDiff, Nat.reduceLT, effOf, effMem, effVar, effLit, effMake, effApp, lend, evLit, evNil, freeze, evField, evIndexT, orNil, evSlice, placeOf, evMap, mapOf, keyOk, evFrame, closed, fixed, sameEs, wit, Option.isSome_some, St.with, wantedD, Array.size, te, einl, inls, efr]
  · have hroom : roomy (pre.length + 1) 8 = true := by
      have : pre.length < 6 := by omega
      simp [roomy]; omega
    have hbig : pre.length + 1 ≤ 4294967296 := by omega
    have z1 : sized 1 ((pre.map (·.r)).map vI) = true := sized_vI _
    have e1 : (pre.map (·.r)).map vI ++ [.int .i64 x.r] = ((pre ++ [x]).map (·.r)).map vI := by simp [vI]
    have e3 : (pre ++ [x]).length = pre.length + 1 := by simp
    simp (maxSteps := 1000000) (implicitDefEqProofs := false) only [g1, g2, g3, g4, hroom, hbig, z1, e1, e3, obB, encCut, Int.natCast_nonneg, Int.toNat_natCast, List.getElem?_map, List.length_map, ss, sd, evOp, evPlain, evVal, evMem, St.get, sliceOf, arrayOf, fieldsOf, normOf, norm, look, evVar, evFieldAddr, nameOf, St.alloc, St.drop, killOb, part, splice, depth, resultsV, ↓reduceIte, Nat.reduceBEq, Nat.reduceAdd, Nat.reduceSub, Nat.reduceMul, Nat.reduceEqDiff, Nat.reduceLeDiff, Nat.reduceLT, effOf, effMem, effVar, effLit, effMake, effApp, lend, evLit, evNil, freeze, evField, evIndexT, orNil, evSlice, placeOf, evMap, mapOf, keyOk, evFrame, closed, fixed, sameEs, wit, Option.isSome_some, St.with, wantedD, Array.size, te, einl, inls, efr]
    (first | exact ⟨(), trivial⟩ | refine ⟨(), ?_, trivial⟩ | skip)
end Go.AM.D
