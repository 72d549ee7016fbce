/-
FloorBounds: the fewest rolls against accepted cuts, the lower bound, one roll more.
-/
import Derived.Test.YtejjeckiplihbaaDLb
import Derived.Test.YtejjeckiplihbaaDOptG
import Derived.Test.YtejjeckiplihbaaDJobs
import Derived.Test.YtejjeckiplihbaaDSaneB
import Derived.Test.YtejjeckiplihbaaAmBad
set_option linter.unusedSimpArgs false
set_option maxRecDepth 20000

namespace Go.AM.D
open Go Go.AM Go.Proofs

theorem inf14 : (drawn (Try.f14.body.getD .skip)).map infosOf = [[([], false), ([], false), ([0], false), ([], false), ([0, 3], false), ([0, 2, 3], false), ([], true), ([], true), ([], true)]] := by decide +kernel
theorem okD14 : (drawn (Try.f14.body.getD .skip)).all okBad = true := by decide +kernel
theorem fewV_form (j : Job) : ∃ (l : List Cut) (a : Int) (b : Bool) (c : Int), fewV j = .tup [.sl true (l.map encCut), .int .i64 a, .bool b, .int .i64 c] := by
  unfold fewV
  split
  · exact ⟨[], _, _, _, rfl⟩
  · split
    · exact ⟨_, _, _, _, rfl⟩
    · exact ⟨[], _, _, _, rfl⟩
theorem lbV_form (j : Job) : ∃ (a : Int) (b : Bool) (c : Int), lbV j = .tup [.int .i64 a, .bool b, .int .i64 c] := by
  unfold lbV
  repeat' split
  all_goals exact ⟨_, _, _, rfl⟩
/-- What the answers say of each other. -/
structure Says (j : Job) (cuts : List Cut) (r : Roll) (n : Int) (ok : Bool) (e u f a : Int) (found : Bool) (g m : Int) (is : Bool) (h : Int) : Prop where
  first : f = 0 → e = 0 ∧ ok = true ∧ n ≤ u ∧ g = 0 ∧ found = true ∧ a ≤ n
  more : e = 0 → ok = true → h = 0 → is = true ∧ m ≤ n
theorem says {j : Job} {cuts : List Cut} {r : Roll} {l l' : List Cut} {n e a g m h : Int} {ok found is : Bool}
    (h1 : fewV j = .tup [.sl true (l.map encCut), .int .i64 n, .bool ok, .int .i64 e]) (h2 : lbV j = .tup [.int .i64 a, .bool found, .int .i64 g]) (h3 : fewV ⟨j.ss, j.rs ++ [r], j.rep⟩ = .tup [.sl true (l'.map encCut), .int .i64 m, .bool is, .int .i64 h]) :
    Says j cuts r n ok e (usedV j cuts) (checkM j cuts) a found g m is h := by
  constructor
  · intro hf
    have hfit := checkM_zero hf
    have hje : jobE j = 0 := by
      unfold checkM at hf
      split at hf
      · assumption
      · exact hf
    have hjo := (jobE_zero hje).2
    obtain ⟨l0, c, hc, hle⟩ := fewM_used hfit (jobOk_iff.1 hjo).2.2
    unfold fewV at h1
    rw [if_neg (fun q => q hje), hc] at h1
    simp only [V.tup.injEq, List.cons.injEq, V.int.injEq, V.bool.injEq, true_and, and_true] at h1
    obtain ⟨_, rfl, rfl, rfl⟩ := h1
    unfold lbV at h2
    rw [if_neg (fun q => q hje)] at h2
    unfold usedV
    rw [if_pos hf]
    refine ⟨rfl, rfl, by omega, ?_⟩
    by_cases hz : lenM j.ss = 0
    · rw [if_pos hz] at h2
      simp only [V.tup.injEq, List.cons.injEq, V.int.injEq, V.bool.injEq, true_and, and_true] at h2
      obtain ⟨rfl, rfl, rfl⟩ := h2
      exact ⟨rfl, rfl, by omega⟩
    · rw [if_neg hz] at h2
      simp only [V.tup.injEq, List.cons.injEq, V.int.injEq, V.bool.injEq, true_and, and_true] at h2
      obtain ⟨rfl, rfl, rfl⟩ := h2
      have hst : ∀ s ∈ j.ss, 0 ≤ s.a ∧ s.a ≤ s.b ∧ s.b ≤ 60 := fun s hs => by have := hfit.job.ss s hs; omega
      have hpos := (lenM_in hst).1
      have := lb_few hfit.job hjo hc (by omega)
      exact ⟨rfl, decide_eq_true this.1, this.2⟩
  · intro he hok hh
    subst he hok hh
    have hje : jobE j = 0 := by
      rcases Classical.em (jobE j = 0) with q | q
      · exact q
      · unfold fewV at h1
        rw [if_pos q] at h1
        simp at h1
    have hje' : jobE ⟨j.ss, j.rs ++ [r], j.rep⟩ = 0 := by
      rcases Classical.em (jobE ⟨j.ss, j.rs ++ [r], j.rep⟩ = 0) with q | q
      · exact q
      · unfold fewV at h3
        rw [if_pos q] at h3
        simp only [V.tup.injEq, List.cons.injEq, V.int.injEq, true_and, and_true] at h3
        exact absurd h3.2.2.2 q
    unfold fewV at h1 h3
    rw [if_neg (fun q => q hje)] at h1
    rw [if_neg (fun q => q hje')] at h3
    cases hc : fewM j with
    | none => rw [hc] at h1; simp at h1
    | some p =>
      obtain ⟨l0, c⟩ := p
      rw [hc] at h1
      simp only [V.tup.injEq, List.cons.injEq, V.int.injEq, V.bool.injEq, true_and, and_true] at h1
      obtain ⟨l1, c1, hc1, hle⟩ := fewM_more (x := r) (show fewM ⟨j.ss, j.rs, j.rep⟩ = some (l0, c) from hc)
      rw [hc1] at h3
      simp only [V.tup.injEq, List.cons.injEq, V.int.injEq, V.bool.injEq, true_and, and_true] at h3
      obtain ⟨_, rfl, rfl⟩ := h3
      obtain ⟨_, rfl⟩ := h1
      exact ⟨rfl, by omega⟩
set_option maxRecDepth 20000 in
set_option maxHeartbeats 16000000 in
theorem c14 (j : Job) (cuts : List Cut) (r : Roll) (hn : j.rs.length ≤ 1048576) : (orcω E X0).call 14 [encJob j, .sl false (cuts.map encCut), encRoll r] = some (.bool true) := by
  refine call_of rfl fn14 rfl ?_
  have hi := inf14
  have ho := okD14
  simp only [Try.f14, Option.getD_some, drawn, List.map_cons, List.map_nil, List.nil_append, List.append_nil, List.cons_append, List.cons.injEq, and_true] at hi
  simp only [Try.f14, Option.getD_some, drawn, List.nil_append, List.append_nil, List.cons_append, List.all_cons, List.all_nil, Bool.and_true, Bool.and_eq_true] at ho
  have k0 := c17
  by_cases h40 : (40 : Int) < cuts.length
  · unfold encJob encRoll
    simp (maxSteps := 1000000) (implicitDefEqProofs := false) only [Try.ntmps14, Try.results14, efc14, fc14, k0, h40, List.length_map, ss, sd, evOp, evPlain, evVal, evMem, St.get, sliceOf, arrayOf, fieldsOf, normOf, norm, look, evVar, evFieldAddr, nameOf, St.alloc, St.drop, killOb, part, splice, depth, resultsV, ↓reduceIte, Nat.reduceBEq, Nat.reduceAdd, Nat.reduceSub, Nat.reduceMul, Nat.reduceEqDiff, Nat.reduceLeDiff, Nat.reduceLT, effOf, effMem, effVar, effLit, effMake, effApp, lend, evLit, evNil, freeze, evField, evIndexT, orNil, evSlice, placeOf, evMap, mapOf, keyOk, evFrame, closed, fixed, sameEs, wit, Option.isSome_some, St.with, wantedD, Array.size, te, einl, inls, efr]
  have k1 := c39 j
  have k2 := c43 j
  have k3 := c49 j cuts (by omega)
  have k4 := c46 j
  have k5 := c39 ⟨j.ss, j.rs ++ [r], j.rep⟩
  have k6 := c43 ⟨j.ss, j.rs ++ [r], j.rep⟩
  obtain ⟨l, n, ok, e, h1⟩ := fewV_form j
  obtain ⟨a, found, g, h2⟩ := lbV_form j
  obtain ⟨l', m, is, h, h3⟩ := fewV_form ⟨j.ss, j.rs ++ [r], j.rep⟩
  have hs := says (cuts := cuts) h1 h2 h3
  rw [h1] at k2
  rw [h2] at k4
  rw [h3] at k6
  generalize usedV j cuts = u at *
  generalize checkM j cuts = f at *
  clear h1 h2 h3
  obtain ⟨s1, s2⟩ := hs
  have hroom : roomy j.rs.length 24 = true := by simp [roomy]; omega
  have hbig : j.rs.length ≤ 4294967296 := by omega
  have hroom2 : roomy (j.rs.length + 1) 24 = true := by simp [roomy]; omega
  have hbig2 : j.rs.length + 1 ≤ 4294967296 := by omega
  have z1 : sized 3 (j.rs.map encRoll) = true := sized_map (f := encRoll) (n := 3) (fun _ => ⟨_, rfl, rfl⟩) _
  have r1 : refFreeL (j.rs.map encRoll) = true := refFreeL_map (f := encRoll) (fun _ => rfl) _
  have b1 : bareL (j.rs.map encRoll) = true := bareL_map (f := encRoll) (fun _ => rfl) _
  have p1 : plainL (j.rs.map encRoll) = true := plainL_map (f := encRoll) (fun _ => rfl) _
  have e1 : j.rs.map encRoll ++ [.agg [.int .i64 r.l, .int .i64 r.ph, .int .i64 r.sh]] = (j.rs ++ [r]).map encRoll := by simp [encRoll]
  have e2 : (j.rs ++ [r]).length = j.rs.length + 1 := by simp
  have tk : ((j.rs ++ [r]).map encRoll).take (j.rs.length + 1) = (j.rs ++ [r]).map encRoll := List.take_of_length_le (by simp)
  unfold encJob at *
  dsimp only at k5 k6
  by_cases hf : f = 0
  · have hs1 := s1 hf
    obtain ⟨rfl, rfl, hu, rfl, rfl, ha⟩ := hs1
    subst hf
    have q1 : ¬ u < n := by omega
    have q2 : ¬ n < a := by omega
    by_cases hh : h = 0
    · obtain ⟨rfl, hm⟩ := s2 rfl rfl hh
      subst hh
      simp (maxSteps := 1000000) (implicitDefEqProofs := false) only [Try.ntmps14, Try.results14, efc14, fc14, k0, k1, k2, k3, k4, k5, k6, h40, hroom, hbig, hroom2, hbig2, z1, r1, b1, p1, e1, e2, tk, bne_self_eq_false, beq_self_eq_true, encRoll, regT ho hi, evBT_nil, evBT_cons, effT_true, effT_false, effT2_some, effT2_none, calmT, free, Eff.writes, supp, isBar, Option.toList_some, Option.toList_none, List.length_map, List.nil_append, List.length_nil, Nat.zero_add, Int.natCast_nonneg, Int.toNat_natCast, q1, q2, hm, ss, sd, evOp, evPlain, evVal, evMem, St.get, sliceOf, arrayOf, fieldsOf, normOf, norm, look, evVar, evFieldAddr, nameOf, St.alloc, St.drop, killOb, part, splice, depth, resultsV, ↓reduceIte, Nat.reduceBEq, Nat.reduceAdd, Nat.reduceSub, Nat.reduceMul, Nat.reduceEqDiff, Nat.reduceLeDiff, Nat.reduceLT, effOf, effMem, effVar, effLit, effMake, effApp, lend, evLit, evNil, freeze, evField, evIndexT, orNil, evSlice, placeOf, evMap, mapOf, keyOk, evFrame, closed, fixed, sameEs, wit, Option.isSome_some, St.with, wantedD, Array.size, te, einl, inls, efr]
    · have q3 : (h != 0) = true := by simpa using hh
      simp (maxSteps := 1000000) (implicitDefEqProofs := false) only [Try.ntmps14, Try.results14, efc14, fc14, k0, k1, k2, k3, k4, k5, k6, h40, hroom, hbig, hroom2, hbig2, z1, r1, b1, p1, e1, e2, tk, bne_self_eq_false, beq_self_eq_true, encRoll, regT ho hi, evBT_nil, evBT_cons, effT_true, effT_false, effT2_some, effT2_none, calmT, free, Eff.writes, supp, isBar, Option.toList_some, Option.toList_none, List.length_map, List.nil_append, List.length_nil, Nat.zero_add, Int.natCast_nonneg, Int.toNat_natCast, q1, q2, q3, ss, sd, evOp, evPlain, evVal, evMem, St.get, sliceOf, arrayOf, fieldsOf, normOf, norm, look, evVar, evFieldAddr, nameOf, St.alloc, St.drop, killOb, part, splice, depth, resultsV, ↓reduceIte, Nat.reduceBEq, Nat.reduceAdd, Nat.reduceSub, Nat.reduceMul, Nat.reduceEqDiff, Nat.reduceLeDiff, Nat.reduceLT, effOf, effMem, effVar, effLit, effMake, effApp, lend, evLit, evNil, freeze, evField, evIndexT, orNil, evSlice, placeOf, evMap, mapOf, keyOk, evFrame, closed, fixed, sameEs, wit, Option.isSome_some, St.with, wantedD, Array.size, te, einl, inls, efr]
  · have qf : (f == 0) = false := by simpa using hf
    by_cases he : e = 0
    · subst he
      cases ok with
      | false => simp (maxSteps := 1000000) (implicitDefEqProofs := false) only [Try.ntmps14, Try.results14, efc14, fc14, k0, k1, k2, k3, k4, k5, k6, h40, hroom, hbig, hroom2, hbig2, z1, r1, b1, p1, e1, e2, tk, bne_self_eq_false, beq_self_eq_true, encRoll, regT ho hi, evBT_nil, evBT_cons, effT_true, effT_false, effT2_some, effT2_none, calmT, free, Eff.writes, supp, isBar, Option.toList_some, Option.toList_none, List.length_map, List.nil_append, List.length_nil, Nat.zero_add, Int.natCast_nonneg, Int.toNat_natCast, qf, ss, sd, evOp, evPlain, evVal, evMem, St.get, sliceOf, arrayOf, fieldsOf, normOf, norm, look, evVar, evFieldAddr, nameOf, St.alloc, St.drop, killOb, part, splice, depth, resultsV, ↓reduceIte, Nat.reduceBEq, Nat.reduceAdd, Nat.reduceSub, Nat.reduceMul, Nat.reduceEqDiff, Nat.reduceLeDiff, Nat.reduceLT, effOf, effMem, effVar, effLit, effMake, effApp, lend, evLit, evNil, freeze, evField, evIndexT, orNil, evSlice, placeOf, evMap, mapOf, keyOk, evFrame, closed, fixed, sameEs, wit, Option.isSome_some, St.with, wantedD, Array.size, te, einl, inls, efr]
      | true =>
        by_cases hh : h = 0
        · obtain ⟨rfl, hm⟩ := s2 rfl rfl hh
          subst hh
          simp (maxSteps := 1000000) (implicitDefEqProofs := false) only [Try.ntmps14, Try.results14, efc14, fc14, k0, k1, k2, k3, k4, k5, k6, h40, hroom, hbig, hroom2, hbig2, z1, r1, b1, p1, e1, e2, tk, bne_self_eq_false, beq_self_eq_true, encRoll, regT ho hi, evBT_nil, evBT_cons, effT_true, effT_false, effT2_some, effT2_none, calmT, free, Eff.writes, supp, isBar, Option.toList_some, Option.toList_none, List.length_map, List.nil_append, List.length_nil, Nat.zero_add, Int.natCast_nonneg, Int.toNat_natCast, qf, hm, ss, sd, evOp, evPlain, evVal, evMem, St.get, sliceOf, arrayOf, fieldsOf, normOf, norm, look, evVar, evFieldAddr, nameOf, St.alloc, St.drop, killOb, part, splice, depth, resultsV, ↓reduceIte, Nat.reduceBEq, Nat.reduceAdd, Nat.reduceSub, Nat.reduceMul, Nat.reduceEqDiff, Nat.reduceLeDiff, Nat.reduceLT, effOf, effMem, effVar, effLit, effMake, effApp, lend, evLit, evNil, freeze, evField, evIndexT, orNil, evSlice, placeOf, evMap, mapOf, keyOk, evFrame, closed, fixed, sameEs, wit, Option.isSome_some, St.with, wantedD, Array.size, te, einl, inls, efr]
        · have q3 : (h != 0) = true := by simpa using hh
          simp (maxSteps := 1000000) (implicitDefEqProofs := false) only [Try.ntmps14, Try.results14, efc14, fc14, k0, k1, k2, k3, k4, k5, k6, h40, hroom, hbig, hroom2, hbig2, z1, r1, b1, p1, e1, e2, tk, bne_self_eq_false, beq_self_eq_true, encRoll, regT ho hi, evBT_nil, evBT_cons, effT_true, effT_false, effT2_some, effT2_none, calmT, free, Eff.writes, supp, isBar, Option.toList_some, Option.toList_none, List.length_map, List.nil_append, List.length_nil, Nat.zero_add, Int.natCast_nonneg, Int.toNat_natCast, qf, q3, ss, sd, evOp, evPlain, evVal, evMem, St.get, sliceOf, arrayOf, fieldsOf, normOf, norm, look, evVar, evFieldAddr, nameOf, St.alloc, St.drop, killOb, part, splice, depth, resultsV, ↓reduceIte, Nat.reduceBEq, Nat.reduceAdd, Nat.reduceSub, Nat.reduceMul, Nat.reduceEqDiff, Nat.reduceLeDiff, Nat.reduceLT, effOf, effMem, effVar, effLit, effMake, effApp, lend, evLit, evNil, freeze, evField, evIndexT, orNil, evSlice, placeOf, evMap, mapOf, keyOk, evFrame, closed, fixed, sameEs, wit, Option.isSome_some, St.with, wantedD, Array.size, te, einl, inls, efr]
    · have q3 : (e != 0) = true := by simpa using he
      simp (maxSteps := 1000000) (implicitDefEqProofs := false) only [Try.ntmps14, Try.results14, efc14, fc14, k0, k1, k2, k3, k4, k5, k6, h40, hroom, hbig, hroom2, hbig2, z1, r1, b1, p1, e1, e2, tk, bne_self_eq_false, beq_self_eq_true, encRoll, regT ho hi, evBT_nil, evBT_cons, effT_true, effT_false, effT2_some, effT2_none, calmT, free, Eff.writes, supp, isBar, Option.toList_some, Option.toList_none, List.length_map, List.nil_append, List.length_nil, Nat.zero_add, Int.natCast_nonneg, Int.toNat_natCast, qf, q3, ss, sd, evOp, evPlain, evVal, evMem, St.get, sliceOf, arrayOf, fieldsOf, normOf, norm, look, evVar, evFieldAddr, nameOf, St.alloc, St.drop, killOb, part, splice, depth, resultsV, ↓reduceIte, Nat.reduceBEq, Nat.reduceAdd, Nat.reduceSub, Nat.reduceMul, Nat.reduceEqDiff, Nat.reduceLeDiff, Nat.reduceLT, effOf, effMem, effVar, effLit, effMake, effApp, lend, evLit, evNil, freeze, evField, evIndexT, orNil, evSlice, placeOf, evMap, mapOf, keyOk, evFrame, closed, fixed, sameEs, wit, Option.isSome_some, St.with, wantedD, Array.size, te, einl, inls, efr]
end Go.AM.D
