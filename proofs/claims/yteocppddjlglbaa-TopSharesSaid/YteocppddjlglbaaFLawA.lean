/-
The law of shares behind its guards, where the sum over the paths is not told.
-/
import Derived.Test.YteocppddjlglbaaFOne
set_option linter.unusedVariables false
set_option linter.unusedSimpArgs false
set_option maxRecDepth 20000

namespace Go.AM.F
open Go Go.AM Go.Proofs

set_option maxHeartbeats 64000000 in
theorem law_no {l : List Lot} (g : Good l) (o i : Nat) (ho : o < l.length) (hi : i < l.length) {sl : List V} {c : Nat} {r x y z u : Nat × Nat} {s' : Int} 
    (kp : (orcω E X0).inl 1000 7 [encLots l, .int .i64 (o : Int), .int .i64 (i : Int), .ptr 7 0 0] (pathSt 3000) = some (.tup [ratV r.1 r.2, .bool false], { slots := sl, outer := [[.ptr 7 0 0]], objs := leftP c s' r x y z u })) : LawIs l o i := by
  unfold LawIs
  refine call_of rfl fn3 rfl ?_
  have v := g.v
  have k0 := one_share
  have k5 := c5 l
  rw [g.long] at k5
  have k6 := g.c6
  have n1 : ¬ ((o : Nat) : Int) < 0 := by omega
  have n2 : ¬ ((i : Nat) : Int) < 0 := by omega
  have n3 : ¬ (l.length : Int) ≤ (o : Int) := by omega
  have n4 : ¬ (l.length : Int) ≤ (i : Int) := by omega
  have hlen := v.len
  have hlk := look_leftP c s' r x y z u
  have hpk := pick_leftP c s' r x y z u
  have k4 := fun j (hj : j < l.length) => c4 g j i hj hi
  obtain ⟨f, hf, k8⟩ := c8 g i hi
  have k10 := g.c10
  have hWp := seg_pos v 0 (i + 1) (by omega)
  have hi := inf3
  have ho := okD3
  simp only [Try.f3, Option.getD_some, drawn, List.map_cons, List.map_nil, List.nil_append, List.append_nil, List.cons_append, List.cons.injEq, and_true] at hi
  simp only [Try.f3, Option.getD_some, drawn, List.nil_append, List.append_nil, List.cons_append, List.all_cons, List.all_nil, Bool.and_true, Bool.and_eq_true] at ho
  obtain ⟨hi1, hi2⟩ := hi
  obtain ⟨ho1, ho2⟩ := ho
  have hall : ∀ j ∈ srcM l f l.length, j < l.length := fun j hj => by
    have := (List.mem_filter.1 hj).1
    exact List.mem_range.1 this
  have hsum := src_sum v ‹i < l.length› hf
  simp only [encLots] at k5 k6 k8 k10
  simp only [pathSt, stepOb, encLots, ratV] at kp
  simp only [stepOb] at hlk hpk
  generalize hxs : srcM l f l.length = xs at *
  simp (maxSteps := 1000000) (implicitDefEqProofs := false) only [encLots, k0, k5, k6, n1, n2, n3, n4, kp, hlk, hpk, k8, bne_self_eq_false, List.isEmpty_cons, List.length_map, Try.ntmps3, Try.results3, efc3, fc3, ss, sd, zH, qG, zF, zG, St.get, qE, qF, qB, zC, norm, look, zE, qA, qI, St.alloc, St.drop, zA, part, zB, depth, qD, ↓reduceIte, Nat.reduceBEq, Nat.reduceAdd, Nat.reduceSub, Nat.reduceMul, Nat.reduceEqDiff, Nat.reduceLeDiff, Nat.reduceLT, qJ, qK, qL, qM, qN, qO, qP, qQ, qR, zI, qS, qC, qT, evSlice0, qV, qW, qX, qY, qZ, zJ, zK, zL, wit, Option.isSome_some, qH, xK, evPre, St.with, zD, Array.size, toldV, isIntV, orArr, offB, effFr, effFr2, effFr3, mapIn, restSame, sameO, eqW, eqWL, pickR, te, einl, inls, efr]
  generalize hr : loopAt _ _ _ _ _ _ = r; revert r
  refine loop_list xs (fun pre c => [(15, .bool c.2), (16, .int .i64 pre.length)]) (fun _ c => [(14, ratOb c.1)]) (fun pre (c : (Nat × Nat) × Bool) => validN c.1.1 c.1.2 = true ∧ (c.2 = true → Fr c.1 (sumX (fun j => num l j i) pre) (seg l 0 (i + 1)))) ((0, 1), true) (by have := srcM_len l f l.length; rw [hxs] at this; omega) (by simp (maxSteps := 1000000) (implicitDefEqProofs := false) only [ratOb, ratV, List.length_nil, Int.natCast_zero, Int.natCast_one, ss, sd, zH, qG, zF, zG, St.get, qE, qF, qB, zC, norm, look, zE, qA, qI, St.alloc, St.drop, zA, part, zB, depth, qD, ↓reduceIte, Nat.reduceBEq, Nat.reduceAdd, Nat.reduceSub, Nat.reduceMul, Nat.reduceEqDiff, Nat.reduceLeDiff, Nat.reduceLT, qJ, qK, qL, qM, qN, qO, qP, qQ, qR, zI, qS, qC, qT, evSlice0, qV, qW, qX, qY, qZ, zJ, zK, zL, wit, Option.isSome_some, qH, xK, evPre, St.with, zD, Array.size, toldV, isIntV, orArr, offB, effFr, effFr2, effFr3, mapIn, restSame, sameO, eqW, eqWL, pickR, te, einl, inls, efr]) ⟨rfl, fun _ => by unfold Fr; simp [sumX]⟩ (fun c hc => ?_) (fun pre x post c hx hc e1 e2 e3 e4 => ?_)
  · obtain ⟨⟨c1, c2⟩, c3⟩ := c
    dsimp only at hc
    have hof := lots_get ho
    have hmo := v.mass ho
    have ho' : (o : Int) < l.length := by omega
    have hairn := air_none (l := l)
    have hfin := fun hr hM => found_sum v ho hr (fun j => (leftF l j + lostM (lotN l j)).toNat) hM
    have hrec : l[o].parts = [] → isRec l o = true := fun h => by unfold isRec; rw [lotN_at ho, h]; rfl
    have hlo := lotN_at ho
    have hDp := seg_pos v 0 l.length (by omega)
    have hbal := audit_balance v
    generalize sumL recF l = A1 at *
    generalize sumI l.length (leftF l) = A2 at *
    generalize sumL (fun x => pos0 (lostM x)) l = A3 at *
    generalize sumL (fun x => pos0 (-lostM x)) l = A4 at *
    generalize l[o] = xo at *
    obtain ⟨xk, xm, ps⟩ := xo
    dsimp only at hmo hrec
    cases c3 with
    | false =>
      by_cases hair : 0 < A4
      · simp (maxSteps := 1000000) (implicitDefEqProofs := false) only [ratOb, ratV, k10, hbal, hair, bne_self_eq_false, Int.lt_irrefl, List.length_map, Try.ntmps3, Try.results3, efc3, fc3, ss, sd, zH, qG, zF, zG, St.get, qE, qF, qB, zC, norm, look, zE, qA, qI, St.alloc, St.drop, zA, part, zB, depth, qD, ↓reduceIte, Nat.reduceBEq, Nat.reduceAdd, Nat.reduceSub, Nat.reduceMul, Nat.reduceEqDiff, Nat.reduceLeDiff, Nat.reduceLT, qJ, qK, qL, qM, qN, qO, qP, qQ, qR, zI, qS, qC, qT, evSlice0, qV, qW, qX, qY, qZ, zJ, zK, zL, wit, Option.isSome_some, qH, xK, evPre, St.with, zD, Array.size, toldV, isIntV, orArr, offB, effFr, effFr2, effFr3, mapIn, restSame, sameO, eqW, eqWL, pickR, te, einl, inls, efr]
        done
      by_cases hps : ¬ ps = []
      · have hpos : (0 : Int) < ps.length := by have := List.length_pos_iff.2 hps; omega
        simp (maxSteps := 1000000) (implicitDefEqProofs := false) only [ratOb, ratV, k10, hbal, hair, hpos, hof, ho', encLot, bne_self_eq_false, Int.natCast_nonneg, Int.toNat_natCast, Int.lt_irrefl, List.length_map, Try.ntmps3, Try.results3, efc3, fc3, ss, sd, zH, qG, zF, zG, St.get, qE, qF, qB, zC, norm, look, zE, qA, qI, St.alloc, St.drop, zA, part, zB, depth, qD, ↓reduceIte, Nat.reduceBEq, Nat.reduceAdd, Nat.reduceSub, Nat.reduceMul, Nat.reduceEqDiff, Nat.reduceLeDiff, Nat.reduceLT, qJ, qK, qL, qM, qN, qO, qP, qQ, qR, zI, qS, qC, qT, evSlice0, qV, qW, qX, qY, qZ, zJ, zK, zL, wit, Option.isSome_some, qH, xK, evPre, St.with, zD, Array.size, toldV, isIntV, orArr, offB, effFr, effFr2, effFr3, mapIn, restSame, sameO, eqW, eqWL, pickR, te, einl, inls, efr]
        done
      replace hps := Decidable.not_not.1 hps
      subst hps
      simp (maxSteps := 1000000) (implicitDefEqProofs := false) only [ratOb, ratV, k10, hbal, hair, hof, ho', encLot, bne_self_eq_false, List.map_nil, List.length_nil, Int.natCast_zero, Int.natCast_nonneg, Int.toNat_natCast, Int.lt_irrefl, List.length_map, Try.ntmps3, Try.results3, efc3, fc3, ss, sd, zH, qG, zF, zG, St.get, qE, qF, qB, zC, norm, look, zE, qA, qI, St.alloc, St.drop, zA, part, zB, depth, qD, ↓reduceIte, Nat.reduceBEq, Nat.reduceAdd, Nat.reduceSub, Nat.reduceMul, Nat.reduceEqDiff, Nat.reduceLeDiff, Nat.reduceLT, qJ, qK, qL, qM, qN, qO, qP, qQ, qR, zI, qS, qC, qT, evSlice0, qV, qW, qX, qY, qZ, zJ, zK, zL, wit, Option.isSome_some, qH, xK, evPre, St.with, zD, Array.size, toldV, isIntV, orArr, offB, effFr, effFr2, effFr3, mapIn, restSame, sameO, eqW, eqWL, pickR, te, einl, inls, efr]
      generalize hr : loopAt _ _ _ _ _ _ = r; revert r
      refine loop_nat l.length (fun k _ => [(26, .int .i64 (k : Nat))]) (fun _ c => [(25, ratOb c)]) (fun k (c : Nat × Nat) => validN c.1 c.2 = true ∧ Fr c (sumR (fun j => numC l o j * (leftF l j + lostM (lotN l j)).toNat) k) (seg l 0 l.length)) (0, 1) (by omega) (by simp (maxSteps := 1000000) (implicitDefEqProofs := false) only [ratOb, ratV, Int.natCast_zero, Int.natCast_one, ss, sd, zH, qG, zF, zG, St.get, qE, qF, qB, zC, norm, look, zE, qA, qI, St.alloc, St.drop, zA, part, zB, depth, qD, ↓reduceIte, Nat.reduceBEq, Nat.reduceAdd, Nat.reduceSub, Nat.reduceMul, Nat.reduceEqDiff, Nat.reduceLeDiff, Nat.reduceLT, qJ, qK, qL, qM, qN, qO, qP, qQ, qR, zI, qS, qC, qT, evSlice0, qV, qW, qX, qY, qZ, zJ, zK, zL, wit, Option.isSome_some, qH, xK, evPre, St.with, zD, Array.size, toldV, isIntV, orArr, offB, effFr, effFr2, effFr3, mapIn, restSame, sameO, eqW, eqWL, pickR, te, einl, inls, efr]) ⟨rfl, by unfold Fr; simp [sumR]⟩ (fun c hc => ?_) (fun k c hc q1 q2 q3 => ?_)
      · have hfs := hfin (hrec rfl) fun j hj => by
          rw [lotN_at hj]
          exact had_eq v hj (hairn hair _ (List.getElem_mem hj))
        rw [hfs, hlo] at hc
        obtain ⟨w1, w2⟩ := whole_of hc.1 (show seg l 0 l.length ≠ 0 by omega) hc.2
        obtain ⟨c1, c2⟩ := c
        dsimp only at w1 w2
        subst w2
        have w3 : ((c1 : Nat) : Int) = xm := by rw [w1]; omega
        simp (maxSteps := 1000000) (implicitDefEqProofs := false) only [Int.lt_irrefl, ratOb, ratV, w3, hof, ho', encLot, Int.natCast_one, beq_self_eq_true, Int.natCast_nonneg, Int.toNat_natCast, List.length_map, regT ho2 hi2, evBT_nil, evBT_cons, effT_true, effT_false, effT2_some, effT2_none, calmT, free, Eff.writes, supp, isBar, Option.toList_some, Option.toList_none, reduceCtorEq, if_false, Try.ntmps3, Try.results3, efc3, fc3, ss, sd, zH, qG, zF, zG, St.get, qE, qF, qB, zC, norm, look, zE, qA, qI, St.alloc, St.drop, zA, part, zB, depth, qD, ↓reduceIte, Nat.reduceBEq, Nat.reduceAdd, Nat.reduceSub, Nat.reduceMul, Nat.reduceEqDiff, Nat.reduceLeDiff, Nat.reduceLT, qJ, qK, qL, qM, qN, qO, qP, qQ, qR, zI, qS, qC, qT, evSlice0, qV, qW, qX, qY, qZ, zJ, zK, zL, wit, Option.isSome_some, qH, xK, evPre, St.with, zD, Array.size, toldV, isIntV, orArr, offB, effFr, effFr2, effFr3, mapIn, restSame, sameO, eqW, eqWL, pickR, te, einl, inls, efr]
        done
      · have k11 := g.c11 k q1
        have k12 := g.c12 k q1
        have hlk := lotN_at q1
        have hlost := hairn hair _ (List.getElem_mem q1)
        have hleft := v.left k q1
        have hbm : leftF l k ≤ 100000 := by
          have a1 := sumTk_le k (l := l) fun y hy => by
            obtain ⟨z, hz, rfl⟩ := List.mem_iff_getElem.1 hy
            exact v.parts hz
          have a2 := v.mass q1
          have a3 : (lotAt l (k : Int)).mass = l[k].mass := by rw [lotAt_nat q1]
          unfold leftF
          omega
        have hbl : lostM l[k] ≤ 600000 := by
          have a1 := sumP_le l[k].parts (v.parts q1).2
          have a2 := (v.parts q1).1
          have a3 := v.mass q1
          unfold lostM
          split <;> omega
        obtain ⟨M, hM⟩ : ∃ M : Nat, M = (leftF l k + lostM (lotN l k)).toNat := ⟨_, rfl⟩
        have hMs : leftF l k + lostM l[k] = (M : Int) := by rw [hM, hlk]; omega
        have ws : IntKind.i64.wrap (leftF l k + lostM l[k]) = (M : Int) := by rw [wrap_in (by omega), hMs]
        have hMb : M ≤ 700000 := by omega
        have k13 := c13 M 1 (by omega) (by decide)
        have e0 : (makeN M 1).2.2 = 0 := make_ok (by omega) (by decide)
        have hmk := make_spec (Nat.le_refl 1) e0
        have hms := make_small M 1
        obtain ⟨m, hm⟩ : ∃ m : Nat × Nat, m = ((makeN M 1).1, (makeN M 1).2.1) := ⟨_, rfl⟩
        have k13' : (orcω E X0).call 13 [.int .i64 (M : Int), .int .i64 1] = some (.tup [ratV m.1 m.2, .int .i64 0]) := by
          have := k13
          rw [show ((1 : Nat) : Int) = 1 from rfl] at this
          rw [this, hm]; unfold encN; rw [e0]
        rw [← hm] at hmk hms
        have hmv : validN m.1 m.2 = true := by rw [hm]; exact hmk.2
        have k4k := c4 g o k ho q1
        have hsm := frac_small (num l o k) (seg l 0 (k + 1))
        obtain ⟨s, hs⟩ : ∃ s : Nat × Nat, s = ((fracN (num l o k) (seg l 0 (k + 1))).1, (fracN (num l o k) (seg l 0 (k + 1))).2.1) := ⟨_, rfl⟩
        obtain ⟨e1, he1⟩ : ∃ e : Int, e = (fracN (num l o k) (seg l 0 (k + 1))).2.2 := ⟨_, rfl⟩
        have k4' : (orcω E X0).call 4 [encLots l, .int .i64 (o : Int), .int .i64 (k : Int)] = some (.tup [ratV s.1 s.2, .int .i64 e1]) := by rw [k4k, hs, he1]; rfl
        rw [← hs] at hsm
        have k14 := c14 s m hsm hms
        have hts := mul_small s m
        obtain ⟨t, ht⟩ : ∃ t : Nat × Nat, t = ((mulN s m).1, (mulN s m).2.1) := ⟨_, rfl⟩
        obtain ⟨e2, he2⟩ : ∃ e : Int, e = (mulN s m).2.2 := ⟨_, rfl⟩
        have k14' : (orcω E X0).call 14 [ratV s.1 s.2, ratV m.1 m.2] = some (.tup [ratV t.1 t.2, .int .i64 e2]) := by rw [k14, ht, he2]; rfl
        rw [← ht] at hts
        have k9 := c9 c t (valid_small hc.1) hts
        obtain ⟨u, hu⟩ : ∃ u : Nat × Nat, u = ((addN c t).1, (addN c t).2.1) := ⟨_, rfl⟩
        obtain ⟨e3, he3⟩ : ∃ e : Int, e = (addN c t).2.2 := ⟨_, rfl⟩
        have k9' : (orcω E X0).call 9 [ratV c.1 c.2, ratV t.1 t.2] = some (.tup [ratV u.1 u.2, .int .i64 e3]) := by rw [k9, hu, he3]; rfl
        simp only [encLots, ratV] at k4' k9' k11 k12 k13' k14'
        by_cases z1 : e1 = 0
        · by_cases z2 : e2 = 0
          · by_cases z3 : e3 = 0
            · subst z1 z2 z3
              simp (maxSteps := 1000000) (implicitDefEqProofs := false) only [q2, q3, k4', k9', k11, k12, k13', k14', ws, ratOb, ratV, bne_self_eq_false, List.length_map, ss, sd, zH, qG, zF, zG, St.get, qE, qF, qB, zC, norm, look, zE, qA, qI, St.alloc, St.drop, zA, part, zB, depth, qD, ↓reduceIte, Nat.reduceBEq, Nat.reduceAdd, Nat.reduceSub, Nat.reduceMul, Nat.reduceEqDiff, Nat.reduceLeDiff, Nat.reduceLT, qJ, qK, qL, qM, qN, qO, qP, qQ, qR, zI, qS, qC, qT, evSlice0, qV, qW, qX, qY, qZ, zJ, zK, zL, wit, Option.isSome_some, qH, xK, evPre, St.with, zD, Array.size, toldV, isIntV, orArr, offB, effFr, effFr2, effFr3, mapIn, restSame, sameO, eqW, eqWL, pickR, te, einl, inls, efr]
              refine ⟨u, rfl, ?_, ?_⟩
              · obtain ⟨_, _, _, a4⟩ := add_spec he3.symm
                rw [hu]; exact a4
              · obtain ⟨_, _, a3, _⟩ := add_spec he3.symm
                rw [← hu] at a3
                obtain ⟨_, _, m3, m4⟩ := mul_spec he2.symm
                rw [← ht] at m3
                have hsp := seg_pos v 0 (k + 1) (by omega)
                obtain ⟨f1, f2⟩ := frac_spec (n := num l o k) (d := seg l 0 (k + 1)) (by omega) he1.symm
                rw [← hs] at f1
                have hsv : validN s.1 s.2 = true := by rw [hs]; exact f2
                have htv : validN t.1 t.2 = true := by rw [ht]; exact m4
                have h1 := fr_scale (fr_mul f1 hmk.1 m3 (validN_iff.1 hsv).1.1 (validN_iff.1 hmv).1.1) (seg l (k + 1) (l.length - (k + 1)))
                have h2 : seg l 0 (k + 1) * 1 * seg l (k + 1) (l.length - (k + 1)) = seg l 0 l.length := by
                  have := seg_add l 0 (k + 1) (l.length - (k + 1))
                  rw [Nat.zero_add, show k + 1 + (l.length - (k + 1)) = l.length by omega] at this
                  rw [Nat.mul_one, ← this]
                have h3 : num l o k * M * seg l (k + 1) (l.length - (k + 1)) = numC l o k * M := by unfold numC; ac_rfl
                rw [h2, h3] at h1
                have h := fr_add hc.2 h1 a3 (validN_iff.1 hc.1).1.1 (validN_iff.1 htv).1.1
                rw [sumR, ← hM]
                exact h
            · have r3 := bneI z3
              subst z1 z2
              simp (maxSteps := 1000000) (implicitDefEqProofs := false) only [q2, q3, k4', k9', k11, k12, k13', k14', ws, r3, ratOb, ratV, bne_self_eq_false, List.length_map, Try.ntmps3, Try.results3, efc3, fc3, ss, sd, zH, qG, zF, zG, St.get, qE, qF, qB, zC, norm, look, zE, qA, qI, St.alloc, St.drop, zA, part, zB, depth, qD, ↓reduceIte, Nat.reduceBEq, Nat.reduceAdd, Nat.reduceSub, Nat.reduceMul, Nat.reduceEqDiff, Nat.reduceLeDiff, Nat.reduceLT, qJ, qK, qL, qM, qN, qO, qP, qQ, qR, zI, qS, qC, qT, evSlice0, qV, qW, qX, qY, qZ, zJ, zK, zL, wit, Option.isSome_some, qH, xK, evPre, St.with, zD, Array.size, toldV, isIntV, orArr, offB, effFr, effFr2, effFr3, mapIn, restSame, sameO, eqW, eqWL, pickR, te, einl, inls, efr]
              done
          · have r2 := bneI z2
            subst z1
            simp (maxSteps := 1000000) (implicitDefEqProofs := false) only [q2, q3, k4', k9', k11, k12, k13', k14', ws, r2, ratOb, ratV, bne_self_eq_false, List.length_map, Try.ntmps3, Try.results3, efc3, fc3, ss, sd, zH, qG, zF, zG, St.get, qE, qF, qB, zC, norm, look, zE, qA, qI, St.alloc, St.drop, zA, part, zB, depth, qD, ↓reduceIte, Nat.reduceBEq, Nat.reduceAdd, Nat.reduceSub, Nat.reduceMul, Nat.reduceEqDiff, Nat.reduceLeDiff, Nat.reduceLT, qJ, qK, qL, qM, qN, qO, qP, qQ, qR, zI, qS, qC, qT, evSlice0, qV, qW, qX, qY, qZ, zJ, zK, zL, wit, Option.isSome_some, qH, xK, evPre, St.with, zD, Array.size, toldV, isIntV, orArr, offB, effFr, effFr2, effFr3, mapIn, restSame, sameO, eqW, eqWL, pickR, te, einl, inls, efr]
            done
        · have r1 := bneI z1
          simp (maxSteps := 1000000) (implicitDefEqProofs := false) only [q2, q3, k4', k9', k11, k12, k13', k14', ws, r1, ratOb, ratV, bne_self_eq_false, List.length_map, Try.ntmps3, Try.results3, efc3, fc3, ss, sd, zH, qG, zF, zG, St.get, qE, qF, qB, zC, norm, look, zE, qA, qI, St.alloc, St.drop, zA, part, zB, depth, qD, ↓reduceIte, Nat.reduceBEq, Nat.reduceAdd, Nat.reduceSub, Nat.reduceMul, Nat.reduceEqDiff, Nat.reduceLeDiff, Nat.reduceLT, qJ, qK, qL, qM, qN, qO, qP, qQ, qR, zI, qS, qC, qT, evSlice0, qV, qW, qX, qY, qZ, zJ, zK, zL, wit, Option.isSome_some, qH, xK, evPre, St.with, zD, Array.size, toldV, isIntV, orArr, offB, effFr, effFr2, effFr3, mapIn, restSame, sameO, eqW, eqWL, pickR, te, einl, inls, efr]
          done
    | true =>
      have hone := one_of hc.1 (show seg l 0 (i + 1) ≠ 0 by omega) (by have := hc.2 rfl; rw [hsum] at this; exact this)
      obtain ⟨rfl, rfl⟩ : c1 = 1 ∧ c2 = 1 := by simpa using hone
      by_cases hair : 0 < A4
      · simp (maxSteps := 1000000) (implicitDefEqProofs := false) only [ratOb, ratV, k10, hbal, hair, bne_self_eq_false, Int.natCast_one, Int.lt_irrefl, List.length_map, Try.ntmps3, Try.results3, efc3, fc3, ss, sd, zH, qG, zF, zG, St.get, qE, qF, qB, zC, norm, look, zE, qA, qI, St.alloc, St.drop, zA, part, zB, depth, qD, ↓reduceIte, Nat.reduceBEq, Nat.reduceAdd, Nat.reduceSub, Nat.reduceMul, Nat.reduceEqDiff, Nat.reduceLeDiff, Nat.reduceLT, qJ, qK, qL, qM, qN, qO, qP, qQ, qR, zI, qS, qC, qT, evSlice0, qV, qW, qX, qY, qZ, zJ, zK, zL, wit, Option.isSome_some, qH, xK, evPre, St.with, zD, Array.size, toldV, isIntV, orArr, offB, effFr, effFr2, effFr3, mapIn, restSame, sameO, eqW, eqWL, pickR, te, einl, inls, efr]
        done
      by_cases hps : ¬ ps = []
      · have hpos : (0 : Int) < ps.length := by have := List.length_pos_iff.2 hps; omega
        simp (maxSteps := 1000000) (implicitDefEqProofs := false) only [ratOb, ratV, k10, hbal, hair, hpos, hof, ho', encLot, bne_self_eq_false, Int.natCast_one, Int.natCast_nonneg, Int.toNat_natCast, Int.lt_irrefl, List.length_map, Try.ntmps3, Try.results3, efc3, fc3, ss, sd, zH, qG, zF, zG, St.get, qE, qF, qB, zC, norm, look, zE, qA, qI, St.alloc, St.drop, zA, part, zB, depth, qD, ↓reduceIte, Nat.reduceBEq, Nat.reduceAdd, Nat.reduceSub, Nat.reduceMul, Nat.reduceEqDiff, Nat.reduceLeDiff, Nat.reduceLT, qJ, qK, qL, qM, qN, qO, qP, qQ, qR, zI, qS, qC, qT, evSlice0, qV, qW, qX, qY, qZ, zJ, zK, zL, wit, Option.isSome_some, qH, xK, evPre, St.with, zD, Array.size, toldV, isIntV, orArr, offB, effFr, effFr2, effFr3, mapIn, restSame, sameO, eqW, eqWL, pickR, te, einl, inls, efr]
        done
      replace hps := Decidable.not_not.1 hps
      subst hps
      simp (maxSteps := 1000000) (implicitDefEqProofs := false) only [ratOb, ratV, k10, hbal, hair, hof, ho', encLot, bne_self_eq_false, Int.natCast_one, List.map_nil, List.length_nil, Int.natCast_zero, Int.natCast_nonneg, Int.toNat_natCast, Int.lt_irrefl, List.length_map, Try.ntmps3, Try.results3, efc3, fc3, ss, sd, zH, qG, zF, zG, St.get, qE, qF, qB, zC, norm, look, zE, qA, qI, St.alloc, St.drop, zA, part, zB, depth, qD, ↓reduceIte, Nat.reduceBEq, Nat.reduceAdd, Nat.reduceSub, Nat.reduceMul, Nat.reduceEqDiff, Nat.reduceLeDiff, Nat.reduceLT, qJ, qK, qL, qM, qN, qO, qP, qQ, qR, zI, qS, qC, qT, evSlice0, qV, qW, qX, qY, qZ, zJ, zK, zL, wit, Option.isSome_some, qH, xK, evPre, St.with, zD, Array.size, toldV, isIntV, orArr, offB, effFr, effFr2, effFr3, mapIn, restSame, sameO, eqW, eqWL, pickR, te, einl, inls, efr]
      generalize hr : loopAt _ _ _ _ _ _ = r; revert r
      refine loop_nat l.length (fun k _ => [(26, .int .i64 (k : Nat))]) (fun _ c => [(25, ratOb c)]) (fun k (c : Nat × Nat) => validN c.1 c.2 = true ∧ Fr c (sumR (fun j => numC l o j * (leftF l j + lostM (lotN l j)).toNat) k) (seg l 0 l.length)) (0, 1) (by omega) (by simp (maxSteps := 1000000) (implicitDefEqProofs := false) only [ratOb, ratV, Int.natCast_zero, Int.natCast_one, ss, sd, zH, qG, zF, zG, St.get, qE, qF, qB, zC, norm, look, zE, qA, qI, St.alloc, St.drop, zA, part, zB, depth, qD, ↓reduceIte, Nat.reduceBEq, Nat.reduceAdd, Nat.reduceSub, Nat.reduceMul, Nat.reduceEqDiff, Nat.reduceLeDiff, Nat.reduceLT, qJ, qK, qL, qM, qN, qO, qP, qQ, qR, zI, qS, qC, qT, evSlice0, qV, qW, qX, qY, qZ, zJ, zK, zL, wit, Option.isSome_some, qH, xK, evPre, St.with, zD, Array.size, toldV, isIntV, orArr, offB, effFr, effFr2, effFr3, mapIn, restSame, sameO, eqW, eqWL, pickR, te, einl, inls, efr]) ⟨rfl, by unfold Fr; simp [sumR]⟩ (fun c hc => ?_) (fun k c hc q1 q2 q3 => ?_)
      · have hfs := hfin (hrec rfl) fun j hj => by
          rw [lotN_at hj]
          exact had_eq v hj (hairn hair _ (List.getElem_mem hj))
        rw [hfs, hlo] at hc
        obtain ⟨w1, w2⟩ := whole_of hc.1 (show seg l 0 l.length ≠ 0 by omega) hc.2
        obtain ⟨c1, c2⟩ := c
        dsimp only at w1 w2
        subst w2
        have w3 : ((c1 : Nat) : Int) = xm := by rw [w1]; omega
        simp (maxSteps := 1000000) (implicitDefEqProofs := false) only [Int.lt_irrefl, ratOb, ratV, w3, hof, ho', encLot, Int.natCast_one, beq_self_eq_true, Int.natCast_nonneg, Int.toNat_natCast, List.length_map, regT ho2 hi2, evBT_nil, evBT_cons, effT_true, effT_false, effT2_some, effT2_none, calmT, free, Eff.writes, supp, isBar, Option.toList_some, Option.toList_none, reduceCtorEq, if_false, Try.ntmps3, Try.results3, efc3, fc3, ss, sd, zH, qG, zF, zG, St.get, qE, qF, qB, zC, norm, look, zE, qA, qI, St.alloc, St.drop, zA, part, zB, depth, qD, ↓reduceIte, Nat.reduceBEq, Nat.reduceAdd, Nat.reduceSub, Nat.reduceMul, Nat.reduceEqDiff, Nat.reduceLeDiff, Nat.reduceLT, qJ, qK, qL, qM, qN, qO, qP, qQ, qR, zI, qS, qC, qT, evSlice0, qV, qW, qX, qY, qZ, zJ, zK, zL, wit, Option.isSome_some, qH, xK, evPre, St.with, zD, Array.size, toldV, isIntV, orArr, offB, effFr, effFr2, effFr3, mapIn, restSame, sameO, eqW, eqWL, pickR, te, einl, inls, efr]
        done
      · have k11 := g.c11 k q1
        have k12 := g.c12 k q1
        have hlk := lotN_at q1
        have hlost := hairn hair _ (List.getElem_mem q1)
        have hleft := v.left k q1
        have hbm : leftF l k ≤ 100000 := by
          have a1 := sumTk_le k (l := l) fun y hy => by
            obtain ⟨z, hz, rfl⟩ := List.mem_iff_getElem.1 hy
            exact v.parts hz
          have a2 := v.mass q1
          have a3 : (lotAt l (k : Int)).mass = l[k].mass := by rw [lotAt_nat q1]
          unfold leftF
          omega
        have hbl : lostM l[k] ≤ 600000 := by
          have a1 := sumP_le l[k].parts (v.parts q1).2
          have a2 := (v.parts q1).1
          have a3 := v.mass q1
          unfold lostM
          split <;> omega
        obtain ⟨M, hM⟩ : ∃ M : Nat, M = (leftF l k + lostM (lotN l k)).toNat := ⟨_, rfl⟩
        have hMs : leftF l k + lostM l[k] = (M : Int) := by rw [hM, hlk]; omega
        have ws : IntKind.i64.wrap (leftF l k + lostM l[k]) = (M : Int) := by rw [wrap_in (by omega), hMs]
        have hMb : M ≤ 700000 := by omega
        have k13 := c13 M 1 (by omega) (by decide)
        have e0 : (makeN M 1).2.2 = 0 := make_ok (by omega) (by decide)
        have hmk := make_spec (Nat.le_refl 1) e0
        have hms := make_small M 1
        obtain ⟨m, hm⟩ : ∃ m : Nat × Nat, m = ((makeN M 1).1, (makeN M 1).2.1) := ⟨_, rfl⟩
        have k13' : (orcω E X0).call 13 [.int .i64 (M : Int), .int .i64 1] = some (.tup [ratV m.1 m.2, .int .i64 0]) := by
          have := k13
          rw [show ((1 : Nat) : Int) = 1 from rfl] at this
          rw [this, hm]; unfold encN; rw [e0]
        rw [← hm] at hmk hms
        have hmv : validN m.1 m.2 = true := by rw [hm]; exact hmk.2
        have k4k := c4 g o k ho q1
        have hsm := frac_small (num l o k) (seg l 0 (k + 1))
        obtain ⟨s, hs⟩ : ∃ s : Nat × Nat, s = ((fracN (num l o k) (seg l 0 (k + 1))).1, (fracN (num l o k) (seg l 0 (k + 1))).2.1) := ⟨_, rfl⟩
        obtain ⟨e1, he1⟩ : ∃ e : Int, e = (fracN (num l o k) (seg l 0 (k + 1))).2.2 := ⟨_, rfl⟩
        have k4' : (orcω E X0).call 4 [encLots l, .int .i64 (o : Int), .int .i64 (k : Int)] = some (.tup [ratV s.1 s.2, .int .i64 e1]) := by rw [k4k, hs, he1]; rfl
        rw [← hs] at hsm
        have k14 := c14 s m hsm hms
        have hts := mul_small s m
        obtain ⟨t, ht⟩ : ∃ t : Nat × Nat, t = ((mulN s m).1, (mulN s m).2.1) := ⟨_, rfl⟩
        obtain ⟨e2, he2⟩ : ∃ e : Int, e = (mulN s m).2.2 := ⟨_, rfl⟩
        have k14' : (orcω E X0).call 14 [ratV s.1 s.2, ratV m.1 m.2] = some (.tup [ratV t.1 t.2, .int .i64 e2]) := by rw [k14, ht, he2]; rfl
        rw [← ht] at hts
        have k9 := c9 c t (valid_small hc.1) hts
        obtain ⟨u, hu⟩ : ∃ u : Nat × Nat, u = ((addN c t).1, (addN c t).2.1) := ⟨_, rfl⟩
        obtain ⟨e3, he3⟩ : ∃ e : Int, e = (addN c t).2.2 := ⟨_, rfl⟩
        have k9' : (orcω E X0).call 9 [ratV c.1 c.2, ratV t.1 t.2] = some (.tup [ratV u.1 u.2, .int .i64 e3]) := by rw [k9, hu, he3]; rfl
        simp only [encLots, ratV] at k4' k9' k11 k12 k13' k14'
        by_cases z1 : e1 = 0
        · by_cases z2 : e2 = 0
          · by_cases z3 : e3 = 0
            · subst z1 z2 z3
              simp (maxSteps := 1000000) (implicitDefEqProofs := false) only [q2, q3, k4', k9', k11, k12, k13', k14', ws, ratOb, ratV, bne_self_eq_false, List.length_map, ss, sd, zH, qG, zF, zG, St.get, qE, qF, qB, zC, norm, look, zE, qA, qI, St.alloc, St.drop, zA, part, zB, depth, qD, ↓reduceIte, Nat.reduceBEq, Nat.reduceAdd, Nat.reduceSub, Nat.reduceMul, Nat.reduceEqDiff, Nat.reduceLeDiff, Nat.reduceLT, qJ, qK, qL, qM, qN, qO, qP, qQ, qR, zI, qS, qC, qT, evSlice0, qV, qW, qX, qY, qZ, zJ, zK, zL, wit, Option.isSome_some, qH, xK, evPre, St.with, zD, Array.size, toldV, isIntV, orArr, offB, effFr, effFr2, effFr3, mapIn, restSame, sameO, eqW, eqWL, pickR, te, einl, inls, efr]
              refine ⟨u, rfl, ?_, ?_⟩
              · obtain ⟨_, _, _, a4⟩ := add_spec he3.symm
                rw [hu]; exact a4
              · obtain ⟨_, _, a3, _⟩ := add_spec he3.symm
                rw [← hu] at a3
                obtain ⟨_, _, m3, m4⟩ := mul_spec he2.symm
                rw [← ht] at m3
                have hsp := seg_pos v 0 (k + 1) (by omega)
                obtain ⟨f1, f2⟩ := frac_spec (n := num l o k) (d := seg l 0 (k + 1)) (by omega) he1.symm
                rw [← hs] at f1
                have hsv : validN s.1 s.2 = true := by rw [hs]; exact f2
                have htv : validN t.1 t.2 = true := by rw [ht]; exact m4
                have h1 := fr_scale (fr_mul f1 hmk.1 m3 (validN_iff.1 hsv).1.1 (validN_iff.1 hmv).1.1) (seg l (k + 1) (l.length - (k + 1)))
                have h2 : seg l 0 (k + 1) * 1 * seg l (k + 1) (l.length - (k + 1)) = seg l 0 l.length := by
                  have := seg_add l 0 (k + 1) (l.length - (k + 1))
                  rw [Nat.zero_add, show k + 1 + (l.length - (k + 1)) = l.length by omega] at this
                  rw [Nat.mul_one, ← this]
                have h3 : num l o k * M * seg l (k + 1) (l.length - (k + 1)) = numC l o k * M := by unfold numC; ac_rfl
                rw [h2, h3] at h1
                have h := fr_add hc.2 h1 a3 (validN_iff.1 hc.1).1.1 (validN_iff.1 htv).1.1
                rw [sumR, ← hM]
                exact h
            · have r3 := bneI z3
              subst z1 z2
              simp (maxSteps := 1000000) (implicitDefEqProofs := false) only [q2, q3, k4', k9', k11, k12, k13', k14', ws, r3, ratOb, ratV, bne_self_eq_false, List.length_map, Try.ntmps3, Try.results3, efc3, fc3, ss, sd, zH, qG, zF, zG, St.get, qE, qF, qB, zC, norm, look, zE, qA, qI, St.alloc, St.drop, zA, part, zB, depth, qD, ↓reduceIte, Nat.reduceBEq, Nat.reduceAdd, Nat.reduceSub, Nat.reduceMul, Nat.reduceEqDiff, Nat.reduceLeDiff, Nat.reduceLT, qJ, qK, qL, qM, qN, qO, qP, qQ, qR, zI, qS, qC, qT, evSlice0, qV, qW, qX, qY, qZ, zJ, zK, zL, wit, Option.isSome_some, qH, xK, evPre, St.with, zD, Array.size, toldV, isIntV, orArr, offB, effFr, effFr2, effFr3, mapIn, restSame, sameO, eqW, eqWL, pickR, te, einl, inls, efr]
              done
          · have r2 := bneI z2
            subst z1
            simp (maxSteps := 1000000) (implicitDefEqProofs := false) only [q2, q3, k4', k9', k11, k12, k13', k14', ws, r2, ratOb, ratV, bne_self_eq_false, List.length_map, Try.ntmps3, Try.results3, efc3, fc3, ss, sd, zH, qG, zF, zG, St.get, qE, qF, qB, zC, norm, look, zE, qA, qI, St.alloc, St.drop, zA, part, zB, depth, qD, ↓reduceIte, Nat.reduceBEq, Nat.reduceAdd, Nat.reduceSub, Nat.reduceMul, Nat.reduceEqDiff, Nat.reduceLeDiff, Nat.reduceLT, qJ, qK, qL, qM, qN, qO, qP, qQ, qR, zI, qS, qC, qT, evSlice0, qV, qW, qX, qY, qZ, zJ, zK, zL, wit, Option.isSome_some, qH, xK, evPre, St.with, zD, Array.size, toldV, isIntV, orArr, offB, effFr, effFr2, effFr3, mapIn, restSame, sameO, eqW, eqWL, pickR, te, einl, inls, efr]
            done
        · have r1 := bneI z1
          simp (maxSteps := 1000000) (implicitDefEqProofs := false) only [q2, q3, k4', k9', k11, k12, k13', k14', ws, r1, ratOb, ratV, bne_self_eq_false, List.length_map, Try.ntmps3, Try.results3, efc3, fc3, ss, sd, zH, qG, zF, zG, St.get, qE, qF, qB, zC, norm, look, zE, qA, qI, St.alloc, St.drop, zA, part, zB, depth, qD, ↓reduceIte, Nat.reduceBEq, Nat.reduceAdd, Nat.reduceSub, Nat.reduceMul, Nat.reduceEqDiff, Nat.reduceLeDiff, Nat.reduceLT, qJ, qK, qL, qM, qN, qO, qP, qQ, qR, zI, qS, qC, qT, evSlice0, qV, qW, qX, qY, qZ, zJ, zK, zL, wit, Option.isSome_some, qH, xK, evPre, St.with, zD, Array.size, toldV, isIntV, orArr, offB, effFr, effFr2, effFr3, mapIn, restSame, sameO, eqW, eqWL, pickR, te, einl, inls, efr]
          done
  · have hxl := hall x (by rw [hx]; simp)
    have k4x := k4 x hxl
    have hsm := frac_small (num l x i) (seg l 0 (i + 1))
    obtain ⟨s, hs⟩ : ∃ s : Nat × Nat, s = ((fracN (num l x i) (seg l 0 (i + 1))).1, (fracN (num l x i) (seg l 0 (i + 1))).2.1) := ⟨_, rfl⟩
    obtain ⟨e, he⟩ : ∃ e : Int, e = (fracN (num l x i) (seg l 0 (i + 1))).2.2 := ⟨_, rfl⟩
    have k4x' : (orcω E X0).call 4 [encLots l, .int .i64 (x : Int), .int .i64 (i : Int)] = some (.tup [ratV s.1 s.2, .int .i64 e]) := by rw [k4x, hs, he]; rfl
    rw [← hs] at hsm
    have k9 := c9 c.1 s (valid_small hc.1) hsm
    obtain ⟨t, ht⟩ : ∃ t : Nat × Nat, t = ((addN c.1 s).1, (addN c.1 s).2.1) := ⟨_, rfl⟩
    obtain ⟨a, ha⟩ : ∃ a : Int, a = (addN c.1 s).2.2 := ⟨_, rfl⟩
    have k9' : (orcω E X0).call 9 [ratV c.1.1 c.1.2, ratV s.1 s.2] = some (.tup [ratV t.1 t.2, .int .i64 a]) := by rw [k9, ht, ha]; rfl
    have hget : (xs.map nI)[pre.length]? = some (.int .i64 (x : Int)) := by rw [List.getElem?_map, e3]; rfl
    simp only [encLots, ratV] at k4x' k9'
    obtain ⟨⟨c1, c2⟩, c3⟩ := c
    dsimp only at hc k9' ha ht ⊢
    cases c3 with
    | false =>
      simp (maxSteps := 1000000) (implicitDefEqProofs := false) only [e1, e2, e4, hget, k4x', k9', ratOb, ratV, List.length_map, Int.natCast_nonneg, Int.toNat_natCast, regT ho1 hi1, evBT_nil, evBT_cons, effT_true, effT_false, effT2_some, effT2_none, calmT, free, Eff.writes, supp, isBar, Option.toList_some, Option.toList_none, reduceCtorEq, if_false, ss, sd, zH, qG, zF, zG, St.get, qE, qF, qB, zC, norm, look, zE, qA, qI, St.alloc, St.drop, zA, part, zB, depth, qD, ↓reduceIte, Nat.reduceBEq, Nat.reduceAdd, Nat.reduceSub, Nat.reduceMul, Nat.reduceEqDiff, Nat.reduceLeDiff, Nat.reduceLT, qJ, qK, qL, qM, qN, qO, qP, qQ, qR, zI, qS, qC, qT, evSlice0, qV, qW, qX, qY, qZ, zJ, zK, zL, wit, Option.isSome_some, qH, xK, evPre, St.with, zD, Array.size, toldV, isIntV, orArr, offB, effFr, effFr2, effFr3, mapIn, restSame, sameO, eqW, eqWL, pickR, te, einl, inls, efr]
      exact ⟨((c1, c2), false), rfl, hc.1, fun h => by cases h⟩
    | true =>
      by_cases he0 : e = 0
      · have r1 := eqI he0
        by_cases ha0 : a = 0
        · have r2 := eqI ha0
          simp (maxSteps := 1000000) (implicitDefEqProofs := false) only [e1, e2, e4, hget, k4x', k9', ratOb, ratV, r1, r2, List.length_map, Int.natCast_nonneg, Int.toNat_natCast, regT ho1 hi1, evBT_nil, evBT_cons, effT_true, effT_false, effT2_some, effT2_none, calmT, free, Eff.writes, supp, isBar, Option.toList_some, Option.toList_none, reduceCtorEq, if_false, ss, sd, zH, qG, zF, zG, St.get, qE, qF, qB, zC, norm, look, zE, qA, qI, St.alloc, St.drop, zA, part, zB, depth, qD, ↓reduceIte, Nat.reduceBEq, Nat.reduceAdd, Nat.reduceSub, Nat.reduceMul, Nat.reduceEqDiff, Nat.reduceLeDiff, Nat.reduceLT, qJ, qK, qL, qM, qN, qO, qP, qQ, qR, zI, qS, qC, qT, evSlice0, qV, qW, qX, qY, qZ, zJ, zK, zL, wit, Option.isSome_some, qH, xK, evPre, St.with, zD, Array.size, toldV, isIntV, orArr, offB, effFr, effFr2, effFr3, mapIn, restSame, sameO, eqW, eqWL, pickR, te, einl, inls, efr]
          refine ⟨(t, true), rfl, ?_, fun _ => ?_⟩
          · obtain ⟨_, _, _, a4⟩ := add_spec (ha.symm.trans ha0)
            rw [ht]; exact a4
          · obtain ⟨_, _, a3, _⟩ := add_spec (ha.symm.trans ha0)
            rw [← ht] at a3
            obtain ⟨f1, f2⟩ := frac_spec (n := num l x i) (d := seg l 0 (i + 1)) (by omega) (he.symm.trans he0)
            rw [← hs] at f1
            have hsv : validN s.1 s.2 = true := by rw [hs]; exact f2
            have h := fr_add (hc.2 rfl) f1 a3 (validN_iff.1 hc.1).1.1 (validN_iff.1 hsv).1.1
            dsimp only
            rw [sumX_app]
            simpa [sumX] using h
        · have r2 := neI ha0
          simp (maxSteps := 1000000) (implicitDefEqProofs := false) only [e1, e2, e4, hget, k4x', k9', ratOb, ratV, r1, r2, List.length_map, Int.natCast_nonneg, Int.toNat_natCast, regT ho1 hi1, evBT_nil, evBT_cons, effT_true, effT_false, effT2_some, effT2_none, calmT, free, Eff.writes, supp, isBar, Option.toList_some, Option.toList_none, reduceCtorEq, if_false, ss, sd, zH, qG, zF, zG, St.get, qE, qF, qB, zC, norm, look, zE, qA, qI, St.alloc, St.drop, zA, part, zB, depth, qD, ↓reduceIte, Nat.reduceBEq, Nat.reduceAdd, Nat.reduceSub, Nat.reduceMul, Nat.reduceEqDiff, Nat.reduceLeDiff, Nat.reduceLT, qJ, qK, qL, qM, qN, qO, qP, qQ, qR, zI, qS, qC, qT, evSlice0, qV, qW, qX, qY, qZ, zJ, zK, zL, wit, Option.isSome_some, qH, xK, evPre, St.with, zD, Array.size, toldV, isIntV, orArr, offB, effFr, effFr2, effFr3, mapIn, restSame, sameO, eqW, eqWL, pickR, te, einl, inls, efr]
          exact ⟨((c1, c2), false), rfl, hc.1, fun h => by cases h⟩
      · have r1 := neI he0
        simp (maxSteps := 1000000) (implicitDefEqProofs := false) only [e1, e2, e4, hget, k4x', k9', ratOb, ratV, r1, List.length_map, Int.natCast_nonneg, Int.toNat_natCast, regT ho1 hi1, evBT_nil, evBT_cons, effT_true, effT_false, effT2_some, effT2_none, calmT, free, Eff.writes, supp, isBar, Option.toList_some, Option.toList_none, reduceCtorEq, if_false, ss, sd, zH, qG, zF, zG, St.get, qE, qF, qB, zC, norm, look, zE, qA, qI, St.alloc, St.drop, zA, part, zB, depth, qD, ↓reduceIte, Nat.reduceBEq, Nat.reduceAdd, Nat.reduceSub, Nat.reduceMul, Nat.reduceEqDiff, Nat.reduceLeDiff, Nat.reduceLT, qJ, qK, qL, qM, qN, qO, qP, qQ, qR, zI, qS, qC, qT, evSlice0, qV, qW, qX, qY, qZ, zJ, zK, zL, wit, Option.isSome_some, qH, xK, evPre, St.with, zD, Array.size, toldV, isIntV, orArr, offB, effFr, effFr2, effFr3, mapIn, restSame, sameO, eqW, eqWL, pickR, te, einl, inls, efr]
        exact ⟨((c1, c2), false), rfl, hc.1, fun h => by cases h⟩
end Go.AM.F

