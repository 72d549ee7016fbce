import Derived.Test.YtffbfhjcpgcdeaaCTopR
import Derived.Test.YtffbfhjcpgcdeaaAmNat
set_option linter.unusedVariables false
set_option linter.unusedSimpArgs false
set_option maxRecDepth 20000

namespace Go.AM.C
open Go Go.Proofs

set_option maxRecDepth 20000 in
set_option maxHeartbeats 40000000 in
theorem c15A (xs : List Run) (l : List Art) (us : List Int) (ps : List (Int × Int)) (hx : ¬ (100 : Int) < xs.length) (hl : ¬ (40 : Int) < l.length) (hp : ¬ (400 : Int) < ps.length) (hu : ¬ (1000 : Int) < us.length) (he : errM xs l = 0) (hb : (boundR xs l us).2 = 0) : (orcω E X0).call 15 [.sl false (xs.map encRun), .sl false (l.map encArt), .agg [.sl false (us.map vI), .sl false (ps.map encPc)]] = some (.bool true) := by
  refine call_of rfl fn15 rfl ?_
  have hok := okT15
  simp only [Try.f15, Option.getD_some, okCode, Bool.and_eq_true, Bool.and_true, Bool.true_and] at hok
  have k0 := c27 [] [] (by simp) (by simp)
  have w0 : worthR [] [] = (valsW [] [] 0, 0) := by unfold worthR; rw [if_pos (by decide)]; rfl
  have v0 := vals_len [] [] 0
  rw [w0] at k0
  simp only [encIs, List.map_nil] at k0
  generalize valsW [] [] 0 = v0s at *
  have z0 : (((0 + 1 : Nat) : Int) != 1) = false := rfl
  have k1 := c46 false xs
  have k2 := c29 xs l (by omega) (by omega)
  have k3 := c34 xs l ps (by omega) (by omega) (by omega)
  obtain ⟨e1, e2, e3⟩ := errM_zero he
  have hN := err_len he
  rw [bestR_ok he] at k2
  simp only [encBest] at k2
  have k4 := c36 xs l (by omega) (by omega)
  have vl := vals_len (expand xs) l (expand xs).length
  have k5 := c31 xs l (valsW (expand xs) l (expand xs).length) (by omega) (by omega) (by omega)
  rw [bound_vals he] at k5
  unfold worthR at k4
  rw [if_pos he] at k4
  simp only [encIs, encLen] at k4 k5
  rw [show at0 (valsW (expand xs) l (expand xs).length) (expand xs).length = topW (expand xs) l from rfl] at k5
  obtain ⟨bk, b1, b2, b3, b4⟩ := rev_band he
  have k6 := c47 xs (by omega)
  rw [show (if validate xs = 0 then finished (joinedL xs.reverse) else ([], validate xs)) = revM xs from rfl, b1] at k6
  simp only [encRes] at k6
  have k7 := c29 bk l (by omega) (by omega)
  rw [bestR_ok b3, b2, topW_rev e3 hN] at k7
  simp only [encBest] at k7
  have k8 := c31 xs l us (by omega) (by omega) (by omega)
  have hbt := bound_top he (us := us)
  generalize boundR xs l us = R at *
  obtain ⟨bn, be⟩ := R
  simp only [encLen] at k8 hbt
  unfold accE at k3
  rw [if_pos he] at k3
  have k15 := c39 false xs (by omega)
  rw [lengthM_zero e1] at k15
  simp only [encLen] at k15
  obtain ⟨bc, bcl⟩ := best_acc he
  have FB := facts_of (cs := bestPs (expand xs) l) (by omega) (by omega) (by omega) he bc
  have FP : checkL (expand xs) l 0 ps = 0 → Facts xs l ps := fun hc => facts_of (by omega) (by omega) (by omega) he hc
  generalize bestPs (expand xs) l = bp at *
  generalize bestPs (expand xs).reverse l = bq at *
  generalize valsW (expand xs) l (expand xs).length = vs at *
  have eN := expand_len (valid_okay e1).1
  have okx := (valid_okay e1).1
  have h100 : xs.length ≤ 100 := by omega
  dsimp only at hb
  subst hb
  have n18 : (bn < topW (expand xs) l) = False := eq_false (by have := hbt rfl; omega)
  by_cases hc : checkL (expand xs) l 0 ps = 0
  · have hcs := hc
    obtain ⟨k9, k10, k11, nv, wl, hfit⟩ := FP hc
    have hcl : ps.length ≤ 400 := by omega
    simp (maxSteps := 1000000) (implicitDefEqProofs := false) only [Try.ntmps15, Try.results15, efc15, fc15, k0, k1, v0, z0, hx, hl, hp, hu, k2, k3, k4, k5, k6, k7, k8, k9, k10, k11, n18, hc, nv, List.length_map, bne_self_eq_false, beq_self_eq_true, ss, sd, zH, qG, zF, zG, St.get, qE, qF, qB, zC, norm, look, zE, qA, qI, St.alloc, St.drop, zA, part, zB, depth, qD, ↓reduceIte, Nat.reduceBEq, Nat.reduceAdd, Nat.reduceSub, Nat.reduceMul, Nat.reduceEqDiff, Nat.reduceLeDiff, Nat.reduceLT, qJ, qK, qL, qM, qN, qO, qP, qQ, qR, zI, qS, qC, qT, qU, qV, qW, qX, qY, qZ, zJ, zK, zL, wit, Option.isSome_some, qH, St.with, zD, Array.size, te, einl, inls, efr]
    generalize hr : loopAt _ _ _ _ _ _ = r; revert r
    refine loop_list ps (fun pre c => [(24, c.1), (25, .int .i64 (endL l 0 pre)), (26, .int .i64 (gapsL l 0 pre).length), (27, .int .i64 pre.length)]) (fun _ _ => []) (fun pre c => Sofar (expand xs) (endL l 0 pre) c) (V.emp, true, []) (by omega) (by simp (maxSteps := 1000000) (implicitDefEqProofs := false) only [endL, gapsL, Int.natCast_zero, ss, sd, zH, qG, zF, zG, St.get, qE, qF, qB, zC, norm, look, zE, qA, qI, St.alloc, St.drop, zA, part, zB, depth, qD, ↓reduceIte, Nat.reduceBEq, Nat.reduceAdd, Nat.reduceSub, Nat.reduceMul, Nat.reduceEqDiff, Nat.reduceLeDiff, Nat.reduceLT, qJ, qK, qL, qM, qN, qO, qP, qQ, qR, zI, qS, qC, qT, qU, qV, qW, qX, qY, qZ, zJ, zK, zL, wit, Option.isSome_some, qH, St.with, zD, Array.size, te, einl, inls, efr]) ⟨reads_emp, alls_nil _⟩ (fun c hi => ?_) (fun pre p post c hq hi g1 g2 g3 g4 => ?_)
    · obtain ⟨v, b, A⟩ := c
      obtain ⟨⟨hr1, hr2, hr3⟩, ha⟩ := hi
      dsimp only at hr1 hr2 hr3 ha ⊢
      obtain ⟨n0, n1⟩ := endL_in e3 (Int.le_refl 0) (by omega) hcs
      obtain ⟨s1, s2⟩ := ha.small hN
      have hW := waste_gaps l ((expand xs).length : Nat) ps 0
      have hgl := gaps_len l ps 0
      by_cases hlast : endL l 0 ps < ((expand xs).length : Nat)
      · rw [if_pos hlast] at hW
        have g5 : (wasteL l ((expand xs).length : Nat) 0 ps)[(gapsL l 0 ps).length]? = some (endL l 0 ps, (((expand xs).length : Nat) : Int)) := by
          rw [hW, List.getElem?_append_right (Nat.le_refl _), Nat.sub_self]; rfl
        have gl : (wasteL l ((expand xs).length : Nat) 0 ps).length = (gapsL l 0 ps).length + 1 := by rw [hW]; simp
        have g6 : (((gapsL l 0 ps).length : Int) < ((wasteL l ((expand xs).length : Nat) 0 ps).length : Int)) = True := eq_true (by omega)
        have k40 := c40 xs (endL l 0 ps) ((expand xs).length : Nat) (by omega)
        rw [cut_slice he n0 n1 (Int.le_refl _)] at k40
        simp only [encRes] at k40
        have A1 := ha.add n0 n1 (Int.le_refl _) hN
        obtain ⟨t1, t2⟩ := A1.small hN
        have bl : (rle (((expand xs).take (((expand xs).length : Nat) : Int).toNat).drop (endL l 0 ps).toNat)).length ≤ 300 := by rw [List.length_append] at t1; omega
        have k48 := c48 A (rle (((expand xs).take (((expand xs).length : Nat) : Int).toNat).drop (endL l 0 ps).toNat)) (by omega) (by omega)
        generalize rle (((expand xs).take (((expand xs).length : Nat) : Int).toNat).drop (endL l 0 ps).toNat) = B1 at *
        have w1 : IntKind.i64.wrap (((gapsL l 0 ps).length : Int) + 1) = (((gapsL l 0 ps).length + 1 : Nat) : Int) := by rw [wrap_in (by omega)]; omega
        simp (maxSteps := 1000000) (implicitDefEqProofs := false) only [g5, g6, hr1, hr2, hr3, k40, k48, w1, k15, encSp, Int.le_refl, beq_self_eq_true, bne_self_eq_false, Int.natCast_nonneg, Int.toNat_natCast, List.getElem?_map, List.length_map, evRegion_st hok, Try.ntmps15, Try.results15, efc15, fc15, ss, sd, zH, qG, zF, zG, St.get, qE, qF, qB, zC, norm, look, zE, qA, qI, St.alloc, St.drop, zA, part, zB, depth, qD, ↓reduceIte, Nat.reduceBEq, Nat.reduceAdd, Nat.reduceSub, Nat.reduceMul, Nat.reduceEqDiff, Nat.reduceLeDiff, Nat.reduceLT, qJ, qK, qL, qM, qN, qO, qP, qQ, qR, zI, qS, qC, qT, qU, qV, qW, qX, qY, qZ, zJ, zK, zL, wit, Option.isSome_some, qH, St.with, zD, Array.size, te, einl, inls, efr]
        have fin := c49 (A ++ B1) xs A1.pos okx.1 (by omega) (by omega) t2 (fun r hr => Int.le_trans (le_total okx.1 r hr) (by omega)) false false (by rw [A1.ex, Int.toNat_natCast, List.take_length])
        generalize hr : loopAt _ _ _ _ _ _ = r; revert r
        refine loop_list xs (fun pre c => [(33, c.1), (34, .int .i64 pre.length)]) (fun _ _ => []) (fun pre c => Reads c.1 c.2.1 c.2.2 ∧ c.2.2 = pre) (V.emp, true, ([] : List Run)) (by omega) (by simp (maxSteps := 1000000) (implicitDefEqProofs := false) only [Int.natCast_zero, ss, sd, zH, qG, zF, zG, St.get, qE, qF, qB, zC, norm, look, zE, qA, qI, St.alloc, St.drop, zA, part, zB, depth, qD, ↓reduceIte, Nat.reduceBEq, Nat.reduceAdd, Nat.reduceSub, Nat.reduceMul, Nat.reduceEqDiff, Nat.reduceLeDiff, Nat.reduceLT, qJ, qK, qL, qM, qN, qO, qP, qQ, qR, zI, qS, qC, qT, qU, qV, qW, qX, qY, qZ, zJ, zK, zL, wit, Option.isSome_some, qH, St.with, zD, Array.size, te, einl, inls, efr]) ⟨reads_emp, rfl⟩ (fun c hi => ?_) (fun pre x post c hq hi g1 g2 g3 g4 => ?_)
        · obtain ⟨v2, b2, A2⟩ := c
          obtain ⟨⟨q1, q2, q3⟩, rfl⟩ := hi
          have z1 : ((((expand A2).length : Nat) : Int) == total A2) = true := by rw [eN]; simp
          simp (maxSteps := 1000000) (implicitDefEqProofs := false) only [q1, q2, q3, fin, z1, gl, Int.lt_irrefl, beq_self_eq_true, List.length_map, Try.ntmps15, Try.results15, efc15, fc15, ss, sd, zH, qG, zF, zG, St.get, qE, qF, qB, zC, norm, look, zE, qA, qI, St.alloc, St.drop, zA, part, zB, depth, qD, ↓reduceIte, Nat.reduceBEq, Nat.reduceAdd, Nat.reduceSub, Nat.reduceMul, Nat.reduceEqDiff, Nat.reduceLeDiff, Nat.reduceLT, qJ, qK, qL, qM, qN, qO, qP, qQ, qR, zI, qS, qC, qT, qU, qV, qW, qX, qY, qZ, zJ, zK, zL, wit, Option.isSome_some, qH, St.with, zD, Array.size, te, einl, inls, efr]
        · obtain ⟨v2, b2, A2⟩ := c
          obtain ⟨⟨q1, q2, q3⟩, rfl⟩ := hi
          have m1 := sized_runs xs
          have m2 : ((xs.map encRun).drop A2.length).take (((A2 ++ [x]).length : Int) - (A2.length : Int)).toNat = [x].map encRun := by
            rw [show (((A2 ++ [x]).length : Int) - (A2.length : Int)).toNat = 1 by simp, ← List.map_drop, ← List.map_take, hq, List.drop_left]; rfl
          have m3 : ((A2.length : Int) ≤ ((A2 ++ [x]).length : Int)) = True := eq_true (by simp only [List.length_append, List.length_cons, List.length_nil]; omega)
          have m4 : (((A2 ++ [x]).length : Int) ≤ (xs.length : Int)) = True := eq_true (by rw [hq]; simp only [List.length_append, List.length_cons, List.length_nil]; omega)
          have hA2 : A2.length < xs.length := g2
          have k48' := c48 A2 [x] (by omega) (by simp)
          rw [List.map_cons, List.map_nil] at k48' m2
          simp (maxSteps := 1000000) (implicitDefEqProofs := false) only [q1, q2, q3, g1, g2, g3, g4, m1, m2, m3, m4, k48', Int.natCast_nonneg, Int.toNat_natCast, List.length_map, ss, sd, zH, qG, zF, zG, St.get, qE, qF, qB, zC, norm, look, zE, qA, qI, St.alloc, St.drop, zA, part, zB, depth, qD, ↓reduceIte, Nat.reduceBEq, Nat.reduceAdd, Nat.reduceSub, Nat.reduceMul, Nat.reduceEqDiff, Nat.reduceLeDiff, Nat.reduceLT, qJ, qK, qL, qM, qN, qO, qP, qQ, qR, zI, qS, qC, qT, qU, qV, qW, qX, qY, qZ, zJ, zK, zL, wit, Option.isSome_some, qH, St.with, zD, Array.size, te, einl, inls, efr]
          exact ⟨(_, false, A2 ++ [x]), rfl, reads_sl _, rfl⟩
      · rw [if_neg hlast, List.append_nil] at hW
        have eE : endL l 0 ps = (((expand xs).length : Nat) : Int) := by omega
        have gl : (wasteL l ((expand xs).length : Nat) 0 ps).length = (gapsL l 0 ps).length := by rw [hW]
        rw [eE] at ha ⊢
        simp (maxSteps := 1000000) (implicitDefEqProofs := false) only [hr1, hr2, hr3, gl, k15, encSp, Int.le_refl, Int.lt_irrefl, beq_self_eq_true, bne_self_eq_false, Int.natCast_nonneg, Int.toNat_natCast, List.getElem?_map, List.length_map, evRegion_st hok, Try.ntmps15, Try.results15, efc15, fc15, ss, sd, zH, qG, zF, zG, St.get, qE, qF, qB, zC, norm, look, zE, qA, qI, St.alloc, St.drop, zA, part, zB, depth, qD, ↓reduceIte, Nat.reduceBEq, Nat.reduceAdd, Nat.reduceSub, Nat.reduceMul, Nat.reduceEqDiff, Nat.reduceLeDiff, Nat.reduceLT, qJ, qK, qL, qM, qN, qO, qP, qQ, qR, zI, qS, qC, qT, qU, qV, qW, qX, qY, qZ, zJ, zK, zL, wit, Option.isSome_some, qH, St.with, zD, Array.size, te, einl, inls, efr]
        have fin := c49 A xs ha.pos okx.1 (by omega) (by omega) s2 (fun r hr => Int.le_trans (le_total okx.1 r hr) (by omega)) false false (by rw [ha.ex, Int.toNat_natCast, List.take_length])
        generalize hr : loopAt _ _ _ _ _ _ = r; revert r
        refine loop_list xs (fun pre c => [(33, c.1), (34, .int .i64 pre.length)]) (fun _ _ => []) (fun pre c => Reads c.1 c.2.1 c.2.2 ∧ c.2.2 = pre) (V.emp, true, ([] : List Run)) (by omega) (by simp (maxSteps := 1000000) (implicitDefEqProofs := false) only [Int.natCast_zero, ss, sd, zH, qG, zF, zG, St.get, qE, qF, qB, zC, norm, look, zE, qA, qI, St.alloc, St.drop, zA, part, zB, depth, qD, ↓reduceIte, Nat.reduceBEq, Nat.reduceAdd, Nat.reduceSub, Nat.reduceMul, Nat.reduceEqDiff, Nat.reduceLeDiff, Nat.reduceLT, qJ, qK, qL, qM, qN, qO, qP, qQ, qR, zI, qS, qC, qT, qU, qV, qW, qX, qY, qZ, zJ, zK, zL, wit, Option.isSome_some, qH, St.with, zD, Array.size, te, einl, inls, efr]) ⟨reads_emp, rfl⟩ (fun c hi => ?_) (fun pre x post c hq hi g1 g2 g3 g4 => ?_)
        · obtain ⟨v2, b2, A2⟩ := c
          obtain ⟨⟨q1, q2, q3⟩, rfl⟩ := hi
          have z1 : ((((expand A2).length : Nat) : Int) == total A2) = true := by rw [eN]; simp
          simp (maxSteps := 1000000) (implicitDefEqProofs := false) only [hr1, hr2, hr3, q1, q2, q3, fin, z1, gl, Int.lt_irrefl, beq_self_eq_true, List.length_map, Try.ntmps15, Try.results15, efc15, fc15, ss, sd, zH, qG, zF, zG, St.get, qE, qF, qB, zC, norm, look, zE, qA, qI, St.alloc, St.drop, zA, part, zB, depth, qD, ↓reduceIte, Nat.reduceBEq, Nat.reduceAdd, Nat.reduceSub, Nat.reduceMul, Nat.reduceEqDiff, Nat.reduceLeDiff, Nat.reduceLT, qJ, qK, qL, qM, qN, qO, qP, qQ, qR, zI, qS, qC, qT, qU, qV, qW, qX, qY, qZ, zJ, zK, zL, wit, Option.isSome_some, qH, St.with, zD, Array.size, te, einl, inls, efr]
        · obtain ⟨v2, b2, A2⟩ := c
          obtain ⟨⟨q1, q2, q3⟩, rfl⟩ := hi
          have m1 := sized_runs xs
          have m2 : ((xs.map encRun).drop A2.length).take (((A2 ++ [x]).length : Int) - (A2.length : Int)).toNat = [x].map encRun := by
            rw [show (((A2 ++ [x]).length : Int) - (A2.length : Int)).toNat = 1 by simp, ← List.map_drop, ← List.map_take, hq, List.drop_left]; rfl
          have m3 : ((A2.length : Int) ≤ ((A2 ++ [x]).length : Int)) = True := eq_true (by simp only [List.length_append, List.length_cons, List.length_nil]; omega)
          have m4 : (((A2 ++ [x]).length : Int) ≤ (xs.length : Int)) = True := eq_true (by rw [hq]; simp only [List.length_append, List.length_cons, List.length_nil]; omega)
          have hA2 : A2.length < xs.length := g2
          have k48' := c48 A2 [x] (by omega) (by simp)
          rw [List.map_cons, List.map_nil] at k48' m2
          simp (maxSteps := 1000000) (implicitDefEqProofs := false) only [q1, q2, q3, hr2, hr3, g1, g2, g3, g4, m1, m2, m3, m4, k48', Int.natCast_nonneg, Int.toNat_natCast, List.length_map, ss, sd, zH, qG, zF, zG, St.get, qE, qF, qB, zC, norm, look, zE, qA, qI, St.alloc, St.drop, zA, part, zB, depth, qD, ↓reduceIte, Nat.reduceBEq, Nat.reduceAdd, Nat.reduceSub, Nat.reduceMul, Nat.reduceEqDiff, Nat.reduceLeDiff, Nat.reduceLT, qJ, qK, qL, qM, qN, qO, qP, qQ, qR, zI, qS, qC, qT, qU, qV, qW, qX, qY, qZ, zJ, zK, zL, wit, Option.isSome_some, qH, St.with, zD, Array.size, te, einl, inls, efr]
          exact ⟨(_, false, A2 ++ [x]), rfl, reads_sl _, rfl⟩
    · obtain ⟨v, b, A⟩ := c
      obtain ⟨⟨hr1, hr2, hr3⟩, ha⟩ := hi
      dsimp only at hr1 hr2 hr3 ha ⊢
      have hf := hfit p (by rw [hq]; simp)
      have ht : checkL (expand xs) l (endL l 0 pre) (p :: post) = 0 := check_tail (pre := pre) (by rw [← hq]; exact hcs)
      have hcp : checkL (expand xs) l 0 pre = 0 := check_pre (ps := p :: post) (by rw [← hq]; exact hcs)
      obtain ⟨n0, n1⟩ := endL_in e3 (Int.le_refl 0) (by omega) hcp
      have hle : endL l 0 pre ≤ p.1 := by
        rw [checkL, if_pos hf] at ht
        split at ht
        · cases ht
        · omega
      have hpl : lengthM (pieceL (expand xs) l p) = (lenAt l p.2, 0) := piece_len he hf
      obtain ⟨a, f1, f2, f3, f4, f5, f6, f7, _⟩ := fits_in hf
      have al := ((validA_len e3).2 a (List.mem_of_getElem? f1)).1
      have es := endL_snoc l p pre 0
      have gs := gaps_snoc l p pre 0
      have hW := waste_app l ((expand xs).length : Nat) (p :: post) pre 0
      rw [← hq] at hW
      have hgl := gaps_len l pre 0
      have hprl : pre.length ≤ 400 := by omega
      have pl : (pieceL (expand xs) l p).length ≤ 300 := rle_short (by rw [List.length_drop, List.length_take]; omega)
      have k39 := c39 false (pieceL (expand xs) l p) (by omega)
      rw [hpl] at k39
      simp only [encLen] at k39
      have i1 : ((pre.length : Int) ≤ (ps.length : Int)) = True := eq_true (by omega)
      have i2 : ((pre.length : Int) == (ps.length : Int)) = false := by simp; omega
      have pc : pieceL (expand xs) l p = rle (((expand xs).take (p.1 + lenAt l p.2).toNat).drop p.1.toNat) := rfl
      have w2 : IntKind.i64.wrap (p.1 + lenAt l p.2) = p.1 + lenAt l p.2 := wrap_in (by omega)
      by_cases hgap : endL l 0 pre < p.1
      · rw [if_pos hgap] at gs
        have g5 : (wasteL l ((expand xs).length : Nat) 0 ps)[(gapsL l 0 pre).length]? = some (endL l 0 pre, p.1) := by
          rw [hW, List.getElem?_append_right (Nat.le_refl _), Nat.sub_self, wasteL, if_pos hgap]; rfl
        have g6' := (List.getElem?_eq_some_iff.1 g5).1
        have g6 : (((gapsL l 0 pre).length : Int) < ((wasteL l ((expand xs).length : Nat) 0 ps).length : Int)) = True := eq_true (by omega)
        have k40 := c40 xs (endL l 0 pre) p.1 (by omega)
        rw [cut_slice he n0 hle (by omega)] at k40
        simp only [encRes] at k40
        have A1 := ha.add n0 hle (by omega) hN
        have A2 := A1.add (b := p.1 + lenAt l p.2) f4 (by omega) (by omega) hN
        rw [← pc] at A2
        obtain ⟨t1, t2⟩ := A1.small hN
        have bl : (rle (((expand xs).take p.1.toNat).drop (endL l 0 pre).toNat)).length ≤ 300 := by rw [List.length_append] at t1; omega
        have al2 := (ha.small hN).1
        have k48a := c48 A (rle (((expand xs).take p.1.toNat).drop (endL l 0 pre).toNat)) (by omega) (by omega)
        generalize rle (((expand xs).take p.1.toNat).drop (endL l 0 pre).toNat) = B1 at *
        have k48b := c48 (A ++ B1) (pieceL (expand xs) l p) (by omega) (by omega)
        have w1 : IntKind.i64.wrap (((gapsL l 0 pre).length : Int) + 1) = (((gapsL l 0 pre).length + 1 : Nat) : Int) := by rw [wrap_in (by omega)]; omega
        have e3' : (gapsL l 0 (pre ++ [p])).length = (gapsL l 0 pre).length + 1 := by rw [gs]; simp
        simp (maxSteps := 1000000) (implicitDefEqProofs := false) only [g1, g2, g3, g4, g5, g6, i1, i2, hr1, hr2, hr3, k40, k48a, k48b, k39, w1, w2, encSp, encPc, encRec, beq_self_eq_true, bne_self_eq_false, Int.natCast_nonneg, Int.toNat_natCast, List.getElem?_map, List.length_map, evRegion_st hok, ss, sd, zH, qG, zF, zG, St.get, qE, qF, qB, zC, norm, look, zE, qA, qI, St.alloc, St.drop, zA, part, zB, depth, qD, ↓reduceIte, Nat.reduceBEq, Nat.reduceAdd, Nat.reduceSub, Nat.reduceMul, Nat.reduceEqDiff, Nat.reduceLeDiff, Nat.reduceLT, qJ, qK, qL, qM, qN, qO, qP, qQ, qR, zI, qS, qC, qT, qU, qV, qW, qX, qY, qZ, zJ, zK, zL, wit, Option.isSome_some, qH, St.with, zD, Array.size, te, einl, inls, efr]
        exact ⟨(.sl false ((A ++ B1 ++ pieceL (expand xs) l p).map encRun), false, A ++ B1 ++ pieceL (expand xs) l p), by rw [es, e3'], ⟨reads_sl _, by rw [es]; exact A2⟩⟩
      · rw [if_neg hgap, List.append_nil] at gs
        have eq1 : endL l 0 pre = p.1 := by omega
        obtain ⟨hw1, hw2⟩ := waste_head e3 ht hgap
        rw [hw1] at hW
        rw [eq1] at ha
        have A2 := ha.add (b := p.1 + lenAt l p.2) f4 (by omega) (by omega) hN
        rw [← pc] at A2
        have al2 := (ha.small hN).1
        have k48b := c48 A (pieceL (expand xs) l p) (by omega) (by omega)
        have e3' : (gapsL l 0 (pre ++ [p])).length = (gapsL l 0 pre).length := by rw [gs]
        cases hR : wasteL l ((expand xs).length : Nat) (p.1 + lenAt l p.2) post with
        | nil =>
          rw [hR, List.append_nil] at hW
          have g6 : (((gapsL l 0 pre).length : Int) < ((wasteL l ((expand xs).length : Nat) 0 ps).length : Int)) = False := eq_false (by rw [hW]; omega)
          simp (maxSteps := 1000000) (implicitDefEqProofs := false) only [g1, g2, g3, g4, g6, i1, i2, eq1, hr1, hr2, hr3, k48b, k39, w2, encSp, encPc, encRec, beq_self_eq_true, bne_self_eq_false, Int.natCast_nonneg, Int.toNat_natCast, List.getElem?_map, List.length_map, evRegion_st hok, ss, sd, zH, qG, zF, zG, St.get, qE, qF, qB, zC, norm, look, zE, qA, qI, St.alloc, St.drop, zA, part, zB, depth, qD, ↓reduceIte, Nat.reduceBEq, Nat.reduceAdd, Nat.reduceSub, Nat.reduceMul, Nat.reduceEqDiff, Nat.reduceLeDiff, Nat.reduceLT, qJ, qK, qL, qM, qN, qO, qP, qQ, qR, zI, qS, qC, qT, qU, qV, qW, qX, qY, qZ, zJ, zK, zL, wit, Option.isSome_some, qH, St.with, zD, Array.size, te, einl, inls, efr]
          exact ⟨(.sl false ((A ++ pieceL (expand xs) l p).map encRun), false, A ++ pieceL (expand xs) l p), by rw [es, e3'], ⟨reads_sl _, by rw [es]; exact A2⟩⟩
        | cons s W =>
          have hs := hw2 s (by rw [hR]; exact List.mem_cons_self)
          rw [hR] at hW
          have g5 : (wasteL l ((expand xs).length : Nat) 0 ps)[(gapsL l 0 pre).length]? = some s := by
            rw [hW, List.getElem?_append_right (Nat.le_refl _), Nat.sub_self]; rfl
          have g6' := (List.getElem?_eq_some_iff.1 g5).1
          have g6 : (((gapsL l 0 pre).length : Int) < ((wasteL l ((expand xs).length : Nat) 0 ps).length : Int)) = True := eq_true (by omega)
          have g7 : (s.1 == p.1) = false := by simp; omega
          simp (maxSteps := 1000000) (implicitDefEqProofs := false) only [g1, g2, g3, g4, g5, g6, g7, i1, i2, eq1, hr1, hr2, hr3, k48b, k39, w2, encSp, encPc, encRec, beq_self_eq_true, bne_self_eq_false, Int.natCast_nonneg, Int.toNat_natCast, List.getElem?_map, List.length_map, evRegion_st hok, ss, sd, zH, qG, zF, zG, St.get, qE, qF, qB, zC, norm, look, zE, qA, qI, St.alloc, St.drop, zA, part, zB, depth, qD, ↓reduceIte, Nat.reduceBEq, Nat.reduceAdd, Nat.reduceSub, Nat.reduceMul, Nat.reduceEqDiff, Nat.reduceLeDiff, Nat.reduceLT, qJ, qK, qL, qM, qN, qO, qP, qQ, qR, zI, qS, qC, qT, qU, qV, qW, qX, qY, qZ, zJ, zK, zL, wit, Option.isSome_some, qH, St.with, zD, Array.size, te, einl, inls, efr]
          exact ⟨(.sl false ((A ++ pieceL (expand xs) l p).map encRun), false, A ++ pieceL (expand xs) l p), by rw [es, e3'], ⟨reads_sl _, by rw [es]; exact A2⟩⟩
  · have hc' : (checkL (expand xs) l 0 ps != 0) = true := by simpa using hc
    have hcs := bc
    obtain ⟨k9, k10, k11, nv, wl, hfit⟩ := FB
    have hcl : bp.length ≤ 300 := by omega
    simp (maxSteps := 1000000) (implicitDefEqProofs := false) only [Try.ntmps15, Try.results15, efc15, fc15, k0, k1, v0, z0, hx, hl, hp, hu, k2, k3, k4, k5, k6, k7, k8, k9, k10, k11, n18, hc', nv, List.length_map, bne_self_eq_false, beq_self_eq_true, ss, sd, zH, qG, zF, zG, St.get, qE, qF, qB, zC, norm, look, zE, qA, qI, St.alloc, St.drop, zA, part, zB, depth, qD, ↓reduceIte, Nat.reduceBEq, Nat.reduceAdd, Nat.reduceSub, Nat.reduceMul, Nat.reduceEqDiff, Nat.reduceLeDiff, Nat.reduceLT, qJ, qK, qL, qM, qN, qO, qP, qQ, qR, zI, qS, qC, qT, qU, qV, qW, qX, qY, qZ, zJ, zK, zL, wit, Option.isSome_some, qH, St.with, zD, Array.size, te, einl, inls, efr]
    generalize hr : loopAt _ _ _ _ _ _ = r; revert r
    refine loop_list bp (fun pre c => [(24, c.1), (25, .int .i64 (endL l 0 pre)), (26, .int .i64 (gapsL l 0 pre).length), (27, .int .i64 pre.length)]) (fun _ _ => []) (fun pre c => Sofar (expand xs) (endL l 0 pre) c) (V.emp, true, []) (by omega) (by simp (maxSteps := 1000000) (implicitDefEqProofs := false) only [endL, gapsL, Int.natCast_zero, ss, sd, zH, qG, zF, zG, St.get, qE, qF, qB, zC, norm, look, zE, qA, qI, St.alloc, St.drop, zA, part, zB, depth, qD, ↓reduceIte, Nat.reduceBEq, Nat.reduceAdd, Nat.reduceSub, Nat.reduceMul, Nat.reduceEqDiff, Nat.reduceLeDiff, Nat.reduceLT, qJ, qK, qL, qM, qN, qO, qP, qQ, qR, zI, qS, qC, qT, qU, qV, qW, qX, qY, qZ, zJ, zK, zL, wit, Option.isSome_some, qH, St.with, zD, Array.size, te, einl, inls, efr]) ⟨reads_emp, alls_nil _⟩ (fun c hi => ?_) (fun pre p post c hq hi g1 g2 g3 g4 => ?_)
    · obtain ⟨v, b, A⟩ := c
      obtain ⟨⟨hr1, hr2, hr3⟩, ha⟩ := hi
      dsimp only at hr1 hr2 hr3 ha ⊢
      obtain ⟨n0, n1⟩ := endL_in e3 (Int.le_refl 0) (by omega) hcs
      obtain ⟨s1, s2⟩ := ha.small hN
      have hW := waste_gaps l ((expand xs).length : Nat) bp 0
      have hgl := gaps_len l bp 0
      by_cases hlast : endL l 0 bp < ((expand xs).length : Nat)
      · rw [if_pos hlast] at hW
        have g5 : (wasteL l ((expand xs).length : Nat) 0 bp)[(gapsL l 0 bp).length]? = some (endL l 0 bp, (((expand xs).length : Nat) : Int)) := by
          rw [hW, List.getElem?_append_right (Nat.le_refl _), Nat.sub_self]; rfl
        have gl : (wasteL l ((expand xs).length : Nat) 0 bp).length = (gapsL l 0 bp).length + 1 := by rw [hW]; simp
        have g6 : (((gapsL l 0 bp).length : Int) < ((wasteL l ((expand xs).length : Nat) 0 bp).length : Int)) = True := eq_true (by omega)
        have k40 := c40 xs (endL l 0 bp) ((expand xs).length : Nat) (by omega)
        rw [cut_slice he n0 n1 (Int.le_refl _)] at k40
        simp only [encRes] at k40
        have A1 := ha.add n0 n1 (Int.le_refl _) hN
        obtain ⟨t1, t2⟩ := A1.small hN
        have bl : (rle (((expand xs).take (((expand xs).length : Nat) : Int).toNat).drop (endL l 0 bp).toNat)).length ≤ 300 := by rw [List.length_append] at t1; omega
        have k48 := c48 A (rle (((expand xs).take (((expand xs).length : Nat) : Int).toNat).drop (endL l 0 bp).toNat)) (by omega) (by omega)
        generalize rle (((expand xs).take (((expand xs).length : Nat) : Int).toNat).drop (endL l 0 bp).toNat) = B1 at *
        have w1 : IntKind.i64.wrap (((gapsL l 0 bp).length : Int) + 1) = (((gapsL l 0 bp).length + 1 : Nat) : Int) := by rw [wrap_in (by omega)]; omega
        simp (maxSteps := 1000000) (implicitDefEqProofs := false) only [g5, g6, hr1, hr2, hr3, k40, k48, w1, k15, encSp, Int.le_refl, beq_self_eq_true, bne_self_eq_false, Int.natCast_nonneg, Int.toNat_natCast, List.getElem?_map, List.length_map, evRegion_st hok, Try.ntmps15, Try.results15, efc15, fc15, ss, sd, zH, qG, zF, zG, St.get, qE, qF, qB, zC, norm, look, zE, qA, qI, St.alloc, St.drop, zA, part, zB, depth, qD, ↓reduceIte, Nat.reduceBEq, Nat.reduceAdd, Nat.reduceSub, Nat.reduceMul, Nat.reduceEqDiff, Nat.reduceLeDiff, Nat.reduceLT, qJ, qK, qL, qM, qN, qO, qP, qQ, qR, zI, qS, qC, qT, qU, qV, qW, qX, qY, qZ, zJ, zK, zL, wit, Option.isSome_some, qH, St.with, zD, Array.size, te, einl, inls, efr]
        have fin := c49 (A ++ B1) xs A1.pos okx.1 (by omega) (by omega) t2 (fun r hr => Int.le_trans (le_total okx.1 r hr) (by omega)) false false (by rw [A1.ex, Int.toNat_natCast, List.take_length])
        generalize hr : loopAt _ _ _ _ _ _ = r; revert r
        refine loop_list xs (fun pre c => [(33, c.1), (34, .int .i64 pre.length)]) (fun _ _ => []) (fun pre c => Reads c.1 c.2.1 c.2.2 ∧ c.2.2 = pre) (V.emp, true, ([] : List Run)) (by omega) (by simp (maxSteps := 1000000) (implicitDefEqProofs := false) only [Int.natCast_zero, ss, sd, zH, qG, zF, zG, St.get, qE, qF, qB, zC, norm, look, zE, qA, qI, St.alloc, St.drop, zA, part, zB, depth, qD, ↓reduceIte, Nat.reduceBEq, Nat.reduceAdd, Nat.reduceSub, Nat.reduceMul, Nat.reduceEqDiff, Nat.reduceLeDiff, Nat.reduceLT, qJ, qK, qL, qM, qN, qO, qP, qQ, qR, zI, qS, qC, qT, qU, qV, qW, qX, qY, qZ, zJ, zK, zL, wit, Option.isSome_some, qH, St.with, zD, Array.size, te, einl, inls, efr]) ⟨reads_emp, rfl⟩ (fun c hi => ?_) (fun pre x post c hq hi g1 g2 g3 g4 => ?_)
        · obtain ⟨v2, b2, A2⟩ := c
          obtain ⟨⟨q1, q2, q3⟩, rfl⟩ := hi
          have z1 : ((((expand A2).length : Nat) : Int) == total A2) = true := by rw [eN]; simp
          simp (maxSteps := 1000000) (implicitDefEqProofs := false) only [q1, q2, q3, fin, z1, gl, Int.lt_irrefl, beq_self_eq_true, List.length_map, Try.ntmps15, Try.results15, efc15, fc15, ss, sd, zH, qG, zF, zG, St.get, qE, qF, qB, zC, norm, look, zE, qA, qI, St.alloc, St.drop, zA, part, zB, depth, qD, ↓reduceIte, Nat.reduceBEq, Nat.reduceAdd, Nat.reduceSub, Nat.reduceMul, Nat.reduceEqDiff, Nat.reduceLeDiff, Nat.reduceLT, qJ, qK, qL, qM, qN, qO, qP, qQ, qR, zI, qS, qC, qT, qU, qV, qW, qX, qY, qZ, zJ, zK, zL, wit, Option.isSome_some, qH, St.with, zD, Array.size, te, einl, inls, efr]
        · obtain ⟨v2, b2, A2⟩ := c
          obtain ⟨⟨q1, q2, q3⟩, rfl⟩ := hi
          have m1 := sized_runs xs
          have m2 : ((xs.map encRun).drop A2.length).take (((A2 ++ [x]).length : Int) - (A2.length : Int)).toNat = [x].map encRun := by
            rw [show (((A2 ++ [x]).length : Int) - (A2.length : Int)).toNat = 1 by simp, ← List.map_drop, ← List.map_take, hq, List.drop_left]; rfl
          have m3 : ((A2.length : Int) ≤ ((A2 ++ [x]).length : Int)) = True := eq_true (by simp only [List.length_append, List.length_cons, List.length_nil]; omega)
          have m4 : (((A2 ++ [x]).length : Int) ≤ (xs.length : Int)) = True := eq_true (by rw [hq]; simp only [List.length_append, List.length_cons, List.length_nil]; omega)
          have hA2 : A2.length < xs.length := g2
          have k48' := c48 A2 [x] (by omega) (by simp)
          rw [List.map_cons, List.map_nil] at k48' m2
          simp (maxSteps := 1000000) (implicitDefEqProofs := false) only [q1, q2, q3, g1, g2, g3, g4, m1, m2, m3, m4, k48', Int.natCast_nonneg, Int.toNat_natCast, List.length_map, ss, sd, zH, qG, zF, zG, St.get, qE, qF, qB, zC, norm, look, zE, qA, qI, St.alloc, St.drop, zA, part, zB, depth, qD, ↓reduceIte, Nat.reduceBEq, Nat.reduceAdd, Nat.reduceSub, Nat.reduceMul, Nat.reduceEqDiff, Nat.reduceLeDiff, Nat.reduceLT, qJ, qK, qL, qM, qN, qO, qP, qQ, qR, zI, qS, qC, qT, qU, qV, qW, qX, qY, qZ, zJ, zK, zL, wit, Option.isSome_some, qH, St.with, zD, Array.size, te, einl, inls, efr]
          exact ⟨(_, false, A2 ++ [x]), rfl, reads_sl _, rfl⟩
      · rw [if_neg hlast, List.append_nil] at hW
        have eE : endL l 0 bp = (((expand xs).length : Nat) : Int) := by omega
        have gl : (wasteL l ((expand xs).length : Nat) 0 bp).length = (gapsL l 0 bp).length := by rw [hW]
        rw [eE] at ha ⊢
        simp (maxSteps := 1000000) (implicitDefEqProofs := false) only [hr1, hr2, hr3, gl, k15, encSp, Int.le_refl, Int.lt_irrefl, beq_self_eq_true, bne_self_eq_false, Int.natCast_nonneg, Int.toNat_natCast, List.getElem?_map, List.length_map, evRegion_st hok, Try.ntmps15, Try.results15, efc15, fc15, ss, sd, zH, qG, zF, zG, St.get, qE, qF, qB, zC, norm, look, zE, qA, qI, St.alloc, St.drop, zA, part, zB, depth, qD, ↓reduceIte, Nat.reduceBEq, Nat.reduceAdd, Nat.reduceSub, Nat.reduceMul, Nat.reduceEqDiff, Nat.reduceLeDiff, Nat.reduceLT, qJ, qK, qL, qM, qN, qO, qP, qQ, qR, zI, qS, qC, qT, qU, qV, qW, qX, qY, qZ, zJ, zK, zL, wit, Option.isSome_some, qH, St.with, zD, Array.size, te, einl, inls, efr]
        have fin := c49 A xs ha.pos okx.1 (by omega) (by omega) s2 (fun r hr => Int.le_trans (le_total okx.1 r hr) (by omega)) false false (by rw [ha.ex, Int.toNat_natCast, List.take_length])
        generalize hr : loopAt _ _ _ _ _ _ = r; revert r
        refine loop_list xs (fun pre c => [(33, c.1), (34, .int .i64 pre.length)]) (fun _ _ => []) (fun pre c => Reads c.1 c.2.1 c.2.2 ∧ c.2.2 = pre) (V.emp, true, ([] : List Run)) (by omega) (by simp (maxSteps := 1000000) (implicitDefEqProofs := false) only [Int.natCast_zero, ss, sd, zH, qG, zF, zG, St.get, qE, qF, qB, zC, norm, look, zE, qA, qI, St.alloc, St.drop, zA, part, zB, depth, qD, ↓reduceIte, Nat.reduceBEq, Nat.reduceAdd, Nat.reduceSub, Nat.reduceMul, Nat.reduceEqDiff, Nat.reduceLeDiff, Nat.reduceLT, qJ, qK, qL, qM, qN, qO, qP, qQ, qR, zI, qS, qC, qT, qU, qV, qW, qX, qY, qZ, zJ, zK, zL, wit, Option.isSome_some, qH, St.with, zD, Array.size, te, einl, inls, efr]) ⟨reads_emp, rfl⟩ (fun c hi => ?_) (fun pre x post c hq hi g1 g2 g3 g4 => ?_)
        · obtain ⟨v2, b2, A2⟩ := c
          obtain ⟨⟨q1, q2, q3⟩, rfl⟩ := hi
          have z1 : ((((expand A2).length : Nat) : Int) == total A2) = true := by rw [eN]; simp
          simp (maxSteps := 1000000) (implicitDefEqProofs := false) only [hr1, hr2, hr3, q1, q2, q3, fin, z1, gl, Int.lt_irrefl, beq_self_eq_true, List.length_map, Try.ntmps15, Try.results15, efc15, fc15, ss, sd, zH, qG, zF, zG, St.get, qE, qF, qB, zC, norm, look, zE, qA, qI, St.alloc, St.drop, zA, part, zB, depth, qD, ↓reduceIte, Nat.reduceBEq, Nat.reduceAdd, Nat.reduceSub, Nat.reduceMul, Nat.reduceEqDiff, Nat.reduceLeDiff, Nat.reduceLT, qJ, qK, qL, qM, qN, qO, qP, qQ, qR, zI, qS, qC, qT, qU, qV, qW, qX, qY, qZ, zJ, zK, zL, wit, Option.isSome_some, qH, St.with, zD, Array.size, te, einl, inls, efr]
        · obtain ⟨v2, b2, A2⟩ := c
          obtain ⟨⟨q1, q2, q3⟩, rfl⟩ := hi
          have m1 := sized_runs xs
          have m2 : ((xs.map encRun).drop A2.length).take (((A2 ++ [x]).length : Int) - (A2.length : Int)).toNat = [x].map encRun := by
            rw [show (((A2 ++ [x]).length : Int) - (A2.length : Int)).toNat = 1 by simp, ← List.map_drop, ← List.map_take, hq, List.drop_left]; rfl
          have m3 : ((A2.length : Int) ≤ ((A2 ++ [x]).length : Int)) = True := eq_true (by simp only [List.length_append, List.length_cons, List.length_nil]; omega)
          have m4 : (((A2 ++ [x]).length : Int) ≤ (xs.length : Int)) = True := eq_true (by rw [hq]; simp only [List.length_append, List.length_cons, List.length_nil]; omega)
          have hA2 : A2.length < xs.length := g2
          have k48' := c48 A2 [x] (by omega) (by simp)
          rw [List.map_cons, List.map_nil] at k48' m2
          simp (maxSteps := 1000000) (implicitDefEqProofs := false) only [q1, q2, q3, hr2, hr3, g1, g2, g3, g4, m1, m2, m3, m4, k48', Int.natCast_nonneg, Int.toNat_natCast, List.length_map, ss, sd, zH, qG, zF, zG, St.get, qE, qF, qB, zC, norm, look, zE, qA, qI, St.alloc, St.drop, zA, part, zB, depth, qD, ↓reduceIte, Nat.reduceBEq, Nat.reduceAdd, Nat.reduceSub, Nat.reduceMul, Nat.reduceEqDiff, Nat.reduceLeDiff, Nat.reduceLT, qJ, qK, qL, qM, qN, qO, qP, qQ, qR, zI, qS, qC, qT, qU, qV, qW, qX, qY, qZ, zJ, zK, zL, wit, Option.isSome_some, qH, St.with, zD, Array.size, te, einl, inls, efr]
          exact ⟨(_, false, A2 ++ [x]), rfl, reads_sl _, rfl⟩
    · obtain ⟨v, b, A⟩ := c
      obtain ⟨⟨hr1, hr2, hr3⟩, ha⟩ := hi
      dsimp only at hr1 hr2 hr3 ha ⊢
      have hf := hfit p (by rw [hq]; simp)
      have ht : checkL (expand xs) l (endL l 0 pre) (p :: post) = 0 := check_tail (pre := pre) (by rw [← hq]; exact hcs)
      have hcp : checkL (expand xs) l 0 pre = 0 := check_pre (ps := p :: post) (by rw [← hq]; exact hcs)
      obtain ⟨n0, n1⟩ := endL_in e3 (Int.le_refl 0) (by omega) hcp
      have hle : endL l 0 pre ≤ p.1 := by
        rw [checkL, if_pos hf] at ht
        split at ht
        · cases ht
        · omega
      have hpl : lengthM (pieceL (expand xs) l p) = (lenAt l p.2, 0) := piece_len he hf
      obtain ⟨a, f1, f2, f3, f4, f5, f6, f7, _⟩ := fits_in hf
      have al := ((validA_len e3).2 a (List.mem_of_getElem? f1)).1
      have es := endL_snoc l p pre 0
      have gs := gaps_snoc l p pre 0
      have hW := waste_app l ((expand xs).length : Nat) (p :: post) pre 0
      rw [← hq] at hW
      have hgl := gaps_len l pre 0
      have hprl : pre.length ≤ 400 := by omega
      have pl : (pieceL (expand xs) l p).length ≤ 300 := rle_short (by rw [List.length_drop, List.length_take]; omega)
      have k39 := c39 false (pieceL (expand xs) l p) (by omega)
      rw [hpl] at k39
      simp only [encLen] at k39
      have i1 : ((pre.length : Int) ≤ (bp.length : Int)) = True := eq_true (by omega)
      have i2 : ((pre.length : Int) == (bp.length : Int)) = false := by simp; omega
      have pc : pieceL (expand xs) l p = rle (((expand xs).take (p.1 + lenAt l p.2).toNat).drop p.1.toNat) := rfl
      have w2 : IntKind.i64.wrap (p.1 + lenAt l p.2) = p.1 + lenAt l p.2 := wrap_in (by omega)
      by_cases hgap : endL l 0 pre < p.1
      · rw [if_pos hgap] at gs
        have g5 : (wasteL l ((expand xs).length : Nat) 0 bp)[(gapsL l 0 pre).length]? = some (endL l 0 pre, p.1) := by
          rw [hW, List.getElem?_append_right (Nat.le_refl _), Nat.sub_self, wasteL, if_pos hgap]; rfl
        have g6' := (List.getElem?_eq_some_iff.1 g5).1
        have g6 : (((gapsL l 0 pre).length : Int) < ((wasteL l ((expand xs).length : Nat) 0 bp).length : Int)) = True := eq_true (by omega)
        have k40 := c40 xs (endL l 0 pre) p.1 (by omega)
        rw [cut_slice he n0 hle (by omega)] at k40
        simp only [encRes] at k40
        have A1 := ha.add n0 hle (by omega) hN
        have A2 := A1.add (b := p.1 + lenAt l p.2) f4 (by omega) (by omega) hN
        rw [← pc] at A2
        obtain ⟨t1, t2⟩ := A1.small hN
        have bl : (rle (((expand xs).take p.1.toNat).drop (endL l 0 pre).toNat)).length ≤ 300 := by rw [List.length_append] at t1; omega
        have al2 := (ha.small hN).1
        have k48a := c48 A (rle (((expand xs).take p.1.toNat).drop (endL l 0 pre).toNat)) (by omega) (by omega)
        generalize rle (((expand xs).take p.1.toNat).drop (endL l 0 pre).toNat) = B1 at *
        have k48b := c48 (A ++ B1) (pieceL (expand xs) l p) (by omega) (by omega)
        have w1 : IntKind.i64.wrap (((gapsL l 0 pre).length : Int) + 1) = (((gapsL l 0 pre).length + 1 : Nat) : Int) := by rw [wrap_in (by omega)]; omega
        have e3' : (gapsL l 0 (pre ++ [p])).length = (gapsL l 0 pre).length + 1 := by rw [gs]; simp
        simp (maxSteps := 1000000) (implicitDefEqProofs := false) only [g1, g2, g3, g4, g5, g6, i1, i2, hr1, hr2, hr3, k40, k48a, k48b, k39, w1, w2, encSp, encPc, encRec, beq_self_eq_true, bne_self_eq_false, Int.natCast_nonneg, Int.toNat_natCast, List.getElem?_map, List.length_map, evRegion_st hok, ss, sd, zH, qG, zF, zG, St.get, qE, qF, qB, zC, norm, look, zE, qA, qI, St.alloc, St.drop, zA, part, zB, depth, qD, ↓reduceIte, Nat.reduceBEq, Nat.reduceAdd, Nat.reduceSub, Nat.reduceMul, Nat.reduceEqDiff, Nat.reduceLeDiff, Nat.reduceLT, qJ, qK, qL, qM, qN, qO, qP, qQ, qR, zI, qS, qC, qT, qU, qV, qW, qX, qY, qZ, zJ, zK, zL, wit, Option.isSome_some, qH, St.with, zD, Array.size, te, einl, inls, efr]
        exact ⟨(.sl false ((A ++ B1 ++ pieceL (expand xs) l p).map encRun), false, A ++ B1 ++ pieceL (expand xs) l p), by rw [es, e3'], ⟨reads_sl _, by rw [es]; exact A2⟩⟩
      · rw [if_neg hgap, List.append_nil] at gs
        have eq1 : endL l 0 pre = p.1 := by omega
        obtain ⟨hw1, hw2⟩ := waste_head e3 ht hgap
        rw [hw1] at hW
        rw [eq1] at ha
        have A2 := ha.add (b := p.1 + lenAt l p.2) f4 (by omega) (by omega) hN
        rw [← pc] at A2
        have al2 := (ha.small hN).1
        have k48b := c48 A (pieceL (expand xs) l p) (by omega) (by omega)
        have e3' : (gapsL l 0 (pre ++ [p])).length = (gapsL l 0 pre).length := by rw [gs]
        cases hR : wasteL l ((expand xs).length : Nat) (p.1 + lenAt l p.2) post with
        | nil =>
          rw [hR, List.append_nil] at hW
          have g6 : (((gapsL l 0 pre).length : Int) < ((wasteL l ((expand xs).length : Nat) 0 bp).length : Int)) = False := eq_false (by rw [hW]; omega)
          simp (maxSteps := 1000000) (implicitDefEqProofs := false) only [g1, g2, g3, g4, g6, i1, i2, eq1, hr1, hr2, hr3, k48b, k39, w2, encSp, encPc, encRec, beq_self_eq_true, bne_self_eq_false, Int.natCast_nonneg, Int.toNat_natCast, List.getElem?_map, List.length_map, evRegion_st hok, ss, sd, zH, qG, zF, zG, St.get, qE, qF, qB, zC, norm, look, zE, qA, qI, St.alloc, St.drop, zA, part, zB, depth, qD, ↓reduceIte, Nat.reduceBEq, Nat.reduceAdd, Nat.reduceSub, Nat.reduceMul, Nat.reduceEqDiff, Nat.reduceLeDiff, Nat.reduceLT, qJ, qK, qL, qM, qN, qO, qP, qQ, qR, zI, qS, qC, qT, qU, qV, qW, qX, qY, qZ, zJ, zK, zL, wit, Option.isSome_some, qH, St.with, zD, Array.size, te, einl, inls, efr]
          exact ⟨(.sl false ((A ++ pieceL (expand xs) l p).map encRun), false, A ++ pieceL (expand xs) l p), by rw [es, e3'], ⟨reads_sl _, by rw [es]; exact A2⟩⟩
        | cons s W =>
          have hs := hw2 s (by rw [hR]; exact List.mem_cons_self)
          rw [hR] at hW
          have g5 : (wasteL l ((expand xs).length : Nat) 0 bp)[(gapsL l 0 pre).length]? = some s := by
            rw [hW, List.getElem?_append_right (Nat.le_refl _), Nat.sub_self]; rfl
          have g6' := (List.getElem?_eq_some_iff.1 g5).1
          have g6 : (((gapsL l 0 pre).length : Int) < ((wasteL l ((expand xs).length : Nat) 0 bp).length : Int)) = True := eq_true (by omega)
          have g7 : (s.1 == p.1) = false := by simp; omega
          simp (maxSteps := 1000000) (implicitDefEqProofs := false) only [g1, g2, g3, g4, g5, g6, g7, i1, i2, eq1, hr1, hr2, hr3, k48b, k39, w2, encSp, encPc, encRec, beq_self_eq_true, bne_self_eq_false, Int.natCast_nonneg, Int.toNat_natCast, List.getElem?_map, List.length_map, evRegion_st hok, ss, sd, zH, qG, zF, zG, St.get, qE, qF, qB, zC, norm, look, zE, qA, qI, St.alloc, St.drop, zA, part, zB, depth, qD, ↓reduceIte, Nat.reduceBEq, Nat.reduceAdd, Nat.reduceSub, Nat.reduceMul, Nat.reduceEqDiff, Nat.reduceLeDiff, Nat.reduceLT, qJ, qK, qL, qM, qN, qO, qP, qQ, qR, zI, qS, qC, qT, qU, qV, qW, qX, qY, qZ, zJ, zK, zL, wit, Option.isSome_some, qH, St.with, zD, Array.size, te, einl, inls, efr]
          exact ⟨(.sl false ((A ++ pieceL (expand xs) l p).map encRun), false, A ++ pieceL (expand xs) l p), by rw [es, e3'], ⟨reads_sl _, by rw [es]; exact A2⟩⟩

end Go.AM.C

