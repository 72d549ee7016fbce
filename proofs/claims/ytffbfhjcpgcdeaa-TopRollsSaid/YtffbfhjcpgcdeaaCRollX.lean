import Derived.Test.YtffbfhjcpgcdeaaCRollW
set_option linter.unusedVariables false
set_option linter.unusedSimpArgs false
set_option maxRecDepth 20000

namespace Go.AM.C
open Go Go.Proofs

def wasteR (xs : List Run) (l : List Art) (ps : List (Int × Int)) : List (Int × Int) × Int := if accE xs l ps = 0 then (wasteL l ((expand xs).length : Nat) 0 ps, 0) else ([], accE xs l ps)

theorem okT37 : okCode (Try.f37.body.getD .skip) = true := by decide +kernel

set_option maxHeartbeats 8000000 in
theorem c37 (xs : List Run) (l : List Art) (ps : List (Int × Int)) (hx : xs.length ≤ 100000) (hl : l.length ≤ 100000) (hn : ps.length ≤ 100000) :
    (orcω E X0).call 37 [.sl false (xs.map encRun), .sl false (l.map encArt), .sl false (ps.map encPc)] = some (encWh (wasteR xs l ps)) := by
  refine call_of rfl fn37 rfl ?_
  have hok := okT37
  simp only [Try.f37, Option.getD_some, okCode, Bool.and_eq_true, Bool.and_true, Bool.true_and] at hok
  have k1 := c58 xs l ps hx hl hn
  unfold accV at k1
  unfold wasteR accE
  by_cases he : errM xs l = 0
  · rw [if_pos he] at k1 ⊢
    by_cases hc : checkL (expand xs) l 0 ps = 0
    · rw [hc] at k1 ⊢
      rw [if_pos rfl]
      have hfit := check_fits hc
      have g5 := offs_len (expand xs) l 0
      have hN := err_len he
      simp (maxSteps := 1000000) (implicitDefEqProofs := false) only [Try.ntmps37, Try.results37, efc37, fc37, k1, bne_self_eq_false, encWh, ss, sd, zH, qG, zF, zG, St.get, qE, qF, qB, zC, norm, look, zE, qA, qI, St.alloc, St.drop, zA, part, zB, depth, qD, ↓reduceIte, Nat.reduceBEq, Nat.reduceAdd, Nat.reduceSub, Nat.reduceMul, Nat.reduceEqDiff, Nat.reduceLeDiff, Nat.reduceLT, qJ, qK, qL, qM, qN, qO, qP, qQ, qR, zI, qS, qC, qT, qU, qV, qW, qX, qY, qZ, zJ, zK, zL, wit, Option.isSome_some, qH, St.with, zD, Array.size, te, einl, inls, efr]
      generalize hr : loopAt _ _ _ _ _ _ = r; revert r
      refine loop_list ps (fun pre _ => [(10, .own 10 0 (gapsL l 0 pre).length), (11, .int .i64 (endL l 0 pre)), (26, .int .i64 pre.length)]) (fun pre _ => [(8, { es := 3, flat := true, t := false, app := false, elems := [.agg [.sl false (xs.map encRun), .int .i64 ((expand xs).length : Nat), .sl false (offs (expand xs) 0 l)]] }), (10, { es := 2, flat := true, t := true, app := true, elems := (gapsL l 0 pre).map encSp })])
        (fun pre (_ : Unit) => True) () (by omega) (by simp (maxSteps := 1000000) (implicitDefEqProofs := false) only [gapsL, endL, List.map_nil, ss, sd, zH, qG, zF, zG, St.get, qE, qF, qB, zC, norm, look, zE, qA, qI, St.alloc, St.drop, zA, part, zB, depth, qD, ↓reduceIte, Nat.reduceBEq, Nat.reduceAdd, Nat.reduceSub, Nat.reduceMul, Nat.reduceEqDiff, Nat.reduceLeDiff, Nat.reduceLT, qJ, qK, qL, qM, qN, qO, qP, qQ, qR, zI, qS, qC, qT, qU, qV, qW, qX, qY, qZ, zJ, zK, zL, wit, Option.isSome_some, qH, St.with, zD, Array.size, te, einl, inls, efr]) trivial (fun _ hi => ?_) (fun pre p post _ hp hi g1 g2 g3 g4 => ?_)
      · have hw := waste_gaps l ((expand xs).length : Nat) ps 0
        have hgl := gaps_len l ps 0
        have hroom : roomy ((gapsL l 0 ps).length + 1) 16 = true := by simp [roomy]; omega
        have hbig : (gapsL l 0 ps).length + 1 ≤ 4294967296 := by omega
        by_cases hlast : endL l 0 ps < ((expand xs).length : Int)
        · rw [if_pos hlast] at hw
          rw [hw]
          simp (maxSteps := 1000000) (implicitDefEqProofs := false) only [Int.lt_irrefl, hlast, hroom, hbig, Try.ntmps37, Try.results37, efc37, fc37, ss, sd, zH, qG, zF, zG, St.get, qE, qF, qB, zC, norm, look, zE, qA, qI, St.alloc, St.drop, zA, part, zB, depth, qD, ↓reduceIte, Nat.reduceBEq, Nat.reduceAdd, Nat.reduceSub, Nat.reduceMul, Nat.reduceEqDiff, Nat.reduceLeDiff, Nat.reduceLT, qJ, qK, qL, qM, qN, qO, qP, qQ, qR, zI, qS, qC, qT, qU, qV, qW, qX, qY, qZ, zJ, zK, zL, wit, Option.isSome_some, qH, St.with, zD, Array.size, te, einl, inls, efr]
          have e1 : (gapsL l 0 ps).map encSp ++ [.agg [.int .i64 (endL l 0 ps), .int .i64 ((expand xs).length : Nat)]] = (gapsL l 0 ps ++ [(endL l 0 ps, ((expand xs).length : Int))]).map encSp := by rw [List.map_append]; rfl
          rw [e1, if_pos (by simp), List.take_of_length_le (by simp)]
          rfl
        · rw [if_neg hlast, List.append_nil] at hw
          rw [hw]
          simp (maxSteps := 1000000) (implicitDefEqProofs := false) only [Int.lt_irrefl, hlast, Try.ntmps37, Try.results37, efc37, fc37, ss, sd, zH, qG, zF, zG, St.get, qE, qF, qB, zC, norm, look, zE, qA, qI, St.alloc, St.drop, zA, part, zB, depth, qD, ↓reduceIte, Nat.reduceBEq, Nat.reduceAdd, Nat.reduceSub, Nat.reduceMul, Nat.reduceEqDiff, Nat.reduceLeDiff, Nat.reduceLT, qJ, qK, qL, qM, qN, qO, qP, qQ, qR, zI, qS, qC, qT, qU, qV, qW, qX, qY, qZ, zJ, zK, zL, wit, Option.isSome_some, qH, St.with, zD, Array.size, te, einl, inls, efr]
      · obtain ⟨a, f1, f2, f3, f4, f5, f6, f7, _⟩ := fits_in (hfit p (by rw [hp]; simp))
        have a2 := (validA_len (errM_zero he).2.2).2 a (List.mem_of_getElem? f1)
        have g6 := offs_get (expand xs) l 0 p.2.toNat
        rw [f1, Option.map_some, Nat.zero_add] at g6
        have hpl : pre.length ≤ 100000 := by omega
        have gs := gaps_snoc l p pre 0
        have es := endL_snoc l p pre 0
        rw [f6] at es
        have hgl := gaps_len l pre 0
        have hroom : roomy ((gapsL l 0 pre).length + 1) 16 = true := by simp [roomy]; omega
        have hbig : (gapsL l 0 pre).length + 1 ≤ 4294967296 := by omega
        have w1 : IntKind.i64.wrap (p.1 + a.len) = p.1 + a.len := wrap_in (by omega)
        by_cases hgap : endL l 0 pre < p.1
        · rw [if_pos hgap] at gs
          simp (maxSteps := 1000000) (implicitDefEqProofs := false) only [g1, g2, g3, g4, g5, g6, f2, f3, w1, hgap, hroom, hbig, encPc, encOffer, Int.natCast_nonneg, Int.toNat_natCast, List.getElem?_map, evRegion_st hok, ss, sd, zH, qG, zF, zG, St.get, qE, qF, qB, zC, norm, look, zE, qA, qI, St.alloc, St.drop, zA, part, zB, depth, qD, ↓reduceIte, Nat.reduceBEq, Nat.reduceAdd, Nat.reduceSub, Nat.reduceMul, Nat.reduceEqDiff, Nat.reduceLeDiff, Nat.reduceLT, qJ, qK, qL, qM, qN, qO, qP, qQ, qR, zI, qS, qC, qT, qU, qV, qW, qX, qY, qZ, zJ, zK, zL, wit, Option.isSome_some, qH, St.with, zD, Array.size, te, einl, inls, efr]
          have e2 : (gapsL l 0 (pre ++ [p])).length = (gapsL l 0 pre).length + 1 := by rw [gs]; simp
          have e3 : (gapsL l 0 (pre ++ [p])).map encSp = (gapsL l 0 pre).map encSp ++ [.agg [.int .i64 (endL l 0 pre), .int .i64 p.1]] := by rw [gs, List.map_append]; rfl
          exact ⟨(), by rw [e2, e3, es]⟩
        · rw [if_neg hgap, List.append_nil] at gs
          simp (maxSteps := 1000000) (implicitDefEqProofs := false) only [g1, g2, g3, g4, g5, g6, f2, f3, w1, hgap, encPc, encOffer, Int.natCast_nonneg, Int.toNat_natCast, List.getElem?_map, evRegion_st hok, ss, sd, zH, qG, zF, zG, St.get, qE, qF, qB, zC, norm, look, zE, qA, qI, St.alloc, St.drop, zA, part, zB, depth, qD, ↓reduceIte, Nat.reduceBEq, Nat.reduceAdd, Nat.reduceSub, Nat.reduceMul, Nat.reduceEqDiff, Nat.reduceLeDiff, Nat.reduceLT, qJ, qK, qL, qM, qN, qO, qP, qQ, qR, zI, qS, qC, qT, qU, qV, qW, qX, qY, qZ, zJ, zK, zL, wit, Option.isSome_some, qH, St.with, zD, Array.size, te, einl, inls, efr]
          exact ⟨(), by rw [gs, es]⟩
    · rw [if_neg hc]
      have hc' : (checkL (expand xs) l 0 ps != 0) = true := by simpa using hc
      simp (maxSteps := 1000000) (implicitDefEqProofs := false) only [Try.ntmps37, Try.results37, efc37, fc37, k1, hc', encWh, List.map_nil, ss, sd, zH, qG, zF, zG, St.get, qE, qF, qB, zC, norm, look, zE, qA, qI, St.alloc, St.drop, zA, part, zB, depth, qD, ↓reduceIte, Nat.reduceBEq, Nat.reduceAdd, Nat.reduceSub, Nat.reduceMul, Nat.reduceEqDiff, Nat.reduceLeDiff, Nat.reduceLT, qJ, qK, qL, qM, qN, qO, qP, qQ, qR, zI, qS, qC, qT, qU, qV, qW, qX, qY, qZ, zJ, zK, zL, wit, Option.isSome_some, qH, St.with, zD, Array.size, te, einl, inls, efr]
  · rw [if_neg he] at k1 ⊢
    rw [if_neg he]
    have he' : (errM xs l != 0) = true := by simpa using he
    simp (maxSteps := 1000000) (implicitDefEqProofs := false) only [Try.ntmps37, Try.results37, efc37, fc37, k1, bench0, he', encWh, List.map_nil, ss, sd, zH, qG, zF, zG, St.get, qE, qF, qB, zC, norm, look, zE, qA, qI, St.alloc, St.drop, zA, part, zB, depth, qD, ↓reduceIte, Nat.reduceBEq, Nat.reduceAdd, Nat.reduceSub, Nat.reduceMul, Nat.reduceEqDiff, Nat.reduceLeDiff, Nat.reduceLT, qJ, qK, qL, qM, qN, qO, qP, qQ, qR, zI, qS, qC, qT, qU, qV, qW, qX, qY, qZ, zJ, zK, zL, wit, Option.isSome_some, qH, St.with, zD, Array.size, te, einl, inls, efr]

structure Outs (l : List Art) (ps : List (Int × Int)) (i : Nat) (o : List (Int × Int)) : Prop where
  sep : Sep o
  low : ∀ s ∈ o, 0 ≤ s.1 ∧ s.2 ≤ (i : Int)
  cov : ∀ x, covers o x ↔ (0 ≤ x ∧ x < (i : Int) ∧ ¬ inP l ps x)
  len : o.length ≤ i

end Go.AM.C

