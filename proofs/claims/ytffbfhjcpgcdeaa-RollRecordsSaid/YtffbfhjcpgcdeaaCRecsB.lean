/-
The rolls of a cutting, as the reference tells them.
-/
import Derived.Test.YtffbfhjcpgcdeaaCRecs
import Derived.Test.YtffbfhjcpgcdeaaCRollO
set_option linter.unusedVariables false
set_option linter.unusedSimpArgs false
set_option maxRecDepth 20000

namespace Go.AM.C
open Go Go.Proofs

theorem inf42 : (drawn (Try.f42.body.getD .skip)).map infosOf = [[([], false), ([], false), ([], false), ([], false), ([], false), ([], false), ([], false), ([], false), ([], false), ([], false), ([], false), ([], false), ([], true), ([], true), ([], false), ([], false), ([], false), ([], true)], [([], false), ([], false), ([], false), ([], false), ([], false), ([], false), ([], false), ([], false), ([], false), ([], false), ([], false), ([], false), ([], true), ([], true)]] := by decide +kernel
theorem okD42 : (drawn (Try.f42.body.getD .skip)).all okBad = true := by decide +kernel

set_option maxHeartbeats 8000000 in
theorem c42 (xs : List Run) (l : List Art) (ps : List (Int × Int)) (ph rp : Int) (hx : xs.length ≤ 100000) (hl : l.length ≤ 100000) (hn : ps.length ≤ 100000) :
    (orcω E X0).call 42 [.sl false (xs.map encRun), .sl false (l.map encArt), .sl false (ps.map encPc), .int .i64 ph, .int .i64 rp] = some (recsV xs l ps ph rp) := by
  refine call_of rfl fn42 rfl ?_
  have hi := inf42
  have ho := okD42
  simp only [Try.f42, Option.getD_some, drawn, List.map_cons, List.map_nil, List.nil_append, List.append_nil, List.cons_append, List.cons.injEq, and_true] at hi
  simp only [Try.f42, Option.getD_some, drawn, List.nil_append, List.append_nil, List.cons_append, List.all_cons, List.all_nil, Bool.and_true, Bool.and_eq_true] at ho
  obtain ⟨hi1, hi2⟩ := hi
  obtain ⟨ho1, ho2⟩ := ho
  have k1 := c35 xs l ps hx hl hn
  have k54 := c54 rp 1 144
  unfold recsV
  unfold accE at k1 ⊢
  by_cases he : errM xs l = 0
  · rw [if_pos he] at k1 ⊢
    by_cases hc : checkL (expand xs) l 0 ps = 0
    · rw [hc] at k1 ⊢
      rw [if_pos rfl]
      by_cases hb : badPh ph rp = true
      · rw [if_pos hb]
        unfold badPh at hb
        simp only [Bool.or_eq_true, decide_eq_true_eq] at hb
        cases b1 : inB rp 1 144 with
        | false =>
          rw [b1] at k54
          simp (maxSteps := 1000000) (implicitDefEqProofs := false) only [Try.ntmps42, Try.results42, efc42, fc42, k1, k54, bne_self_eq_false, List.map_nil, ss, sd, zH, qG, zF, zG, St.get, qE, qF, qB, zC, norm, look, zE, qA, qI, St.alloc, St.drop, zA, part, zB, depth, qD, ↓reduceIte, Nat.reduceBEq, Nat.reduceAdd, Nat.reduceSub, Nat.reduceMul, Nat.reduceEqDiff, Nat.reduceLeDiff, Nat.reduceLT, qJ, qK, qL, qM, qN, qO, qP, qQ, qR, zI, qS, qC, qT, evSlice0, qV, qW, qX, qY, qZ, zJ, zK, zL, wit, Option.isSome_some, qH, xJ, evPre, St.with, zD, Array.size, evLitX, evAppX, evCold, nameT, te, einl, inls, efr]
        | true =>
          rw [b1] at k54
          have b1' : 1 ≤ rp ∧ rp ≤ 144 := by simpa [inB] using b1
          by_cases b3 : ph < 0
          · simp (maxSteps := 1000000) (implicitDefEqProofs := false) only [Try.ntmps42, Try.results42, efc42, fc42, k1, k54, bne_self_eq_false, b3, List.map_nil, ss, sd, zH, qG, zF, zG, St.get, qE, qF, qB, zC, norm, look, zE, qA, qI, St.alloc, St.drop, zA, part, zB, depth, qD, ↓reduceIte, Nat.reduceBEq, Nat.reduceAdd, Nat.reduceSub, Nat.reduceMul, Nat.reduceEqDiff, Nat.reduceLeDiff, Nat.reduceLT, qJ, qK, qL, qM, qN, qO, qP, qQ, qR, zI, qS, qC, qT, evSlice0, qV, qW, qX, qY, qZ, zJ, zK, zL, wit, Option.isSome_some, qH, xJ, evPre, St.with, zD, Array.size, evLitX, evAppX, evCold, nameT, te, einl, inls, efr]
          · have b4 : rp ≤ ph := by omega
            simp (maxSteps := 1000000) (implicitDefEqProofs := false) only [Try.ntmps42, Try.results42, efc42, fc42, k1, k54, bne_self_eq_false, b3, b4, List.map_nil, ss, sd, zH, qG, zF, zG, St.get, qE, qF, qB, zC, norm, look, zE, qA, qI, St.alloc, St.drop, zA, part, zB, depth, qD, ↓reduceIte, Nat.reduceBEq, Nat.reduceAdd, Nat.reduceSub, Nat.reduceMul, Nat.reduceEqDiff, Nat.reduceLeDiff, Nat.reduceLT, qJ, qK, qL, qM, qN, qO, qP, qQ, qR, zI, qS, qC, qT, evSlice0, qV, qW, qX, qY, qZ, zJ, zK, zL, wit, Option.isSome_some, qH, xJ, evPre, St.with, zD, Array.size, evLitX, evAppX, evCold, nameT, te, einl, inls, efr]
      · rw [if_neg hb]
        unfold badPh at hb
        simp only [Bool.or_eq_true, decide_eq_true_eq, not_or] at hb
        rw [show inB rp 1 144 = true by simp [inB]; omega] at k54
        have b3 : (ph < 0) = False := eq_false (by omega)
        have b4 : (rp ≤ ph) = False := eq_false (by omega)
        have hfit := check_fits hc
        have hN := err_len he
        simp (maxSteps := 1000000) (implicitDefEqProofs := false) only [Try.ntmps42, Try.results42, efc42, fc42, k1, k54, bne_self_eq_false, b3, b4, decide_false, ss, sd, zH, qG, zF, zG, St.get, qE, qF, qB, zC, norm, look, zE, qA, qI, St.alloc, St.drop, zA, part, zB, depth, qD, ↓reduceIte, Nat.reduceBEq, Nat.reduceAdd, Nat.reduceSub, Nat.reduceMul, Nat.reduceEqDiff, Nat.reduceLeDiff, Nat.reduceLT, qJ, qK, qL, qM, qN, qO, qP, qQ, qR, zI, qS, qC, qT, evSlice0, qV, qW, qX, qY, qZ, zJ, zK, zL, wit, Option.isSome_some, qH, xJ, evPre, St.with, zD, Array.size, evLitX, evAppX, evCold, nameT, te, einl, inls, efr]
        generalize hr : loopAt _ _ _ _ _ _ = r; revert r
        refine loop_list ps (fun pre _ => [(13, .own 13 0 pre.length), (14, .int .i64 pre.length)]) (fun pre _ => [(13, { es := 3, flat := true, t := true, app := true, elems := pre.map (encRec (expand xs) l ph rp) })])
          (fun pre (_ : Unit) => True) () (by omega) (by simp (maxSteps := 1000000) (implicitDefEqProofs := false) only [List.map_nil, List.length_nil, Int.natCast_zero, ss, sd, zH, qG, zF, zG, St.get, qE, qF, qB, zC, norm, look, zE, qA, qI, St.alloc, St.drop, zA, part, zB, depth, qD, ↓reduceIte, Nat.reduceBEq, Nat.reduceAdd, Nat.reduceSub, Nat.reduceMul, Nat.reduceEqDiff, Nat.reduceLeDiff, Nat.reduceLT, qJ, qK, qL, qM, qN, qO, qP, qQ, qR, zI, qS, qC, qT, evSlice0, qV, qW, qX, qY, qZ, zJ, zK, zL, wit, Option.isSome_some, qH, xJ, evPre, St.with, zD, Array.size, evLitX, evAppX, evCold, nameT, te, einl, inls, efr]) trivial (fun _ hi => ?_) (fun pre p post _ hp hi g1 g2 g3 g4 => ?_)
        · have tk : (ps.map (encRec (expand xs) l ph rp)).take ps.length = ps.map (encRec (expand xs) l ph rp) := List.take_of_length_le (by simp)
          simp (maxSteps := 1000000) (implicitDefEqProofs := false) only [Int.lt_irrefl, List.length_map, tk, Try.ntmps42, Try.results42, efc42, fc42, ss, sd, zH, qG, zF, zG, St.get, qE, qF, qB, zC, norm, look, zE, qA, qI, St.alloc, St.drop, zA, part, zB, depth, qD, ↓reduceIte, Nat.reduceBEq, Nat.reduceAdd, Nat.reduceSub, Nat.reduceMul, Nat.reduceEqDiff, Nat.reduceLeDiff, Nat.reduceLT, qJ, qK, qL, qM, qN, qO, qP, qQ, qR, zI, qS, qC, qT, evSlice0, qV, qW, qX, qY, qZ, zJ, zK, zL, wit, Option.isSome_some, qH, xJ, evPre, St.with, zD, Array.size, evLitX, evAppX, evCold, nameT, te, einl, inls, efr]
        · have hf := hfit p (by rw [hp]; simp)
          obtain ⟨q1, q2⟩ := rec_slice he hf
          obtain ⟨a, f1, f2, f3, f4, f5, f6, f7, _⟩ := fits_in hf
          have a2 := (validA_len (errM_zero he).2.2).2 a (List.mem_of_getElem? f1)
          have k2 := c65 xs p.1 (p.1 + lenAt l p.2) hx
          rw [q2] at k2
          simp only [encRes] at k2
          rw [f6] at k2
          have hpl : pre.length ≤ 100000 := by omega
          have hroom : roomy (pre.length + 1) 40 = true := by simp [roomy]; omega
          have hbig : pre.length + 1 ≤ 4294967296 := by omega
          have w1 : IntKind.i64.wrap (p.1 + a.len) = p.1 + a.len := wrap_in (by omega)
          have w2 : IntKind.i64.wrap (ph + p.1) = ph + p.1 := wrap_in (by omega)
          have r0 : (rp = 0) = False := eq_false (by omega)
          have sz := sized_recs (expand xs) l ph rp pre
          simp (maxSteps := 1000000) (implicitDefEqProofs := false) only [g1, g2, g3, g4, f1, f2, f3, w1, w2, r0, k2, hroom, hbig, encPc, encArt, ne_eq, not_false_eq_true, Int.natCast_nonneg, Int.toNat_natCast, List.getElem?_map, List.length_map, regT ho1 hi1, evBT_nil, evBT_cons, effT_true, effT_false, effT2_some, effT2_none, calmT, free, Eff.writes, supp, isBar, Option.toList_some, Option.toList_none, regT ho2 hi2, evBT_nil, evBT_cons, effT_true, effT_false, effT2_some, effT2_none, calmT, free, Eff.writes, supp, isBar, Option.toList_some, Option.toList_none, ss, sd, zH, qG, zF, zG, St.get, qE, qF, qB, zC, norm, look, zE, qA, qI, St.alloc, St.drop, zA, part, zB, depth, qD, ↓reduceIte, Nat.reduceBEq, Nat.reduceAdd, Nat.reduceSub, Nat.reduceMul, Nat.reduceEqDiff, Nat.reduceLeDiff, Nat.reduceLT, qJ, qK, qL, qM, qN, qO, qP, qQ, qR, zI, qS, qC, qT, evSlice0, qV, qW, qX, qY, qZ, zJ, zK, zL, wit, Option.isSome_some, qH, xJ, evPre, St.with, zD, Array.size, evLitX, evAppX, evCold, nameT, te, einl, inls, efr]
          exact ⟨(), by rw [List.map_append, List.length_append]; rfl⟩
    · rw [if_neg hc]
      have hc' : (checkL (expand xs) l 0 ps != 0) = true := by simpa using hc
      simp (maxSteps := 1000000) (implicitDefEqProofs := false) only [Try.ntmps42, Try.results42, efc42, fc42, k1, hc', List.map_nil, ss, sd, zH, qG, zF, zG, St.get, qE, qF, qB, zC, norm, look, zE, qA, qI, St.alloc, St.drop, zA, part, zB, depth, qD, ↓reduceIte, Nat.reduceBEq, Nat.reduceAdd, Nat.reduceSub, Nat.reduceMul, Nat.reduceEqDiff, Nat.reduceLeDiff, Nat.reduceLT, qJ, qK, qL, qM, qN, qO, qP, qQ, qR, zI, qS, qC, qT, evSlice0, qV, qW, qX, qY, qZ, zJ, zK, zL, wit, Option.isSome_some, qH, xJ, evPre, St.with, zD, Array.size, evLitX, evAppX, evCold, nameT, te, einl, inls, efr]
  · rw [if_neg he] at k1 ⊢
    rw [if_neg he]
    have he' : (errM xs l != 0) = true := by simpa using he
    simp (maxSteps := 1000000) (implicitDefEqProofs := false) only [Try.ntmps42, Try.results42, efc42, fc42, k1, he', List.map_nil, ss, sd, zH, qG, zF, zG, St.get, qE, qF, qB, zC, norm, look, zE, qA, qI, St.alloc, St.drop, zA, part, zB, depth, qD, ↓reduceIte, Nat.reduceBEq, Nat.reduceAdd, Nat.reduceSub, Nat.reduceMul, Nat.reduceEqDiff, Nat.reduceLeDiff, Nat.reduceLT, qJ, qK, qL, qM, qN, qO, qP, qQ, qR, zI, qS, qC, qT, evSlice0, qV, qW, qX, qY, qZ, zJ, zK, zL, wit, Option.isSome_some, qH, xJ, evPre, St.with, zD, Array.size, evLitX, evAppX, evCold, nameT, te, einl, inls, efr]

end Go.AM.C

