/-
The rolls of a cutting.
-/
import Derived.Test.YtffbfhjcpgcdeaaCTopP
import Derived.Test.YtffbfhjcpgcdeaaAmBad
set_option linter.unusedVariables false
set_option linter.unusedSimpArgs false
set_option maxRecDepth 20000

namespace Go.AM.C
open Go Go.Proofs

def pieceL (ms : List Mk) (l : List Art) (p : Int × Int) : List Run := rle ((ms.take (p.1 + lenAt l p.2).toNat).drop p.1.toNat)
def encRec (ms : List Mk) (l : List Art) (ph rp : Int) (p : Int × Int) : V := .agg [.int .i64 p.2, .int .i64 ((ph + p.1).tmod rp), .sl true ((pieceL ms l p).map encRun)]
def badPh (ph rp : Int) : Bool := decide (rp < 1) || (decide (144 < rp) || (decide (ph < 0) || decide (rp ≤ ph)))
def recsV (xs : List Run) (l : List Art) (ps : List (Int × Int)) (ph rp : Int) : V :=
  if accE xs l ps = 0 then (if badPh ph rp = true then .tup [.sl true [], .int .i64 1] else .tup [.sl true (ps.map (encRec (expand xs) l ph rp)), .int .i64 0]) else .tup [.sl true [], .int .i64 (accE xs l ps)]

theorem sized_recs (ms : List Mk) (l : List Art) (ph rp : Int) (ps : List (Int × Int)) : sized 3 (ps.map (encRec ms l ph rp)) = true := sized_map (fun p => ⟨[.int .i64 p.2, .int .i64 ((ph + p.1).tmod rp), .sl true ((pieceL ms l p).map encRun)], rfl, rfl⟩) ps

theorem rec_slice {xs : List Run} {l : List Art} (he : errM xs l = 0) {p : Int × Int} (hf : fitsM (expand xs) l p.1 p.2 = true) : spanM xs p.1 (p.1 + lenAt l p.2) = true ∧ sliceM xs p.1 (p.1 + lenAt l p.2) = (pieceL (expand xs) l p, 0) := by
  obtain ⟨e1, e2, e3⟩ := errM_zero he
  obtain ⟨a, f1, f2, f3, f4, f5, f6, f7, _⟩ := fits_in hf
  have al := ((validA_len e3).2 a (List.mem_of_getElem? f1)).1
  have hs : spanM xs p.1 (p.1 + lenAt l p.2) = true := (span_of e1).2 (by omega)
  exact ⟨hs, slice_rle e1 hs⟩

theorem inf41 : (drawn (Try.f41.body.getD .skip)).map infosOf = [[([], false), ([], false), ([], false), ([], false), ([], false), ([], false), ([], false), ([], false), ([], false), ([], false), ([], false), ([], false), ([], false), ([], false), ([], true), ([], true), ([], false), ([], false), ([], false), ([], true)], [([], false), ([], false), ([], false), ([], false), ([], false), ([], false), ([], false), ([], false), ([], false), ([], false), ([], false), ([], false), ([], true), ([], true)]] := by decide +kernel
theorem okD41 : (drawn (Try.f41.body.getD .skip)).all okBad = true := by decide +kernel

set_option maxHeartbeats 8000000 in
theorem c41 (xs : List Run) (l : List Art) (ps : List (Int × Int)) (ph rp : Int) (hx : xs.length ≤ 100000) (hl : l.length ≤ 100000) (hn : ps.length ≤ 100000) :
    (orcω E X0).call 41 [.sl false (xs.map encRun), .sl false (l.map encArt), .sl false (ps.map encPc), .int .i64 ph, .int .i64 rp] = some (recsV xs l ps ph rp) := by
  refine call_of rfl fn41 rfl ?_
  have hi := inf41
  have ho := okD41
  simp only [Try.f41, Option.getD_some, drawn, List.map_cons, List.map_nil, List.nil_append, List.append_nil, List.cons_append, List.cons.injEq, and_true] at hi
  simp only [Try.f41, Option.getD_some, drawn, List.nil_append, List.append_nil, List.cons_append, List.all_cons, List.all_nil, Bool.and_true, Bool.and_eq_true] at ho
  obtain ⟨hi1, hi2⟩ := hi
  obtain ⟨ho1, ho2⟩ := ho
  have k1 := c58 xs l ps hx hl hn
  unfold accV at k1
  unfold recsV accE
  by_cases he : errM xs l = 0
  · rw [if_pos he] at k1 ⊢
    by_cases hc : checkL (expand xs) l 0 ps = 0
    · rw [hc] at k1 ⊢
      rw [if_pos rfl]
      by_cases hb : badPh ph rp = true
      · rw [if_pos hb]
        unfold badPh at hb
        simp only [Bool.or_eq_true, decide_eq_true_eq] at hb
        by_cases b1 : rp < 1
        · simp (maxSteps := 1000000) (implicitDefEqProofs := false) only [Try.ntmps41, Try.results41, efc41, fc41, k1, bne_self_eq_false, b1, List.map_nil, ss, sd, zH, qG, zF, zG, St.get, qE, qF, qB, zC, norm, look, zE, qA, qI, St.alloc, St.drop, zA, part, zB, depth, qD, ↓reduceIte, Nat.reduceBEq, Nat.reduceAdd, Nat.reduceSub, Nat.reduceMul, Nat.reduceEqDiff, Nat.reduceLeDiff, Nat.reduceLT, qJ, qK, qL, qM, qN, qO, qP, qQ, qR, zI, qS, qC, qT, qU, qV, qW, qX, qY, qZ, zJ, zK, zL, wit, Option.isSome_some, qH, St.with, zD, Array.size, te, einl, inls, efr]
        · by_cases b2 : 144 < rp
          · simp (maxSteps := 1000000) (implicitDefEqProofs := false) only [Try.ntmps41, Try.results41, efc41, fc41, k1, bne_self_eq_false, b1, b2, List.map_nil, ss, sd, zH, qG, zF, zG, St.get, qE, qF, qB, zC, norm, look, zE, qA, qI, St.alloc, St.drop, zA, part, zB, depth, qD, ↓reduceIte, Nat.reduceBEq, Nat.reduceAdd, Nat.reduceSub, Nat.reduceMul, Nat.reduceEqDiff, Nat.reduceLeDiff, Nat.reduceLT, qJ, qK, qL, qM, qN, qO, qP, qQ, qR, zI, qS, qC, qT, qU, qV, qW, qX, qY, qZ, zJ, zK, zL, wit, Option.isSome_some, qH, St.with, zD, Array.size, te, einl, inls, efr]
          · by_cases b3 : ph < 0
            · simp (maxSteps := 1000000) (implicitDefEqProofs := false) only [Try.ntmps41, Try.results41, efc41, fc41, k1, bne_self_eq_false, b1, b2, b3, List.map_nil, ss, sd, zH, qG, zF, zG, St.get, qE, qF, qB, zC, norm, look, zE, qA, qI, St.alloc, St.drop, zA, part, zB, depth, qD, ↓reduceIte, Nat.reduceBEq, Nat.reduceAdd, Nat.reduceSub, Nat.reduceMul, Nat.reduceEqDiff, Nat.reduceLeDiff, Nat.reduceLT, qJ, qK, qL, qM, qN, qO, qP, qQ, qR, zI, qS, qC, qT, qU, qV, qW, qX, qY, qZ, zJ, zK, zL, wit, Option.isSome_some, qH, St.with, zD, Array.size, te, einl, inls, efr]
            · have b4 : rp ≤ ph := by omega
              simp (maxSteps := 1000000) (implicitDefEqProofs := false) only [Try.ntmps41, Try.results41, efc41, fc41, k1, bne_self_eq_false, b1, b2, b3, b4, List.map_nil, ss, sd, zH, qG, zF, zG, St.get, qE, qF, qB, zC, norm, look, zE, qA, qI, St.alloc, St.drop, zA, part, zB, depth, qD, ↓reduceIte, Nat.reduceBEq, Nat.reduceAdd, Nat.reduceSub, Nat.reduceMul, Nat.reduceEqDiff, Nat.reduceLeDiff, Nat.reduceLT, qJ, qK, qL, qM, qN, qO, qP, qQ, qR, zI, qS, qC, qT, qU, qV, qW, qX, qY, qZ, zJ, zK, zL, wit, Option.isSome_some, qH, St.with, zD, Array.size, te, einl, inls, efr]
      · rw [if_neg hb]
        unfold badPh at hb
        simp only [Bool.or_eq_true, decide_eq_true_eq, not_or] at hb
        have b1 : (rp < 1) = False := eq_false (by omega)
        have b2 : (144 < rp) = False := eq_false (by omega)
        have b3 : (ph < 0) = False := eq_false (by omega)
        have b4 : (rp ≤ ph) = False := eq_false (by omega)
        have hfit := check_fits hc
        have g5 := offs_len (expand xs) l 0
        have hN := err_len he
        simp (maxSteps := 1000000) (implicitDefEqProofs := false) only [Try.ntmps41, Try.results41, efc41, fc41, k1, bne_self_eq_false, b1, b2, b3, b4, decide_false, ss, sd, zH, qG, zF, zG, St.get, qE, qF, qB, zC, norm, look, zE, qA, qI, St.alloc, St.drop, zA, part, zB, depth, qD, ↓reduceIte, Nat.reduceBEq, Nat.reduceAdd, Nat.reduceSub, Nat.reduceMul, Nat.reduceEqDiff, Nat.reduceLeDiff, Nat.reduceLT, qJ, qK, qL, qM, qN, qO, qP, qQ, qR, zI, qS, qC, qT, qU, qV, qW, qX, qY, qZ, zJ, zK, zL, wit, Option.isSome_some, qH, St.with, zD, Array.size, te, einl, inls, efr]
        generalize hr : loopAt _ _ _ _ _ _ = r; revert r
        refine loop_list ps (fun pre _ => [(14, .own 14 0 pre.length), (46, .int .i64 pre.length)]) (fun pre _ => [(14, { es := 3, flat := true, t := true, app := true, elems := pre.map (encRec (expand xs) l ph rp) })])
          (fun pre (_ : Unit) => True) () (by omega) (by simp (maxSteps := 1000000) (implicitDefEqProofs := false) only [List.map_nil, List.length_nil, ss, sd, zH, qG, zF, zG, St.get, qE, qF, qB, zC, norm, look, zE, qA, qI, St.alloc, St.drop, zA, part, zB, depth, qD, ↓reduceIte, Nat.reduceBEq, Nat.reduceAdd, Nat.reduceSub, Nat.reduceMul, Nat.reduceEqDiff, Nat.reduceLeDiff, Nat.reduceLT, qJ, qK, qL, qM, qN, qO, qP, qQ, qR, zI, qS, qC, qT, qU, qV, qW, qX, qY, qZ, zJ, zK, zL, wit, Option.isSome_some, qH, St.with, zD, Array.size, te, einl, inls, efr]) trivial (fun _ hi => ?_) (fun pre p post _ hp hi g1 g2 g3 g4 => ?_)
        · have tk : (ps.map (encRec (expand xs) l ph rp)).take ps.length = ps.map (encRec (expand xs) l ph rp) := List.take_of_length_le (by simp)
          simp (maxSteps := 1000000) (implicitDefEqProofs := false) only [Int.lt_irrefl, List.length_map, tk, Try.ntmps41, Try.results41, efc41, fc41, ss, sd, zH, qG, zF, zG, St.get, qE, qF, qB, zC, norm, look, zE, qA, qI, St.alloc, St.drop, zA, part, zB, depth, qD, ↓reduceIte, Nat.reduceBEq, Nat.reduceAdd, Nat.reduceSub, Nat.reduceMul, Nat.reduceEqDiff, Nat.reduceLeDiff, Nat.reduceLT, qJ, qK, qL, qM, qN, qO, qP, qQ, qR, zI, qS, qC, qT, qU, qV, qW, qX, qY, qZ, zJ, zK, zL, wit, Option.isSome_some, qH, St.with, zD, Array.size, te, einl, inls, efr]
        · have hf := hfit p (by rw [hp]; simp)
          obtain ⟨q1, q2⟩ := rec_slice he hf
          obtain ⟨a, f1, f2, f3, f4, f5, f6, f7, _⟩ := fits_in hf
          have a2 := (validA_len (errM_zero he).2.2).2 a (List.mem_of_getElem? f1)
          have g6 := offs_get (expand xs) l 0 p.2.toNat
          rw [f1, Option.map_some, Nat.zero_add] at g6
          have k2 := c40 xs p.1 (p.1 + lenAt l p.2) hx
          rw [q2] at k2
          simp only [encRes] at k2
          rw [f6] at k2
          have hpl : pre.length ≤ 100000 := by omega
          have hroom : roomy (pre.length + 1) 40 = true := by simp [roomy]; omega
          have hbig : pre.length + 1 ≤ 4294967296 := by omega
          have w1 : IntKind.i64.wrap (p.1 + a.len) = p.1 + a.len := wrap_in (by omega)
          have w2 : IntKind.i64.wrap (ph + p.1) = ph + p.1 := wrap_in (by omega)
          have r0 : (rp = 0) = False := eq_false (by omega)
          have sz := sized_recs (expand xs) l ph rp pre
          simp (maxSteps := 1000000) (implicitDefEqProofs := false) only [g1, g2, g3, g4, g5, g6, f2, f3, w1, w2, r0, k2, hroom, hbig, encPc, encOffer, ne_eq, not_false_eq_true, Int.natCast_nonneg, Int.toNat_natCast, List.getElem?_map, List.length_map, regT ho1 hi1, evBT_nil, evBT_cons, effT_true, effT_false, effT2_some, effT2_none, calmT, free, Eff.writes, supp, isBar, Option.toList_some, Option.toList_none, regT ho2 hi2, evBT_nil, evBT_cons, effT_true, effT_false, effT2_some, effT2_none, calmT, free, Eff.writes, supp, isBar, Option.toList_some, Option.toList_none, ss, sd, zH, qG, zF, zG, St.get, qE, qF, qB, zC, norm, look, zE, qA, qI, St.alloc, St.drop, zA, part, zB, depth, qD, ↓reduceIte, Nat.reduceBEq, Nat.reduceAdd, Nat.reduceSub, Nat.reduceMul, Nat.reduceEqDiff, Nat.reduceLeDiff, Nat.reduceLT, qJ, qK, qL, qM, qN, qO, qP, qQ, qR, zI, qS, qC, qT, qU, qV, qW, qX, qY, qZ, zJ, zK, zL, wit, Option.isSome_some, qH, St.with, zD, Array.size, te, einl, inls, efr]
          exact ⟨(), by rw [List.map_append, List.length_append]; rfl⟩
    · rw [if_neg hc]
      have hc' : (checkL (expand xs) l 0 ps != 0) = true := by simpa using hc
      simp (maxSteps := 1000000) (implicitDefEqProofs := false) only [Try.ntmps41, Try.results41, efc41, fc41, k1, hc', List.map_nil, ss, sd, zH, qG, zF, zG, St.get, qE, qF, qB, zC, norm, look, zE, qA, qI, St.alloc, St.drop, zA, part, zB, depth, qD, ↓reduceIte, Nat.reduceBEq, Nat.reduceAdd, Nat.reduceSub, Nat.reduceMul, Nat.reduceEqDiff, Nat.reduceLeDiff, Nat.reduceLT, qJ, qK, qL, qM, qN, qO, qP, qQ, qR, zI, qS, qC, qT, qU, qV, qW, qX, qY, qZ, zJ, zK, zL, wit, Option.isSome_some, qH, St.with, zD, Array.size, te, einl, inls, efr]
  · rw [if_neg he] at k1 ⊢
    rw [if_neg he]
    have he' : (errM xs l != 0) = true := by simpa using he
    simp (maxSteps := 1000000) (implicitDefEqProofs := false) only [Try.ntmps41, Try.results41, efc41, fc41, k1, bench0, he', List.map_nil, ss, sd, zH, qG, zF, zG, St.get, qE, qF, qB, zC, norm, look, zE, qA, qI, St.alloc, St.drop, zA, part, zB, depth, qD, ↓reduceIte, Nat.reduceBEq, Nat.reduceAdd, Nat.reduceSub, Nat.reduceMul, Nat.reduceEqDiff, Nat.reduceLeDiff, Nat.reduceLT, qJ, qK, qL, qM, qN, qO, qP, qQ, qR, zI, qS, qC, qT, qU, qV, qW, qX, qY, qZ, zJ, zK, zL, wit, Option.isSome_some, qH, St.with, zD, Array.size, te, einl, inls, efr]

end Go.AM.C

