import Derived.Test.YtffbfhjcpgcdeaaCRollG
import Derived.Test.YtffbfhjcpgcdeaaCRowT
set_option linter.unusedVariables false
set_option linter.unusedSimpArgs false
set_option maxRecDepth 20000

namespace Go.AM.C
open Go Go.Proofs

def lenAt (l : List Art) (k : Int) : Int := match l[k.toNat]? with | some a => a.len | none => 0
def checkL (ms : List Mk) (l : List Art) : Int → List (Int × Int) → Int
  | _, [] => 0
  | e, p :: ps => if fitsM ms l p.1 p.2 = true then (if p.1 < e then 7 else checkL ms l (p.1 + lenAt l p.2) ps) else 11
def endF (l : List Art) (ps : List (Int × Int)) : Int := ps.foldl (fun _ p => p.1 + lenAt l p.2) 0

theorem endF_snoc (l : List Art) (ps : List (Int × Int)) (p : Int × Int) : endF l (ps ++ [p]) = p.1 + lenAt l p.2 := by simp [endF]

theorem fits_in {ms : List Mk} {l : List Art} {x k : Int} (h : fitsM ms l x k = true) : ∃ a, l[k.toNat]? = some a ∧ 0 ≤ k ∧ k < (l.length : Int) ∧ 0 ≤ x ∧ x ≤ (ms.length : Int) - a.len ∧ lenAt l k = a.len ∧ priceAt l k = a.price ∧ ((ms.drop x.toNat).take a.len.toNat).all (holds a.q) = true := by
  by_cases hk : 0 ≤ k ∧ k < (l.length : Int)
  · have g0 : k.toNat < l.length := by omega
    have g1 : l[k.toNat]? = some l[k.toNat] := List.getElem?_eq_getElem g0
    generalize l[k.toNat] = a at *
    rw [fitsM_some hk.1 g1] at h
    unfold fitA at h
    simp only [Bool.and_eq_true, decide_eq_true_eq] at h
    exact ⟨a, g1, hk.1, hk.2, h.1, h.2.1, by unfold lenAt; rw [g1], by unfold priceAt; rw [g1], h.2.2⟩
  · rw [fitsM_none hk] at h; cases h

theorem okT74 : okCode (Try.f74.body.getD .skip) = true := by decide +kernel

set_option maxHeartbeats 4000000 in
theorem c74 (xs : List Run) (l : List Art) (ps : List (Int × Int)) (hl : validA l = 0) (hx : (expand xs).length ≤ 300) (hn : ps.length ≤ 100000) : (orcω E X0).call 74 [benchA xs l, .sl false (ps.map encPc)] = some (.int .i64 (checkL (expand xs) l 0 ps)) := by
  refine call_of rfl fn74 rfl ?_
  have hok := okT74
  simp only [Try.f74, Option.getD_some, okCode, Bool.and_eq_true, Bool.and_true, Bool.true_and] at hok
  have k2 := fun x k => c51 xs l x k (fun a ha => ((validA_len hl).2 a ha).1.1)
  unfold benchA at k2 ⊢
  have g5 := offs_len (expand xs) l 0
  simp (maxSteps := 1000000) (implicitDefEqProofs := false) only [Try.ntmps74, Try.results74, efc74, fc74, ss, sd, zH, qG, zF, zG, St.get, qE, qF, qB, zC, norm, look, zE, qA, qI, St.alloc, St.drop, zA, part, zB, depth, qD, ↓reduceIte, Nat.reduceBEq, Nat.reduceAdd, Nat.reduceSub, Nat.reduceMul, Nat.reduceEqDiff, Nat.reduceLeDiff, Nat.reduceLT, qJ, qK, qL, qM, qN, qO, qP, qQ, qR, zI, qS, qC, qT, evSlice0, qV, qW, qX, qY, qZ, zJ, zK, zL, wit, Option.isSome_some, qH, xJ, evPre, St.with, zD, Array.size, evLitX, evAppX, evCold, nameT, te, einl, inls, efr]
  generalize hr : loopAt _ _ _ _ _ _ = r; revert r
  refine loop_list ps (fun pre _ => [(5, .int .i64 (endF l pre)), (10, .int .i64 pre.length)]) (fun pre _ => [(2, { es := 3, flat := true, t := false, app := false, elems := [.agg [.sl false (xs.map encRun), .int .i64 ((expand xs).length : Nat), .sl false (offs (expand xs) 0 l)]] })]) (fun pre (_ : Unit) => checkL (expand xs) l 0 ps = checkL (expand xs) l (endF l pre) (ps.drop pre.length)) () (by omega) (by simp (maxSteps := 1000000) (implicitDefEqProofs := false) only [endF, List.foldl_nil, ss, sd, zH, qG, zF, zG, St.get, qE, qF, qB, zC, norm, look, zE, qA, qI, St.alloc, St.drop, zA, part, zB, depth, qD, ↓reduceIte, Nat.reduceBEq, Nat.reduceAdd, Nat.reduceSub, Nat.reduceMul, Nat.reduceEqDiff, Nat.reduceLeDiff, Nat.reduceLT, qJ, qK, qL, qM, qN, qO, qP, qQ, qR, zI, qS, qC, qT, evSlice0, qV, qW, qX, qY, qZ, zJ, zK, zL, wit, Option.isSome_some, qH, xJ, evPre, St.with, zD, Array.size, evLitX, evAppX, evCold, nameT, te, einl, inls, efr]) (by simp [endF]) (fun _ hi => ?_) (fun pre p post _ hp hi g1 g2 g3 g4 => ?_)
  · rw [List.drop_length] at hi
    rw [hi]
    simp (maxSteps := 1000000) (implicitDefEqProofs := false) only [Int.lt_irrefl, Try.ntmps74, Try.results74, efc74, fc74, checkL, ss, sd, zH, qG, zF, zG, St.get, qE, qF, qB, zC, norm, look, zE, qA, qI, St.alloc, St.drop, zA, part, zB, depth, qD, ↓reduceIte, Nat.reduceBEq, Nat.reduceAdd, Nat.reduceSub, Nat.reduceMul, Nat.reduceEqDiff, Nat.reduceLeDiff, Nat.reduceLT, qJ, qK, qL, qM, qN, qO, qP, qQ, qR, zI, qS, qC, qT, evSlice0, qV, qW, qX, qY, qZ, zJ, zK, zL, wit, Option.isSome_some, qH, xJ, evPre, St.with, zD, Array.size, evLitX, evAppX, evCold, nameT, te, einl, inls, efr]
  · rw [show ps.drop pre.length = p :: post by rw [hp]; simp] at hi
    have hd : ps.drop (pre ++ [p]).length = post := by rw [hp]; simp
    rw [checkL] at hi
    have k3 := k2 p.1 p.2
    cases hf : fitsM (expand xs) l p.1 p.2 with
    | false =>
      rw [hf] at k3 hi
      rw [if_neg (by simp)] at hi
      rw [hi]
      simp (maxSteps := 1000000) (implicitDefEqProofs := false) only [g1, g2, g3, g4, k3, encPc, Int.natCast_nonneg, Int.toNat_natCast, List.getElem?_map, evRegion_st hok, Try.ntmps74, Try.results74, efc74, fc74, ss, sd, zH, qG, zF, zG, St.get, qE, qF, qB, zC, norm, look, zE, qA, qI, St.alloc, St.drop, zA, part, zB, depth, qD, ↓reduceIte, Nat.reduceBEq, Nat.reduceAdd, Nat.reduceSub, Nat.reduceMul, Nat.reduceEqDiff, Nat.reduceLeDiff, Nat.reduceLT, qJ, qK, qL, qM, qN, qO, qP, qQ, qR, zI, qS, qC, qT, evSlice0, qV, qW, qX, qY, qZ, zJ, zK, zL, wit, Option.isSome_some, qH, xJ, evPre, St.with, zD, Array.size, evLitX, evAppX, evCold, nameT, te, einl, inls, efr]
    | true =>
      rw [hf] at k3 hi
      rw [if_pos rfl] at hi
      obtain ⟨a, f1, f2, f3, f4, f5, f6, f7, _⟩ := fits_in hf
      have a2 := (validA_len hl).2 a (List.mem_of_getElem? f1)
      by_cases he : p.1 < endF l pre
      · rw [if_pos he] at hi
        rw [hi]
        simp (maxSteps := 1000000) (implicitDefEqProofs := false) only [g1, g2, g3, g4, k3, he, encPc, Int.natCast_nonneg, Int.toNat_natCast, List.getElem?_map, evRegion_st hok, Try.ntmps74, Try.results74, efc74, fc74, ss, sd, zH, qG, zF, zG, St.get, qE, qF, qB, zC, norm, look, zE, qA, qI, St.alloc, St.drop, zA, part, zB, depth, qD, ↓reduceIte, Nat.reduceBEq, Nat.reduceAdd, Nat.reduceSub, Nat.reduceMul, Nat.reduceEqDiff, Nat.reduceLeDiff, Nat.reduceLT, qJ, qK, qL, qM, qN, qO, qP, qQ, qR, zI, qS, qC, qT, evSlice0, qV, qW, qX, qY, qZ, zJ, zK, zL, wit, Option.isSome_some, qH, xJ, evPre, St.with, zD, Array.size, evLitX, evAppX, evCold, nameT, te, einl, inls, efr]
      · rw [if_neg he] at hi
        have g6 := offs_get (expand xs) l 0 p.2.toNat
        rw [f1, Option.map_some, Nat.zero_add] at g6
        have w1 : IntKind.i64.wrap (p.1 + a.len) = p.1 + a.len := wrap_in (by omega)
        simp (maxSteps := 1000000) (implicitDefEqProofs := false) only [g1, g2, g3, g4, k3, he, g5, g6, f2, f3, w1, encPc, encOffer, Int.natCast_nonneg, Int.toNat_natCast, List.getElem?_map, evRegion_st hok, ss, sd, zH, qG, zF, zG, St.get, qE, qF, qB, zC, norm, look, zE, qA, qI, St.alloc, St.drop, zA, part, zB, depth, qD, ↓reduceIte, Nat.reduceBEq, Nat.reduceAdd, Nat.reduceSub, Nat.reduceMul, Nat.reduceEqDiff, Nat.reduceLeDiff, Nat.reduceLT, qJ, qK, qL, qM, qN, qO, qP, qQ, qR, zI, qS, qC, qT, evSlice0, qV, qW, qX, qY, qZ, zJ, zK, zL, wit, Option.isSome_some, qH, xJ, evPre, St.with, zD, Array.size, evLitX, evAppX, evCold, nameT, te, einl, inls, efr]
        refine ⟨(), ?_⟩
        rw [endF_snoc, f6, hd]
        rw [f6] at hi
        exact ⟨rfl, hi⟩

theorem okT59 : okCode (Try.f59.body.getD .skip) = true := by decide +kernel

set_option maxHeartbeats 4000000 in
theorem c59 (ms : List Mk) (l : List Art) (ps : List (Int × Int)) (hl : validA l = 0) (hx : ms.length ≤ 300) (hn : ps.length ≤ 100000) : (orcω E X0).call 59 [.sl false (ms.map encMk), .sl false (l.map encArt), .sl false (ps.map encPc)] = some (.int .i64 (checkL ms l 0 ps)) := by
  refine call_of rfl fn59 rfl ?_
  have hok := okT59
  simp only [Try.f59, Option.getD_some, okCode, Bool.and_eq_true, Bool.and_true, Bool.true_and] at hok
  have k2 := fun x k => c53 ms l x k (by omega) hl
  simp (maxSteps := 1000000) (implicitDefEqProofs := false) only [Try.ntmps59, Try.results59, efc59, fc59, ss, sd, zH, qG, zF, zG, St.get, qE, qF, qB, zC, norm, look, zE, qA, qI, St.alloc, St.drop, zA, part, zB, depth, qD, ↓reduceIte, Nat.reduceBEq, Nat.reduceAdd, Nat.reduceSub, Nat.reduceMul, Nat.reduceEqDiff, Nat.reduceLeDiff, Nat.reduceLT, qJ, qK, qL, qM, qN, qO, qP, qQ, qR, zI, qS, qC, qT, evSlice0, qV, qW, qX, qY, qZ, zJ, zK, zL, wit, Option.isSome_some, qH, xJ, evPre, St.with, zD, Array.size, evLitX, evAppX, evCold, nameT, te, einl, inls, efr]
  generalize hr : loopAt _ _ _ _ _ _ = r; revert r
  refine loop_list ps (fun pre _ => [(7, .int .i64 (endF l pre)), (8, .int .i64 pre.length)]) (fun pre _ => []) (fun pre (_ : Unit) => checkL ms l 0 ps = checkL ms l (endF l pre) (ps.drop pre.length)) () (by omega) (by simp (maxSteps := 1000000) (implicitDefEqProofs := false) only [endF, List.foldl_nil, ss, sd, zH, qG, zF, zG, St.get, qE, qF, qB, zC, norm, look, zE, qA, qI, St.alloc, St.drop, zA, part, zB, depth, qD, ↓reduceIte, Nat.reduceBEq, Nat.reduceAdd, Nat.reduceSub, Nat.reduceMul, Nat.reduceEqDiff, Nat.reduceLeDiff, Nat.reduceLT, qJ, qK, qL, qM, qN, qO, qP, qQ, qR, zI, qS, qC, qT, evSlice0, qV, qW, qX, qY, qZ, zJ, zK, zL, wit, Option.isSome_some, qH, xJ, evPre, St.with, zD, Array.size, evLitX, evAppX, evCold, nameT, te, einl, inls, efr]) (by simp [endF]) (fun _ hi => ?_) (fun pre p post _ hp hi g1 g2 g3 g4 => ?_)
  · rw [List.drop_length] at hi
    rw [hi]
    simp (maxSteps := 1000000) (implicitDefEqProofs := false) only [Int.lt_irrefl, Try.ntmps59, Try.results59, efc59, fc59, checkL, ss, sd, zH, qG, zF, zG, St.get, qE, qF, qB, zC, norm, look, zE, qA, qI, St.alloc, St.drop, zA, part, zB, depth, qD, ↓reduceIte, Nat.reduceBEq, Nat.reduceAdd, Nat.reduceSub, Nat.reduceMul, Nat.reduceEqDiff, Nat.reduceLeDiff, Nat.reduceLT, qJ, qK, qL, qM, qN, qO, qP, qQ, qR, zI, qS, qC, qT, evSlice0, qV, qW, qX, qY, qZ, zJ, zK, zL, wit, Option.isSome_some, qH, xJ, evPre, St.with, zD, Array.size, evLitX, evAppX, evCold, nameT, te, einl, inls, efr]
  · rw [show ps.drop pre.length = p :: post by rw [hp]; simp] at hi
    have hd : ps.drop (pre ++ [p]).length = post := by rw [hp]; simp
    rw [checkL] at hi
    have k3 := k2 p.1 p.2
    cases hf : fitsM ms l p.1 p.2 with
    | false =>
      rw [hf] at k3 hi
      rw [if_neg (by simp)] at hi
      rw [hi]
      simp (maxSteps := 1000000) (implicitDefEqProofs := false) only [g1, g2, g3, g4, k3, encPc, Int.natCast_nonneg, Int.toNat_natCast, List.getElem?_map, evRegion_st hok, Try.ntmps59, Try.results59, efc59, fc59, ss, sd, zH, qG, zF, zG, St.get, qE, qF, qB, zC, norm, look, zE, qA, qI, St.alloc, St.drop, zA, part, zB, depth, qD, ↓reduceIte, Nat.reduceBEq, Nat.reduceAdd, Nat.reduceSub, Nat.reduceMul, Nat.reduceEqDiff, Nat.reduceLeDiff, Nat.reduceLT, qJ, qK, qL, qM, qN, qO, qP, qQ, qR, zI, qS, qC, qT, evSlice0, qV, qW, qX, qY, qZ, zJ, zK, zL, wit, Option.isSome_some, qH, xJ, evPre, St.with, zD, Array.size, evLitX, evAppX, evCold, nameT, te, einl, inls, efr]
    | true =>
      rw [hf] at k3 hi
      rw [if_pos rfl] at hi
      obtain ⟨a, f1, f2, f3, f4, f5, f6, f7, _⟩ := fits_in hf
      have a2 := (validA_len hl).2 a (List.mem_of_getElem? f1)
      by_cases he : p.1 < endF l pre
      · rw [if_pos he] at hi
        rw [hi]
        simp (maxSteps := 1000000) (implicitDefEqProofs := false) only [g1, g2, g3, g4, k3, he, encPc, Int.natCast_nonneg, Int.toNat_natCast, List.getElem?_map, evRegion_st hok, Try.ntmps59, Try.results59, efc59, fc59, ss, sd, zH, qG, zF, zG, St.get, qE, qF, qB, zC, norm, look, zE, qA, qI, St.alloc, St.drop, zA, part, zB, depth, qD, ↓reduceIte, Nat.reduceBEq, Nat.reduceAdd, Nat.reduceSub, Nat.reduceMul, Nat.reduceEqDiff, Nat.reduceLeDiff, Nat.reduceLT, qJ, qK, qL, qM, qN, qO, qP, qQ, qR, zI, qS, qC, qT, evSlice0, qV, qW, qX, qY, qZ, zJ, zK, zL, wit, Option.isSome_some, qH, xJ, evPre, St.with, zD, Array.size, evLitX, evAppX, evCold, nameT, te, einl, inls, efr]
      · rw [if_neg he] at hi
        have w1 : IntKind.i64.wrap (p.1 + a.len) = p.1 + a.len := wrap_in (by omega)
        simp (maxSteps := 1000000) (implicitDefEqProofs := false) only [g1, g2, g3, g4, k3, he, f1, f2, f3, w1, encPc, encArt, Int.natCast_nonneg, Int.toNat_natCast, List.getElem?_map, evRegion_st hok, ss, sd, zH, qG, zF, zG, St.get, qE, qF, qB, zC, norm, look, zE, qA, qI, St.alloc, St.drop, zA, part, zB, depth, qD, ↓reduceIte, Nat.reduceBEq, Nat.reduceAdd, Nat.reduceSub, Nat.reduceMul, Nat.reduceEqDiff, Nat.reduceLeDiff, Nat.reduceLT, qJ, qK, qL, qM, qN, qO, qP, qQ, qR, zI, qS, qC, qT, evSlice0, qV, qW, qX, qY, qZ, zJ, zK, zL, wit, Option.isSome_some, qH, xJ, evPre, St.with, zD, Array.size, evLitX, evAppX, evCold, nameT, te, einl, inls, efr]
        refine ⟨(), ?_⟩
        rw [endF_snoc, f6, hd]
        rw [f6] at hi
        exact ⟨rfl, hi⟩

def accE (xs : List Run) (l : List Art) (ps : List (Int × Int)) : Int := if errM xs l = 0 then checkL (expand xs) l 0 ps else errM xs l
def accV (xs : List Run) (l : List Art) (ps : List (Int × Int)) : V := if errM xs l = 0 then .tup [.agg [.sl false (xs.map encRun), .int .i64 ((expand xs).length : Nat), .sl false (offs (expand xs) 0 l)], .int .i64 (checkL (expand xs) l 0 ps)] else .tup [bench0, .int .i64 (errM xs l)]

theorem err_len {xs : List Run} {l : List Art} (he : errM xs l = 0) : (expand xs).length ≤ 300 := by
  obtain ⟨e1, e2, e3⟩ := errM_zero he
  have e4 := expand_len (valid_okay e1).1
  omega

theorem okT58 : okCode (Try.f58.body.getD .skip) = true := by decide +kernel

set_option maxHeartbeats 4000000 in
theorem c58 (xs : List Run) (l : List Art) (ps : List (Int × Int)) (hx : xs.length ≤ 100000) (hl : l.length ≤ 100000) (hn : ps.length ≤ 100000) :
    (orcω E X0).call 58 [.sl false (xs.map encRun), .sl false (l.map encArt), .sl false (ps.map encPc)] = some (accV xs l ps) := by
  refine call_of rfl fn58 rfl ?_
  have hok := okT58
  simp only [Try.f58, Option.getD_some, okCode, Bool.and_eq_true, Bool.and_true, Bool.true_and] at hok
  have k1 := c50 xs l hx hl
  unfold accV
  by_cases he : errM xs l = 0
  · rw [benchV_eq he] at k1
    rw [if_pos he]
    have k2 := c74 xs l ps (errM_zero he).2.2 (err_len he) hn
    unfold benchA at k2
    simp (maxSteps := 1000000) (implicitDefEqProofs := false) only [Try.ntmps58, Try.results58, efc58, k1, k2, bne_self_eq_false, evRegion_st hok, ss, sd, zH, qG, zF, zG, St.get, qE, qF, qB, zC, norm, look, zE, qA, qI, St.alloc, St.drop, zA, part, zB, depth, qD, ↓reduceIte, Nat.reduceBEq, Nat.reduceAdd, Nat.reduceSub, Nat.reduceMul, Nat.reduceEqDiff, Nat.reduceLeDiff, Nat.reduceLT, qJ, qK, qL, qM, qN, qO, qP, qQ, qR, zI, qS, qC, qT, evSlice0, qV, qW, qX, qY, qZ, zJ, zK, zL, wit, Option.isSome_some, qH, xJ, evPre, St.with, zD, Array.size, evLitX, evAppX, evCold, nameT, te, einl, inls, efr]
  · unfold layV at k1
    rw [if_neg he] at k1 ⊢
    have he' : (errM xs l != 0) = true := by simpa using he
    simp (maxSteps := 1000000) (implicitDefEqProofs := false) only [Try.ntmps58, Try.results58, efc58, k1, bench0, he', List.map_nil, evRegion_st hok, ss, sd, zH, qG, zF, zG, St.get, qE, qF, qB, zC, norm, look, zE, qA, qI, St.alloc, St.drop, zA, part, zB, depth, qD, ↓reduceIte, Nat.reduceBEq, Nat.reduceAdd, Nat.reduceSub, Nat.reduceMul, Nat.reduceEqDiff, Nat.reduceLeDiff, Nat.reduceLT, qJ, qK, qL, qM, qN, qO, qP, qQ, qR, zI, qS, qC, qT, evSlice0, qV, qW, qX, qY, qZ, zJ, zK, zL, wit, Option.isSome_some, qH, xJ, evPre, St.with, zD, Array.size, evLitX, evAppX, evCold, nameT, te, einl, inls, efr]

theorem c35 (xs : List Run) (l : List Art) (ps : List (Int × Int)) (hx : xs.length ≤ 100000) (hl : l.length ≤ 100000) (hn : ps.length ≤ 100000) :
    (orcω E X0).call 35 [.sl false (xs.map encRun), .sl false (l.map encArt), .sl false (ps.map encPc)] = some (.int .i64 (accE xs l ps)) := by
  refine call_of rfl fn35 rfl ?_
  have k1 := c52 xs l hx hl
  unfold marksM at k1
  unfold accE
  by_cases he : errM xs l = 0
  · rw [if_pos he] at k1 ⊢
    simp only [encMks] at k1
    have k2 := c59 (expand xs) l ps (errM_zero he).2.2 (err_len he) hn
    simp (maxSteps := 1000000) (implicitDefEqProofs := false) only [Try.ntmps35, Try.results35, efc35, k1, k2, bne_self_eq_false, ss, sd, zH, qG, zF, zG, St.get, qE, qF, qB, zC, norm, look, zE, qA, qI, St.alloc, St.drop, zA, part, zB, depth, qD, ↓reduceIte, Nat.reduceBEq, Nat.reduceAdd, Nat.reduceSub, Nat.reduceMul, Nat.reduceEqDiff, Nat.reduceLeDiff, Nat.reduceLT, qJ, qK, qL, qM, qN, qO, qP, qQ, qR, zI, qS, qC, qT, evSlice0, qV, qW, qX, qY, qZ, zJ, zK, zL, wit, Option.isSome_some, qH, xJ, evPre, St.with, zD, Array.size, evLitX, evAppX, evCold, nameT, te, einl, inls, efr]
  · rw [if_neg he] at k1 ⊢
    simp only [encMks] at k1
    have he' : (errM xs l != 0) = true := by simpa using he
    simp (maxSteps := 1000000) (implicitDefEqProofs := false) only [Try.ntmps35, Try.results35, efc35, k1, he', ss, sd, zH, qG, zF, zG, St.get, qE, qF, qB, zC, norm, look, zE, qA, qI, St.alloc, St.drop, zA, part, zB, depth, qD, ↓reduceIte, Nat.reduceBEq, Nat.reduceAdd, Nat.reduceSub, Nat.reduceMul, Nat.reduceEqDiff, Nat.reduceLeDiff, Nat.reduceLT, qJ, qK, qL, qM, qN, qO, qP, qQ, qR, zI, qS, qC, qT, evSlice0, qV, qW, qX, qY, qZ, zJ, zK, zL, wit, Option.isSome_some, qH, xJ, evPre, St.with, zD, Array.size, evLitX, evAppX, evCold, nameT, te, einl, inls, efr]

def sumP (l : List Art) (ps : List (Int × Int)) : Int := (ps.map fun p => priceAt l p.2).sum
def valueR (xs : List Run) (l : List Art) (ps : List (Int × Int)) : Int × Int := if accE xs l ps = 0 then (sumP l ps, 0) else (0, accE xs l ps)

theorem check_fits {ms : List Mk} {l : List Art} : ∀ {ps : List (Int × Int)} {e : Int}, checkL ms l e ps = 0 → ∀ p ∈ ps, fitsM ms l p.1 p.2 = true
  | [], _, _, p, hp => by cases hp
  | q :: ps, e, h, p, hp => by
    rw [checkL] at h
    split at h
    · rename_i hf
      split at h
      · cases h
      · rcases List.mem_cons.1 hp with rfl | hp
        · exact hf
        · exact check_fits h p hp
    · cases h

theorem sumP_in {ms : List Mk} {l : List Art} (hl : validA l = 0) : ∀ {ps : List (Int × Int)}, (∀ p ∈ ps, fitsM ms l p.1 p.2 = true) → 0 ≤ sumP l ps ∧ sumP l ps ≤ 10000 * ps.length
  | [], _ => by simp [sumP]
  | q :: ps, h => by
    have ih := sumP_in hl (ps := ps) fun p hp => h p (List.mem_cons_of_mem _ hp)
    obtain ⟨a, f1, f2, f3, f4, f5, f6, f7, _⟩ := fits_in (h q List.mem_cons_self)
    have a2 := (validA_len hl).2 a (List.mem_of_getElem? f1)
    have : sumP l (q :: ps) = priceAt l q.2 + sumP l ps := by simp [sumP]
    rw [this, f7, List.length_cons]
    omega

theorem sumP_snoc (l : List Art) (ps : List (Int × Int)) (p : Int × Int) : sumP l (ps ++ [p]) = sumP l ps + priceAt l p.2 := by simp [sumP]

set_option maxHeartbeats 4000000 in
theorem c30 (xs : List Run) (l : List Art) (ps : List (Int × Int)) (hx : xs.length ≤ 100000) (hl : l.length ≤ 100000) (hn : ps.length ≤ 100000) :
    (orcω E X0).call 30 [.sl false (xs.map encRun), .sl false (l.map encArt), .sl false (ps.map encPc)] = some (encLen (valueR xs l ps)) := by
  refine call_of rfl fn30 rfl ?_
  have k1 := c35 xs l ps hx hl hn
  unfold valueR
  by_cases hc : accE xs l ps = 0
  · rw [if_pos hc]
    rw [hc] at k1
    unfold accE at hc
    by_cases he : errM xs l = 0
    · rw [if_pos he] at hc
      have hfit := check_fits hc
      simp (maxSteps := 1000000) (implicitDefEqProofs := false) only [Try.ntmps30, Try.results30, efc30, fc30, k1, bne_self_eq_false, encLen, ss, sd, zH, qG, zF, zG, St.get, qE, qF, qB, zC, norm, look, zE, qA, qI, St.alloc, St.drop, zA, part, zB, depth, qD, ↓reduceIte, Nat.reduceBEq, Nat.reduceAdd, Nat.reduceSub, Nat.reduceMul, Nat.reduceEqDiff, Nat.reduceLeDiff, Nat.reduceLT, qJ, qK, qL, qM, qN, qO, qP, qQ, qR, zI, qS, qC, qT, evSlice0, qV, qW, qX, qY, qZ, zJ, zK, zL, wit, Option.isSome_some, qH, xJ, evPre, St.with, zD, Array.size, evLitX, evAppX, evCold, nameT, te, einl, inls, efr]
      generalize hr : loopAt _ _ _ _ _ _ = r; revert r
      refine loop_list ps (fun pre _ => [(9, .int .i64 (sumP l pre)), (10, .int .i64 pre.length)]) (fun pre _ => []) (fun pre (_ : Unit) => True) () (by omega) (by simp (maxSteps := 1000000) (implicitDefEqProofs := false) only [sumP, List.map_nil, List.sum_nil, ss, sd, zH, qG, zF, zG, St.get, qE, qF, qB, zC, norm, look, zE, qA, qI, St.alloc, St.drop, zA, part, zB, depth, qD, ↓reduceIte, Nat.reduceBEq, Nat.reduceAdd, Nat.reduceSub, Nat.reduceMul, Nat.reduceEqDiff, Nat.reduceLeDiff, Nat.reduceLT, qJ, qK, qL, qM, qN, qO, qP, qQ, qR, zI, qS, qC, qT, evSlice0, qV, qW, qX, qY, qZ, zJ, zK, zL, wit, Option.isSome_some, qH, xJ, evPre, St.with, zD, Array.size, evLitX, evAppX, evCold, nameT, te, einl, inls, efr]) trivial (fun _ hi => ?_) (fun pre p post _ hp hi g1 g2 g3 g4 => ?_)
      · simp (maxSteps := 1000000) (implicitDefEqProofs := false) only [Int.lt_irrefl, Try.ntmps30, Try.results30, efc30, fc30, ss, sd, zH, qG, zF, zG, St.get, qE, qF, qB, zC, norm, look, zE, qA, qI, St.alloc, St.drop, zA, part, zB, depth, qD, ↓reduceIte, Nat.reduceBEq, Nat.reduceAdd, Nat.reduceSub, Nat.reduceMul, Nat.reduceEqDiff, Nat.reduceLeDiff, Nat.reduceLT, qJ, qK, qL, qM, qN, qO, qP, qQ, qR, zI, qS, qC, qT, evSlice0, qV, qW, qX, qY, qZ, zJ, zK, zL, wit, Option.isSome_some, qH, xJ, evPre, St.with, zD, Array.size, evLitX, evAppX, evCold, nameT, te, einl, inls, efr]
      · obtain ⟨a, f1, f2, f3, f4, f5, f6, f7, _⟩ := fits_in (hfit p (by rw [hp]; simp))
        have a2 := (validA_len (errM_zero he).2.2).2 a (List.mem_of_getElem? f1)
        have s1 := sumP_in (errM_zero he).2.2 (ps := pre) fun q hq => hfit q (by rw [hp]; simp [hq])
        have s2 := sumP_snoc l pre p
        have hpl : pre.length ≤ 100000 := by omega
        have w1 : IntKind.i64.wrap (sumP l pre + a.price) = sumP l (pre ++ [p]) := by rw [s2, f7]; exact wrap_in (by omega)
        simp (maxSteps := 1000000) (implicitDefEqProofs := false) only [g1, g2, g3, g4, f1, f2, f3, w1, encPc, encArt, Int.natCast_nonneg, Int.toNat_natCast, List.getElem?_map, ss, sd, zH, qG, zF, zG, St.get, qE, qF, qB, zC, norm, look, zE, qA, qI, St.alloc, St.drop, zA, part, zB, depth, qD, ↓reduceIte, Nat.reduceBEq, Nat.reduceAdd, Nat.reduceSub, Nat.reduceMul, Nat.reduceEqDiff, Nat.reduceLeDiff, Nat.reduceLT, qJ, qK, qL, qM, qN, qO, qP, qQ, qR, zI, qS, qC, qT, evSlice0, qV, qW, qX, qY, qZ, zJ, zK, zL, wit, Option.isSome_some, qH, xJ, evPre, St.with, zD, Array.size, evLitX, evAppX, evCold, nameT, te, einl, inls, efr]
        (first | exact ⟨(), trivial⟩ | refine ⟨(), ?_, trivial⟩ | skip)
    · rw [if_neg he] at hc; exact absurd hc he
  · rw [if_neg hc]
    have hc' : (accE xs l ps != 0) = true := by simpa using hc
    simp (maxSteps := 1000000) (implicitDefEqProofs := false) only [Try.ntmps30, Try.results30, efc30, fc30, k1, hc', encLen, ss, sd, zH, qG, zF, zG, St.get, qE, qF, qB, zC, norm, look, zE, qA, qI, St.alloc, St.drop, zA, part, zB, depth, qD, ↓reduceIte, Nat.reduceBEq, Nat.reduceAdd, Nat.reduceSub, Nat.reduceMul, Nat.reduceEqDiff, Nat.reduceLeDiff, Nat.reduceLT, qJ, qK, qL, qM, qN, qO, qP, qQ, qR, zI, qS, qC, qT, evSlice0, qV, qW, qX, qY, qZ, zJ, zK, zL, wit, Option.isSome_some, qH, xJ, evPre, St.with, zD, Array.size, evLitX, evAppX, evCold, nameT, te, einl, inls, efr]

end Go.AM.C

