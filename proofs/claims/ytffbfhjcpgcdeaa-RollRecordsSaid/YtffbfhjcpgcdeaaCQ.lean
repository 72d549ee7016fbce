/- A part of the proof: the texts CBandE, CBandF, CBandG, CBandT, CBandI, CBandH, CBandJ, CBandK, CBandL, CBandM, CBandN, one after another. No condition. -/
import Derived.Test.YtffbfhjcpgcdeaaCP
set_option linter.unusedVariables false
set_option linter.unusedSimpArgs false
set_option maxRecDepth 20000

section
namespace Go.AM.C
open Go Go.Proofs

theorem c39 (t : Bool) (rs : List Run) (hn : rs.length ≤ 1000000000) : (orcω E X0).call 39 [.sl t (rs.map encRun)] = some (encLen (lengthM rs)) := by
  refine call_of rfl fn39 rfl ?_
  have hc := c60 false rs hn
  have hf := c61 false rs hn
  by_cases h : validate rs = 0
  · have h' : (validate rs != 0) = false := by simp [h]
    have hr : lengthM rs = (ln rs, 0) := by unfold lengthM; rw [if_pos h]
    rw [hr]
    simp only [Try.ntmps39, Try.results39, efc39, hc, h', hf, encLen, so, sd, den_cond, evOps, zH, qG, zF, zG, wantedV, St.get, qE, qF, qB, onBool_true, onBool_false, zC, norm, look, zE, qA, qI, St.alloc, St.drop, zA, part, zB, depth, qD, ↓reduceIte, Nat.reduceBEq, Nat.reduceAdd, Nat.reduceSub, Nat.reduceMul, Nat.reduceEqDiff, Nat.reduceLeDiff, Nat.reduceLT, evRegion_still, evE, qJ, qK, qL, qM, qN, qO, evCall, qP, evAppend, qQ, qR, zI, qS, qC, qT, evSlice0, qV, qW, qX, qY, qZ, zJ, zK, zL, wit, Option.isSome_some, qH, xJ, evPre, evLitX, evAppX, evCold, nameT, te, einl, inls, efr]
  · have h' : (validate rs != 0) = true := by simp [h]
    have hr : lengthM rs = (0, validate rs) := by unfold lengthM; rw [if_neg h]
    rw [hr]
    simp only [Try.ntmps39, Try.results39, efc39, hc, h', encLen, so, sd, den_cond, evOps, zH, qG, zF, zG, wantedV, St.get, qE, qF, qB, onBool_true, onBool_false, zC, norm, look, zE, qA, qI, St.alloc, St.drop, zA, part, zB, depth, qD, ↓reduceIte, Nat.reduceBEq, Nat.reduceAdd, Nat.reduceSub, Nat.reduceMul, Nat.reduceEqDiff, Nat.reduceLeDiff, Nat.reduceLT, evRegion_still, evE, qJ, qK, qL, qM, qN, qO, evCall, qP, evAppend, qQ, qR, zI, qS, qC, qT, evSlice0, qV, qW, qX, qY, qZ, zJ, zK, zL, wit, Option.isSome_some, qH, xJ, evPre, evLitX, evAppX, evCold, nameT, te, einl, inls, efr]

theorem c71 (t : Bool) (rs : List Run) (hn : rs.length ≤ 1000000000) : (orcω E X0).call 71 [.sl t (rs.map encRun)] = some (encLen (lengthM rs)) := by
  refine call_of rfl fn71 rfl ?_
  have hc := c78 false rs hn
  have hf := c88 false rs hn
  by_cases h : validate rs = 0
  · have h' : (validate rs != 0) = false := by simp [h]
    have hr : lengthM rs = (ln rs, 0) := by unfold lengthM; rw [if_pos h]
    rw [hr]
    simp only [Try.ntmps71, Try.results71, efc71, hc, h', hf, encLen, so, sd, den_cond, evOps, zH, qG, zF, zG, wantedV, St.get, qE, qF, qB, onBool_true, onBool_false, zC, norm, look, zE, qA, qI, St.alloc, St.drop, zA, part, zB, depth, qD, ↓reduceIte, Nat.reduceBEq, Nat.reduceAdd, Nat.reduceSub, Nat.reduceMul, Nat.reduceEqDiff, Nat.reduceLeDiff, Nat.reduceLT, evRegion_still, evE, qJ, qK, qL, qM, qN, qO, evCall, qP, evAppend, qQ, qR, zI, qS, qC, qT, evSlice0, qV, qW, qX, qY, qZ, zJ, zK, zL, wit, Option.isSome_some, qH, xJ, evPre, evLitX, evAppX, evCold, nameT, te, einl, inls, efr]
  · have h' : (validate rs != 0) = true := by simp [h]
    have hr : lengthM rs = (0, validate rs) := by unfold lengthM; rw [if_neg h]
    rw [hr]
    simp only [Try.ntmps71, Try.results71, efc71, hc, h', encLen, so, sd, den_cond, evOps, zH, qG, zF, zG, wantedV, St.get, qE, qF, qB, onBool_true, onBool_false, zC, norm, look, zE, qA, qI, St.alloc, St.drop, zA, part, zB, depth, qD, ↓reduceIte, Nat.reduceBEq, Nat.reduceAdd, Nat.reduceSub, Nat.reduceMul, Nat.reduceEqDiff, Nat.reduceLeDiff, Nat.reduceLT, evRegion_still, evE, qJ, qK, qL, qM, qN, qO, evCall, qP, evAppend, qQ, qR, zI, qS, qC, qT, evSlice0, qV, qW, qX, qY, qZ, zJ, zK, zL, wit, Option.isSome_some, qH, xJ, evPre, evLitX, evAppX, evCold, nameT, te, einl, inls, efr]

theorem c46 (t : Bool) (rs : List Run) : (orcω E X0).call 46 [.sl t (rs.map encRun)] = some (.bool (decide ((100 : Int) < rs.length))) := by
  refine call_of rfl fn46 rfl ?_
  simp only [Try.ntmps46, Try.results46, efc46, so, sd, den_cond, evOps, zH, qG, zF, zG, wantedV, St.get, qE, qF, qB, onBool_true, onBool_false, zC, norm, look, zE, qA, qI, St.alloc, St.drop, zA, part, zB, depth, qD, ↓reduceIte, Nat.reduceBEq, Nat.reduceAdd, Nat.reduceSub, Nat.reduceMul, Nat.reduceEqDiff, Nat.reduceLeDiff, Nat.reduceLT, evRegion_still, evE, qJ, qK, qL, qM, qN, qO, evCall, qP, evAppend, qQ, qR, zI, qS, qC, qT, evSlice0, qV, qW, qX, qY, qZ, zJ, zK, zL, wit, Option.isSome_some, qH, xJ, evPre, evLitX, evAppX, evCold, nameT, te, einl, inls, efr]

theorem c43 (t u : Bool) (rs qs : List Run) (hn : rs.length ≤ 1000000000) : (orcω E X0).call 43 [.sl t (rs.map encRun), .sl u (qs.map encRun)] = some (.bool (decide (rs = qs))) := by
  refine call_of rfl fn43 rfl ?_
  have hok : okCode (Try.f43.body.getD .skip) = true := by decide +kernel
  simp only [Try.f43, Option.getD_some, okCode, Bool.and_eq_true, Bool.and_true, Bool.true_and] at hok
  by_cases hl : rs.length = qs.length
  case neg =>
    have h1 : ((rs.length : Int) != qs.length) = true := by simp; omega
    have h2 : decide (rs = qs) = false := by simp; intro e; exact hl (by rw [e])
    simp only [Try.ntmps43, Try.results43, efc43, fc43, h1, h2, so, sd, den_cond, evOps, zH, qG, zF, zG, wantedV, St.get, qE, qF, qB, onBool_true, onBool_false, zC, norm, look, zE, qA, qI, St.alloc, St.drop, zA, part, zB, depth, qD, ↓reduceIte, Nat.reduceBEq, Nat.reduceAdd, Nat.reduceSub, Nat.reduceMul, Nat.reduceEqDiff, Nat.reduceLeDiff, Nat.reduceLT, evRegion_still, evE, qJ, qK, qL, qM, qN, qO, evCall, qP, evAppend, qQ, qR, zI, qS, qC, qT, evSlice0, qV, qW, qX, qY, qZ, zJ, zK, zL, wit, Option.isSome_some, qH, xJ, evPre, evLitX, evAppX, evCold, nameT, te, einl, inls, efr]
  have h1 : ((rs.length : Int) != qs.length) = false := by simp; omega
  simp only [Try.ntmps43, Try.results43, efc43, fc43, h1, so, sd, den_cond, evOps, zH, qG, zF, zG, wantedV, St.get, qE, qF, qB, onBool_true, onBool_false, zC, norm, look, zE, qA, qI, St.alloc, St.drop, zA, part, zB, depth, qD, ↓reduceIte, Nat.reduceBEq, Nat.reduceAdd, Nat.reduceSub, Nat.reduceMul, Nat.reduceEqDiff, Nat.reduceLeDiff, Nat.reduceLT, evRegion_still, evE, qJ, qK, qL, qM, qN, qO, evCall, qP, evAppend, qQ, qR, zI, qS, qC, qT, evSlice0, qV, qW, qX, qY, qZ, zJ, zK, zL, wit, Option.isSome_some, qH, xJ, evPre, evLitX, evAppX, evCold, nameT, te, einl, inls, efr]
  generalize hr : den E X0 _ 0 (Code.loop _) _ = r
  refine den_loop_post (K := fun x => outOfCall (atEnd E _ (andThen (atBlock 0 x) _)) = some _) hr (α := { p : List Run × List Run × List Run // rs = p.1 ++ p.2.1 ∧ qs = p.1 ++ p.2.2 })
    (fun a => { slots := [.sl t (rs.map encRun), .sl u (qs.map encRun), .junk, .junk, .junk, .int .i64 a.1.1.length] ++ List.replicate 20 .junk, outer := [], objs := [] })
    (fun a => a.1.2.1.length) ⟨([], rs, qs), rfl, rfl⟩ ?_ ?_ <;> clear hr
  · simp only [so, sd, den_cond, evOps, zH, qG, zF, zG, wantedV, St.get, qE, qF, qB, onBool_true, onBool_false, zC, norm, look, zE, qA, qI, St.alloc, St.drop, zA, part, zB, depth, qD, ↓reduceIte, Nat.reduceBEq, Nat.reduceAdd, Nat.reduceSub, Nat.reduceMul, Nat.reduceEqDiff, Nat.reduceLeDiff, Nat.reduceLT, evRegion_still, evE, qJ, qK, qL, qM, qN, qO, evCall, qP, evAppend, qQ, qR, zI, qS, qC, qT, evSlice0, qV, qW, qX, qY, qZ, zJ, zK, zL, wit, Option.isSome_some, qH, xJ, evPre, evLitX, evAppX, evCold, nameT, te, einl, inls, efr, Int.natCast_zero]
  · rintro ⟨⟨pre, post, tail⟩, hp, hq⟩
    dsimp only at hp hq
    cases post with
    | nil =>
      have : tail = [] := by
        have e := congrArg List.length hp
        have e2 := congrArg List.length hq
        simp at e e2
        exact List.eq_nil_of_length_eq_zero (by omega)
      subst this
      simp only [List.append_nil] at hp hq
      subst hp; subst hq
      simp only [Try.results43, Int.lt_irrefl, so, sd, den_cond, evOps, zH, qG, zF, zG, wantedV, St.get, qE, qF, qB, onBool_true, onBool_false, zC, norm, look, zE, qA, qI, St.alloc, St.drop, zA, part, zB, depth, qD, ↓reduceIte, Nat.reduceBEq, Nat.reduceAdd, Nat.reduceSub, Nat.reduceMul, Nat.reduceEqDiff, Nat.reduceLeDiff, Nat.reduceLT, evRegion_still, evE, qJ, qK, qL, qM, qN, qO, evCall, qP, evAppend, qQ, qR, zI, qS, qC, qT, evSlice0, qV, qW, qX, qY, qZ, zJ, zK, zL, wit, Option.isSome_some, qH, xJ, evPre, evLitX, evAppX, evCold, nameT, te, einl, inls, efr]
    | cons r post =>
      cases tail with
      | nil =>
        have e := congrArg List.length hp
        have e2 := congrArg List.length hq
        simp at e e2
        omega
      | cons q tail =>
        have hlt : ((pre.length : Int) < rs.length) := by subst hp; simp; omega
        have hget : rs[pre.length]? = some r := by subst hp; simp
        have hget2 : qs[pre.length]? = some q := by subst hq; simp
        have hlt' : pre.length < rs.length := by omega
        have hw : IntKind.i64.wrap ((pre.length : Int) + 1) = ((pre ++ [r]).length : Int) := by rw [IntWalk.i64_in _ (by omega)]; simp
        by_cases hrq : r = q
        · subst hrq
          simp only [Try.results43, hok, evRegion_static, hlt, Int.natCast_nonneg, Int.toNat_natCast, List.getElem?_map, hget, hget2, encRun, so, sd, den_cond, evOps, zH, qG, zF, zG, wantedV, St.get, qE, qF, qB, onBool_true, onBool_false, zC, norm, look, zE, qA, qI, St.alloc, St.drop, zA, part, zB, depth, qD, ↓reduceIte, Nat.reduceBEq, Nat.reduceAdd, Nat.reduceSub, Nat.reduceMul, Nat.reduceEqDiff, Nat.reduceLeDiff, Nat.reduceLT, evRegion_still, evE, qJ, qK, qL, qM, qN, qO, evCall, qP, evAppend, qQ, qR, zI, qS, qC, qT, evSlice0, qV, qW, qX, qY, qZ, zJ, zK, zL, wit, Option.isSome_some, qH, xJ, evPre, evLitX, evAppX, evCold, nameT, te, einl, inls, efr]
          exact ⟨⟨(pre ++ [r], post, tail), by simpa using hp, by simpa using hq⟩, by simp only [hw, so, sd, den_cond, evOps, zH, qG, zF, zG, wantedV, St.get, qE, qF, qB, onBool_true, onBool_false, zC, norm, look, zE, qA, qI, St.alloc, St.drop, zA, part, zB, depth, qD, ↓reduceIte, Nat.reduceBEq, Nat.reduceAdd, Nat.reduceSub, Nat.reduceMul, Nat.reduceEqDiff, Nat.reduceLeDiff, Nat.reduceLT, evRegion_still, evE, qJ, qK, qL, qM, qN, qO, evCall, qP, evAppend, qQ, qR, zI, qS, qC, qT, evSlice0, qV, qW, qX, qY, qZ, zJ, zK, zL, wit, Option.isSome_some, qH, xJ, evPre, evLitX, evAppX, evCold, nameT, te, einl, inls, efr], Nat.lt_succ_self _⟩
        · have hne : decide (rs = qs) = false := by
            simp; intro e; rw [hp, hq] at e; simp at e; exact hrq e.1
          have hcmp : (r.len == q.len && (r.thick == q.thick && (r.shade == q.shade && r.flaw == q.flaw))) = false := by
            cases hb : (r.len == q.len && (r.thick == q.thick && (r.shade == q.shade && r.flaw == q.flaw))) with
            | false => rfl
            | true =>
              exfalso
              simp at hb
              apply hrq
              cases r; cases q
              simp_all
          simp only [Try.results43, hok, evRegion_static, hlt, Int.natCast_nonneg, Int.toNat_natCast, List.getElem?_map, hget, hget2, encRun, hcmp, hne, so, sd, den_cond, evOps, zH, qG, zF, zG, wantedV, St.get, qE, qF, qB, onBool_true, onBool_false, zC, norm, look, zE, qA, qI, St.alloc, St.drop, zA, part, zB, depth, qD, ↓reduceIte, Nat.reduceBEq, Nat.reduceAdd, Nat.reduceSub, Nat.reduceMul, Nat.reduceEqDiff, Nat.reduceLeDiff, Nat.reduceLT, evRegion_still, evE, qJ, qK, qL, qM, qN, qO, evCall, qP, evAppend, qQ, qR, zI, qS, qC, qT, evSlice0, qV, qW, qX, qY, qZ, zJ, zK, zL, wit, Option.isSome_some, qH, xJ, evPre, evLitX, evAppX, evCold, nameT, te, einl, inls, efr]

def pushR (acc : List Run) (r : Run) : List Run := if r.len = 0 then acc else push acc r
def joinR (rs : List Run) : List Run := rs.foldl pushR []

end Go.AM.C
end

section
namespace Go.AM.C
open Go Go.Proofs

theorem pushR_le (acc : List Run) (r : Run) : (pushR acc r).length ≤ acc.length + 1 := by
  unfold pushR
  split
  · omega
  · exact push_le acc r

theorem c95 (t : Bool) (rs : List Run) (hn : rs.length ≤ 1000000000) : (orcω E X0).call 95 [.sl t (rs.map encRun)] = some (.sl true ((joinR rs).map encRun)) := by
  refine call_of rfl fn95 rfl ?_
  have hok : okCode (Try.f95.body.getD .skip) = true := by decide +kernel
  simp only [Try.f95, Option.getD_some, okCode, Bool.and_eq_true, Bool.and_true, Bool.true_and] at hok
  simp only [Try.ntmps95, Try.results95, efc95, fc95, so, sd, den_cond, evOps, zH, qG, zF, zG, wantedV, St.get, qE, qF, qB, onBool_true, onBool_false, zC, norm, look, zE, qA, qI, St.alloc, St.drop, zA, part, zB, depth, qD, ↓reduceIte, Nat.reduceBEq, Nat.reduceAdd, Nat.reduceSub, Nat.reduceMul, Nat.reduceEqDiff, Nat.reduceLeDiff, Nat.reduceLT, evRegion_still, evE, qJ, qK, qL, qM, qN, qO, evCall, qP, evAppend, qQ, qR, zI, qS, qC, qT, evSlice0, qV, qW, qX, qY, qZ, zJ, zK, zL, wit, Option.isSome_some, qH, xJ, evPre, evLitX, evAppX, evCold, nameT, te, einl, inls, efr]
  generalize hr : den E X0 _ 0 (Code.loop _) _ = r
  refine den_loop_post (K := fun x => outOfCall (atEnd E _ (andThen (atBlock 0 x) _)) = some _) hr (α := { p : (List Run × List Run) × List Run // rs = p.1.1 ++ p.1.2 ∧ p.2 = joinR p.1.1 ∧ p.2.length ≤ p.1.1.length })
    (fun a => { slots := [.sl t (rs.map encRun), .junk, .junk, .own 3 0 a.1.2.length, .int .i64 a.1.1.1.length] ++ List.replicate 53 .junk, outer := [], objs := [(3, { es := 4, flat := true, t := true, app := true, elems := a.1.2.map encRun })] })
    (fun a => a.1.1.2.length) ⟨(([], rs), []), rfl, rfl, Nat.le_refl _⟩ ?_ ?_ <;> clear hr
  · simp only [so, sd, den_cond, evOps, zH, qG, zF, zG, wantedV, St.get, qE, qF, qB, onBool_true, onBool_false, zC, norm, look, zE, qA, qI, St.alloc, St.drop, zA, part, zB, depth, qD, ↓reduceIte, Nat.reduceBEq, Nat.reduceAdd, Nat.reduceSub, Nat.reduceMul, Nat.reduceEqDiff, Nat.reduceLeDiff, Nat.reduceLT, evRegion_still, evE, qJ, qK, qL, qM, qN, qO, evCall, qP, evAppend, qQ, qR, zI, qS, qC, qT, evSlice0, qV, qW, qX, qY, qZ, zJ, zK, zL, wit, Option.isSome_some, qH, xJ, evPre, evLitX, evAppX, evCold, nameT, te, einl, inls, efr, Int.natCast_zero]
  · rintro ⟨⟨⟨pre, post⟩, acc⟩, hp, hacc, hle⟩
    dsimp only at hp hacc hle
    cases post with
    | nil =>
      obtain rfl : rs = pre := by simpa using hp
      subst hacc
      simp only [Try.results95, Int.lt_irrefl, take_map, so, sd, den_cond, evOps, zH, qG, zF, zG, wantedV, St.get, qE, qF, qB, onBool_true, onBool_false, zC, norm, look, zE, qA, qI, St.alloc, St.drop, zA, part, zB, depth, qD, ↓reduceIte, Nat.reduceBEq, Nat.reduceAdd, Nat.reduceSub, Nat.reduceMul, Nat.reduceEqDiff, Nat.reduceLeDiff, Nat.reduceLT, evRegion_still, evE, qJ, qK, qL, qM, qN, qO, evCall, qP, evAppend, qQ, qR, zI, qS, qC, qT, evSlice0, qV, qW, qX, qY, qZ, zJ, zK, zL, wit, Option.isSome_some, qH, xJ, evPre, evLitX, evAppX, evCold, nameT, te, einl, inls, efr]
    | cons r post =>
      have hlt : ((pre.length : Int) < rs.length) := by subst hp; simp; omega
      have hget : rs[pre.length]? = some r := by subst hp; simp
      have hw : IntKind.i64.wrap ((pre.length : Int) + 1) = ((pre ++ [r]).length : Int) := by rw [IntWalk.i64_in _ (by omega)]; simp
      have hlt' : pre.length < rs.length := by omega
      have hroom : roomy (acc.length + 1) 32 = true := by simp [roomy]; omega
      have hbig : acc.length + 1 ≤ 4294967296 := by omega
      have hacc' : pushR acc r = joinR (pre ++ [r]) := by rw [hacc]; simp [joinR]
      have hple := pushR_le acc r
      have fin : ∀ (s : St), s = { slots := [.sl t (rs.map encRun), .junk, .junk, .own 3 0 (pushR acc r).length, .int .i64 ((pre ++ [r]).length : Nat)] ++ List.replicate 53 .junk, outer := [], objs := [(3, { es := 4, flat := true, t := true, app := true, elems := (pushR acc r).map encRun })] } →
          ∃ a' : { p : (List Run × List Run) × List Run // rs = p.1.1 ++ p.1.2 ∧ p.2 = joinR p.1.1 ∧ p.2.length ≤ p.1.1.length }, s = { slots := [.sl t (rs.map encRun), .junk, .junk, .own 3 0 a'.1.2.length, .int .i64 a'.1.1.1.length] ++ List.replicate 53 .junk, outer := [], objs := [(3, { es := 4, flat := true, t := true, app := true, elems := a'.1.2.map encRun })] } ∧ a'.1.1.2.length < (r :: post).length := fun s hs =>
        ⟨⟨((pre ++ [r], post), pushR acc r), by simpa using hp, hacc', by simp; omega⟩, hs, Nat.lt_succ_self _⟩
      by_cases hz : r.len = 0
      · have hz' : (r.len == 0) = true := by simp [hz]
        simp only [hlt, Int.natCast_nonneg, Int.toNat_natCast, List.getElem?_map, hget, encRun, hz', so, sd, den_cond, evOps, zH, qG, zF, zG, wantedV, St.get, qE, qF, qB, onBool_true, onBool_false, zC, norm, look, zE, qA, qI, St.alloc, St.drop, zA, part, zB, depth, qD, ↓reduceIte, Nat.reduceBEq, Nat.reduceAdd, Nat.reduceSub, Nat.reduceMul, Nat.reduceEqDiff, Nat.reduceLeDiff, Nat.reduceLT, evRegion_still, evE, qJ, qK, qL, qM, qN, qO, evCall, qP, evAppend, qQ, qR, zI, qS, qC, qT, evSlice0, qV, qW, qX, qY, qZ, zJ, zK, zL, wit, Option.isSome_some, qH, xJ, evPre, evLitX, evAppX, evCold, nameT, te, einl, inls, efr]
        refine fin _ ?_
        simp [pushR, hz, hw, encRun]
      have hz' : (r.len == 0) = false := by simp [hz]
      rcases push_cases acc with h0 | ⟨n, s, hn1, hn2, hn3⟩
      · subst h0
        have hroom1 : roomy 1 32 = true := by simp [roomy]
        simp only [hroom1, hok, evRegion_static, hlt, Int.natCast_nonneg, Int.toNat_natCast, List.getElem?_map, hget, encRun, hz', Int.natCast_zero, Int.lt_irrefl, hroom, hbig, so, sd, den_cond, evOps, zH, qG, zF, zG, wantedV, St.get, qE, qF, qB, onBool_true, onBool_false, zC, norm, look, zE, qA, qI, St.alloc, St.drop, zA, part, zB, depth, qD, ↓reduceIte, Nat.reduceBEq, Nat.reduceAdd, Nat.reduceSub, Nat.reduceMul, Nat.reduceEqDiff, Nat.reduceLeDiff, Nat.reduceLT, evRegion_still, evE, qJ, qK, qL, qM, qN, qO, evCall, qP, evAppend, qQ, qR, zI, qS, qC, qT, evSlice0, qV, qW, qX, qY, qZ, zJ, zK, zL, wit, Option.isSome_some, qH, xJ, evPre, evLitX, evAppX, evCold, nameT, te, einl, inls, efr]
        refine fin _ ?_
        simp [pushR, hz, push, hw, encRun]
      · have hpos : (0 : Int) < acc.length := by omega
        have hsub : IntKind.i64.wrap ((acc.length : Int) - 1) = (n : Int) := by rw [IntWalk.i64_in _ (by omega)]; omega
        have hlt2 : (n : Int) < acc.length := by omega
        cases hs : same s r with
        | false =>
          have hs' := hs
          unfold same at hs'
          simp only [Bool.and_true] at hs'
          simp only [hok, evRegion_static, hlt, Int.natCast_nonneg, Int.toNat_natCast, List.getElem?_map, hget, encRun, hz', hpos, hsub, hlt2, hn2, hs', hroom, hbig, so, sd, den_cond, evOps, zH, qG, zF, zG, wantedV, St.get, qE, qF, qB, onBool_true, onBool_false, zC, norm, look, zE, qA, qI, St.alloc, St.drop, zA, part, zB, depth, qD, ↓reduceIte, Nat.reduceBEq, Nat.reduceAdd, Nat.reduceSub, Nat.reduceMul, Nat.reduceEqDiff, Nat.reduceLeDiff, Nat.reduceLT, evRegion_still, evE, qJ, qK, qL, qM, qN, qO, evCall, qP, evAppend, qQ, qR, zI, qS, qC, qT, evSlice0, qV, qW, qX, qY, qZ, zJ, zK, zL, wit, Option.isSome_some, qH, xJ, evPre, evLitX, evAppX, evCold, nameT, te, einl, inls, efr]
          refine fin _ ?_
          simp [pushR, hz, push, hn3, hs, hw, encRun]
        | true =>
          have hs' := hs
          unfold same at hs'
          simp only [Bool.and_true] at hs'
          simp only [hok, evRegion_static, hlt, Int.natCast_nonneg, Int.toNat_natCast, List.getElem?_map, hget, encRun, hz', hpos, hsub, hlt2, hn2, hs', hroom, hbig, so, sd, den_cond, evOps, zH, qG, zF, zG, wantedV, St.get, qE, qF, qB, onBool_true, onBool_false, zC, norm, look, zE, qA, qI, St.alloc, St.drop, zA, part, zB, depth, qD, ↓reduceIte, Nat.reduceBEq, Nat.reduceAdd, Nat.reduceSub, Nat.reduceMul, Nat.reduceEqDiff, Nat.reduceLeDiff, Nat.reduceLT, evRegion_still, evE, qJ, qK, qL, qM, qN, qO, evCall, qP, evAppend, qQ, qR, zI, qS, qC, qT, evSlice0, qV, qW, qX, qY, qZ, zJ, zK, zL, wit, Option.isSome_some, qH, xJ, evPre, evLitX, evAppX, evCold, nameT, te, einl, inls, efr]
          refine fin _ ?_
          simp [pushR, hz, push, hn3, hs, hw, hn1, encRun, merge]

end Go.AM.C
end

section
namespace Go.AM.C
open Go Go.Proofs

theorem joinR_le (rs : List Run) : (joinR rs).length ≤ rs.length := by
  have : ∀ (rs acc : List Run), (rs.foldl pushR acc).length ≤ acc.length + rs.length := by
    intro rs
    induction rs with
    | nil => intro acc; simp
    | cons r rs ih =>
      intro acc
      have h1 := ih (pushR acc r)
      have h2 := pushR_le acc r
      simp only [List.foldl_cons, List.length_cons]
      omega
  simpa [joinR] using this rs []

theorem c80 (t : Bool) (rs : List Run) (hn : rs.length ≤ 1000000000) : (orcω E X0).call 80 [.sl t (rs.map encRun)] = some (encRes (finished (joinR rs))) := by
  refine call_of rfl fn80 rfl ?_
  have hc := c95 false rs hn
  have hj := joinR_le rs
  have hl := c88 false (joinR rs) (by omega)
  by_cases h1 : (40 : Int) < (joinR rs).length
  · have hf : finished (joinR rs) = ([], 4) := by unfold finished; rw [if_pos (.inl (by omega))]
    simp only [Try.ntmps80, Try.results80, efc80, hc, h1, hf, encRes, so, sd, den_cond, evOps, zH, qG, zF, zG, wantedV, St.get, qE, qF, qB, onBool_true, onBool_false, zC, norm, look, zE, qA, qI, St.alloc, St.drop, zA, part, zB, depth, qD, ↓reduceIte, Nat.reduceBEq, Nat.reduceAdd, Nat.reduceSub, Nat.reduceMul, Nat.reduceEqDiff, Nat.reduceLeDiff, Nat.reduceLT, evRegion_still, evE, qJ, qK, qL, qM, qN, qO, evCall, qP, evAppend, qQ, qR, zI, qS, qC, qT, evSlice0, qV, qW, qX, qY, qZ, zJ, zK, zL, wit, Option.isSome_some, qH, xJ, evPre, evLitX, evAppX, evCold, nameT, te, einl, inls, efr]
  · by_cases h2 : 1000000 < ln (joinR rs)
    · have hf : finished (joinR rs) = ([], 4) := by unfold finished; rw [if_pos (.inr h2)]
      simp only [Try.ntmps80, Try.results80, efc80, hc, h1, hl, h2, hf, encRes, so, sd, den_cond, evOps, zH, qG, zF, zG, wantedV, St.get, qE, qF, qB, onBool_true, onBool_false, zC, norm, look, zE, qA, qI, St.alloc, St.drop, zA, part, zB, depth, qD, ↓reduceIte, Nat.reduceBEq, Nat.reduceAdd, Nat.reduceSub, Nat.reduceMul, Nat.reduceEqDiff, Nat.reduceLeDiff, Nat.reduceLT, evRegion_still, evE, qJ, qK, qL, qM, qN, qO, evCall, qP, evAppend, qQ, qR, zI, qS, qC, qT, evSlice0, qV, qW, qX, qY, qZ, zJ, zK, zL, wit, Option.isSome_some, qH, xJ, evPre, evLitX, evAppX, evCold, nameT, te, einl, inls, efr]
    · have hf : finished (joinR rs) = (joinR rs, 0) := by unfold finished; rw [if_neg (by omega)]
      simp only [Try.ntmps80, Try.results80, efc80, hc, h1, hl, h2, hf, encRes, so, sd, den_cond, evOps, zH, qG, zF, zG, wantedV, St.get, qE, qF, qB, onBool_true, onBool_false, zC, norm, look, zE, qA, qI, St.alloc, St.drop, zA, part, zB, depth, qD, ↓reduceIte, Nat.reduceBEq, Nat.reduceAdd, Nat.reduceSub, Nat.reduceMul, Nat.reduceEqDiff, Nat.reduceLeDiff, Nat.reduceLT, evRegion_still, evE, qJ, qK, qL, qM, qN, qO, evCall, qP, evAppend, qQ, qR, zI, qS, qC, qT, evSlice0, qV, qW, qX, qY, qZ, zJ, zK, zL, wit, Option.isSome_some, qH, xJ, evPre, evLitX, evAppX, evCold, nameT, te, einl, inls, efr]

theorem valid_all {rs : List Run} (h : validate rs = 0) : rs.all wellB = true := by
  unfold validate at h
  split at h
  · omega
  · split at h
    · assumption
    · omega

end Go.AM.C
end

section
/-
Bands as lists of marks, place by place: what joining, cutting and comparing runs mean.
-/
namespace Go.AM.C
open Go Go.Proofs

structure Mk where
  thick : Int
  shade : Int
  flaw : Int
  deriving DecidableEq

def Run.mk' (r : Run) : Mk := ⟨r.thick, r.shade, r.flaw⟩
def runOf (n : Int) (m : Mk) : Run := ⟨n, m.thick, m.shade, m.flaw⟩
def expand (rs : List Run) : List Mk := rs.flatMap fun r => List.replicate r.len.toNat r.mk'

theorem same_iff (r s : Run) : same r s = decide (r.mk' = s.mk') := by
  cases r; cases s
  rw [Bool.eq_iff_iff]
  simp [same, Run.mk']

theorem expand_nil : expand [] = [] := rfl
theorem expand_cons (r : Run) (rs : List Run) : expand (r :: rs) = List.replicate r.len.toNat r.mk' ++ expand rs := rfl
theorem expand_app (rs qs : List Run) : expand (rs ++ qs) = expand rs ++ expand qs := by simp [expand]

def pushM (acc : List Run) (m : Mk) : List Run := push acc (runOf 1 m)
def rle (ms : List Mk) : List Run := ms.foldl pushM []

theorem mk_runOf (n : Int) (m : Mk) : (runOf n m).mk' = m := rfl
theorem runOf_mk (r : Run) : runOf r.len r.mk' = r := rfl

theorem push_nil (r : Run) : push [] r = [r] := rfl
theorem push_same (l : List Run) (s r : Run) (h : s.mk' = r.mk') : push (l ++ [s]) r = l ++ [merge s r] := by
  unfold push
  simp [same_iff, h, List.set_append]
theorem push_other (l : List Run) (s r : Run) (h : s.mk' ≠ r.mk') : push (l ++ [s]) r = l ++ [s, r] := by
  unfold push
  simp [same_iff, h]

def Lens (B : Int) (rs : List Run) : Prop := ∀ r ∈ rs, 1 ≤ r.len ∧ r.len ≤ B

theorem snoc_cases {α : Type} (l : List α) : l = [] ∨ ∃ i x, l = i ++ [x] := by
  rcases List.eq_nil_or_concat l with rfl | ⟨i, x, rfl⟩
  · exact .inl rfl
  · exact .inr ⟨i, x, by simp⟩

theorem push_lens {B C : Int} {acc : List Run} {r : Run} (h : Lens B acc) (hr : 1 ≤ r.len) (hB : 0 ≤ B) (hC : B + r.len ≤ C) (hm : C ≤ 1000000000000) : Lens C (push acc r) := by
  rcases snoc_cases acc with rfl | ⟨i, s, rfl⟩
  · rw [push_nil]
    intro q hq
    simp only [List.mem_singleton] at hq
    subst hq
    exact ⟨hr, by omega⟩
  · have hs := h s (by simp)
    by_cases e : s.mk' = r.mk'
    · rw [push_same _ _ _ e]
      intro q hq
      rcases List.mem_append.1 hq with hq | hq
      · have := h q (by simp [hq]); omega
      · simp only [List.mem_singleton] at hq
        subst hq
        have : IntKind.i64.wrap (s.len + r.len) = s.len + r.len := wrap_in (by omega)
        simp only [merge, this]
        omega
    · rw [push_other _ _ _ e]
      intro q hq
      simp only [List.mem_append, List.mem_cons, List.not_mem_nil, or_false] at hq
      rcases hq with hq | rfl | rfl
      · have := h q (by simp [hq]); omega
      · omega
      · omega

theorem push_expand {B : Int} {acc : List Run} {r : Run} (h : Lens B acc) (hr : 1 ≤ r.len) (hm : B + r.len ≤ 1000000000000) : expand (push acc r) = expand acc ++ List.replicate r.len.toNat r.mk' := by
  rcases snoc_cases acc with rfl | ⟨i, s, rfl⟩
  · simp [push_nil, expand]
  · have hs := h s (by simp)
    by_cases e : s.mk' = r.mk'
    · rw [push_same _ _ _ e]
      have hw : IntKind.i64.wrap (s.len + r.len) = s.len + r.len := wrap_in (by omega)
      have : (merge s r).mk' = s.mk' := rfl
      simp only [expand_app, expand_cons, expand_nil, List.append_nil, this, List.append_assoc]
      congr 1
      rw [← e, List.replicate_append_replicate]
      congr 1
      simp only [merge, hw]
      omega
    · rw [push_other _ _ _ e]
      simp [expand_app, expand_cons, expand_nil]

def Normal : List Run → Prop
  | [] => True
  | [_] => True
  | r :: s :: l => r.mk' ≠ s.mk' ∧ Normal (s :: l)

theorem normal_snoc : ∀ (l : List Run) (s r : Run), Normal (l ++ [s]) → s.mk' ≠ r.mk' → Normal (l ++ [s, r])
  | [], s, r, _, h => ⟨h, trivial⟩
  | [x], s, r, hn, h => ⟨hn.1, h, trivial⟩
  | x :: y :: l, s, r, hn, h => ⟨hn.1, normal_snoc (y :: l) s r hn.2 h⟩

theorem normal_last : ∀ (l : List Run) (s r : Run), Normal (l ++ [s]) → s.mk' = r.mk' → Normal (l ++ [r])
  | [], _, _, _, _ => trivial
  | [x], s, r, hn, h => ⟨by rw [← h]; exact hn.1, trivial⟩
  | x :: y :: l, s, r, hn, h => ⟨hn.1, normal_last (y :: l) s r hn.2 h⟩

theorem push_normal {acc : List Run} {r : Run} (h : Normal acc) : Normal (push acc r) := by
  rcases snoc_cases acc with rfl | ⟨i, s, rfl⟩
  · exact trivial
  · by_cases e : s.mk' = r.mk'
    · rw [push_same _ _ _ e]
      exact normal_last i s _ h rfl
    · rw [push_other _ _ _ e]
      exact normal_snoc i s r h e

theorem snoc_ind {α : Type} {P : List α → Prop} (h0 : P []) (h1 : ∀ l x, P l → P (l ++ [x])) (l : List α) : P l := by
  have : ∀ (n : Nat) (l : List α), l.length = n → P l := by
    intro n
    induction n with
    | zero => intro l hl; rw [List.eq_nil_of_length_eq_zero hl]; exact h0
    | succ n ih =>
      intro l hl
      rcases snoc_cases l with rfl | ⟨i, x, rfl⟩
      · simp at hl
      · exact h1 i x (ih i (by simpa using hl))
  exact this l.length l rfl

theorem rle_snoc (ms : List Mk) (m : Mk) : rle (ms ++ [m]) = push (rle ms) (runOf 1 m) := by simp [rle, pushM]

theorem rle_ok (ms : List Mk) (h : ms.length ≤ 100000000000) : Lens ms.length (rle ms) ∧ expand (rle ms) = ms ∧ Normal (rle ms) := by
  induction ms using snoc_ind with
  | h0 => exact ⟨fun r hr => by simp [rle] at hr, rfl, trivial⟩
  | h1 ms m ih =>
    simp only [List.length_append, List.length_cons, List.length_nil] at h ⊢
    obtain ⟨h1, h2, h3⟩ := ih (by omega)
    rw [rle_snoc]
    refine ⟨push_lens h1 (by simp [runOf]) (by omega) (by simp [runOf]) (by omega), ?_, push_normal h3⟩
    rw [push_expand h1 (by simp [runOf]) (by simp [runOf]; omega), h2]
    rfl

theorem push_rep (m : Mk) : ∀ (n : Nat) {acc : List Run} {B : Int}, Lens B acc → 0 ≤ B → B + (n + 1 : Nat) ≤ 100000000000 → (List.replicate (n + 1) m).foldl pushM acc = push acc (runOf ((n + 1 : Nat) : Int) m)
  | 0, acc, B, _, _, _ => rfl
  | n + 1, acc, B, h, hB, hn => by
    rw [List.replicate_succ', List.foldl_append, push_rep m n h hB (by omega)]
    simp only [List.foldl_cons, List.foldl_nil, pushM]
    rcases snoc_cases acc with rfl | ⟨i, s, rfl⟩
    · rw [push_nil, push_nil]
      rw [show [runOf ((n + 1 : Nat) : Int) m] = [] ++ [runOf ((n + 1 : Nat) : Int) m] from rfl, push_same _ _ _ (show (runOf ((n + 1 : Nat) : Int) m).mk' = (runOf 1 m).mk' from rfl)]
      have : IntKind.i64.wrap (((n + 1 : Nat) : Int) + 1) = ((n + 1 + 1 : Nat) : Int) := by rw [wrap_in (by omega)]; omega
      simp only [Int.natCast_add, Int.natCast_one] at this
      simp [merge, runOf, this]
    · have hs := h s (by simp)
      by_cases e : s.mk' = m
      · rw [push_same _ _ _ (by simpa [mk_runOf] using e), push_same _ _ _ (show (merge s (runOf ((n + 1 : Nat) : Int) m)).mk' = (runOf 1 m).mk' from e), push_same _ _ _ (by simpa [mk_runOf] using e)]
        have h1 : IntKind.i64.wrap (s.len + ((n + 1 : Nat) : Int)) = s.len + ((n + 1 : Nat) : Int) := wrap_in (by omega)
        have h2 : IntKind.i64.wrap (s.len + ((n + 1 : Nat) : Int) + 1) = s.len + ((n + 1 : Nat) : Int) + 1 := wrap_in (by omega)
        have h3 : IntKind.i64.wrap (s.len + ((n + 1 + 1 : Nat) : Int)) = s.len + ((n + 1 : Nat) : Int) + 1 := by rw [wrap_in (by omega)]; omega
        simp [merge, runOf] at h1 h2 h3 ⊢
        rw [h1, h2, h3]
      · have e1 : s.mk' ≠ (runOf ((n + 1 : Nat) : Int) m).mk' := by simpa [mk_runOf] using e
        have e2 : s.mk' ≠ (runOf ((n + 1 + 1 : Nat) : Int) m).mk' := by simpa [mk_runOf] using e
        rw [push_other _ _ _ e1, push_other _ _ _ e2]
        rw [show i ++ [s, runOf ((n + 1 : Nat) : Int) m] = (i ++ [s]) ++ [runOf ((n + 1 : Nat) : Int) m] by simp, push_same _ _ _ (show (runOf ((n + 1 : Nat) : Int) m).mk' = (runOf 1 m).mk' from rfl)]
        have : IntKind.i64.wrap (((n + 1 : Nat) : Int) + 1) = ((n + 1 + 1 : Nat) : Int) := by rw [wrap_in (by omega)]; omega
        simp only [Int.natCast_add, Int.natCast_one] at this
        simp [merge, runOf, this]

def total (rs : List Run) : Int := (rs.map Run.len).sum

theorem total_cons (r : Run) (rs : List Run) : total (r :: rs) = r.len + total rs := by simp [total]
theorem total_app (rs qs : List Run) : total (rs ++ qs) = total rs + total qs := by simp [total]
theorem total_nil : total [] = 0 := rfl

theorem total_nonneg {B : Int} {rs : List Run} (h : Lens B rs) : 0 ≤ total rs := by
  induction rs with
  | nil => exact Int.le_refl _
  | cons r rs ih =>
    have := ih fun q hq => h q (List.mem_cons_of_mem _ hq)
    have := h r List.mem_cons_self
    rw [total_cons]; omega

theorem expand_length {B : Int} {rs : List Run} (h : Lens B rs) : ((expand rs).length : Int) = total rs := by
  induction rs with
  | nil => rfl
  | cons r rs ih =>
    have h1 := ih fun q hq => h q (List.mem_cons_of_mem _ hq)
    have h2 := h r List.mem_cons_self
    rw [expand_cons, List.length_append, List.length_replicate, total_cons]
    omega

theorem joined_acc {rs : List Run} : ∀ {acc : List Run} {B : Int}, Lens B acc → 0 ≤ B → (∀ r ∈ rs, 1 ≤ r.len) → B + total rs ≤ 10000000000 → rs.foldl push acc = (expand rs).foldl pushM acc := by
  induction rs with
  | nil => intro acc B _ _ _ _; rfl
  | cons r rs ih =>
    intro acc B h hB hr ht
    have h1 := hr r List.mem_cons_self
    rw [total_cons] at ht
    have h0 : 0 ≤ total rs := total_nonneg (B := total rs + 10000000000) (fun q hq => ⟨hr q (List.mem_cons_of_mem _ hq), by
      have : ∀ (l : List Run) (q : Run), (∀ r ∈ l, 1 ≤ r.len) → q ∈ l → q.len ≤ total l := by
        intro l
        induction l with
        | nil => intro q _ hq; cases hq
        | cons x l ih =>
          intro q hl hq
          have hx := hl x List.mem_cons_self
          have hnn : 0 ≤ total l := by
            clear ih hq
            induction l with
            | nil => exact Int.le_refl _
            | cons y l ih2 =>
              have := ih2 fun z hz => hl z (by rcases List.mem_cons.1 hz with rfl | hz; exact List.mem_cons_self; exact List.mem_cons_of_mem _ (List.mem_cons_of_mem _ hz))
              have := hl y (List.mem_cons_of_mem _ List.mem_cons_self)
              rw [total_cons]; omega
          rw [total_cons]
          rcases List.mem_cons.1 hq with rfl | hq
          · omega
          · have := ih q (fun z hz => hl z (List.mem_cons_of_mem _ hz)) hq; omega
      have := this rs q (fun z hz => hr z (List.mem_cons_of_mem _ hz)) hq
      omega⟩)
    rw [List.foldl_cons, expand_cons, List.foldl_append]
    obtain ⟨n, hn⟩ : ∃ n : Nat, r.len = ((n + 1 : Nat) : Int) := ⟨r.len.toNat - 1, by omega⟩
    have hrn : r.len.toNat = n + 1 := by omega
    rw [hrn, push_rep r.mk' n h hB (by omega), ← hn, runOf_mk]
    exact ih (push_lens h h1 hB (Int.le_refl _) (by omega)) (by omega) (fun q hq => hr q (List.mem_cons_of_mem _ hq)) (by omega)

theorem joined_rle {rs : List Run} (hr : ∀ r ∈ rs, 1 ≤ r.len) (ht : total rs ≤ 10000000000) : joinedL rs = rle (expand rs) :=
  joined_acc (B := 0) (fun r h => by cases h) (Int.le_refl _) hr (by omega)

theorem joinR_filter (rs : List Run) : joinR rs = joinedL (rs.filter fun r => r.len ≠ 0) := by
  unfold joinR joinedL
  have : ∀ acc, rs.foldl pushR acc = (rs.filter fun r => r.len ≠ 0).foldl push acc := by
    induction rs with
    | nil => intro acc; rfl
    | cons r rs ih =>
      intro acc
      by_cases h : r.len = 0
      · simp [h, pushR, ih]
      · simp [h, pushR, ih]
  exact this []

def cpl : List Mk → List Mk → Nat
  | a :: x, b :: y => if a = b then cpl x y + 1 else 0
  | _, _ => 0

end Go.AM.C
end

section
namespace Go.AM.C
open Go Go.Proofs

def both (xs ys : List Run) : Int := if validate xs = 0 then validate ys else validate xs

end Go.AM.C
end

section
namespace Go.AM.C
open Go Go.Proofs

def isYes : Option V → Bool
  | some (.bool true) => true
  | _ => false

theorem isYes_eq {r : Option V} (h : isYes r = true) : r = some (.bool true) := by
  unfold isYes at h
  split at h
  · rfl
  · cases h

end Go.AM.C
end

section
namespace Go.AM.C
open Go Go.Proofs

theorem joinR_eq {rs : List Run} (h : ∀ r ∈ rs, r.len ≠ 0) : joinR rs = joinedL rs := by
  rw [joinR_filter]
  congr 1
  rw [List.filter_eq_self]
  intro r hr
  simpa using h r hr

theorem finished_le (js : List Run) : (finished js).1.length ≤ js.length := by
  unfold finished
  split
  · exact Nat.zero_le _
  · exact Nat.le_refl _

end Go.AM.C
end

section
/-
Loops over band.each.
-/
namespace Go.AM.C
open Go Go.Proofs

def spansL : Int → List Run → List (Int × List Int)
  | _, [] => []
  | a, r :: rs => (a, [r.len, r.thick, r.shade, r.flaw]) :: spansL (IntKind.i64.wrap (a + r.len)) rs

theorem spansOf_runs : ∀ (rs : List Run) (a : Int), spansOf a (rs.map encRun) = some (spansL a rs)
  | [], _ => rfl
  | r :: rs, a => by
    rw [List.map_cons, encRun]
    simp only [spansOf, intsOf, spansOf_runs rs, spansL]

theorem eseq_each (t u : Bool) (rs : List Run) (hn : rs.length ≤ 1000000000) : E.seq 93 [.fp t [.sl u (rs.map encRun)] 0] = some (2, (spansL 0 rs).map yieldV) := by
  have h : E.seq 93 [.fp t [.sl u (rs.map encRun)] 0] = eachSeq 93 93 [.fp t [.sl u (rs.map encRun)] 0] := rfl
  rw [h]
  unfold eachSeq
  simp only [if_true, List.length_map, if_pos hn, spansOf_runs]

theorem rounds_runs {σ : Type} {K : Option (Ex × St) → Prop} {run : Code → St → Option (Ex × St)} {ps : List Nat} {assign body : Code} {s0 l0 : List V} {out : List (List V)} {objs : List (Nat × Ob)} (rs : List Run)
    (os : List Run → σ → List (Nat × Ob)) (I : List Run → σ → Prop) (c0 : σ) (h0 : tidy { slots := l0, outer := s0 :: out, objs := objs } = { slots := [], outer := s0 :: out, objs := os [] c0 }) (hI : I [] c0)
    (hend : ∀ c, I rs c → K (some (.normal, { slots := s0, outer := out, objs := os rs c })))
    (hstep : ∀ pre r post c, rs = pre ++ r :: post → I pre c → afterA (run assign { slots := xO s0 ps [.int .i64 (ln pre), encRun r], outer := s0 :: out, objs := os pre c }) (fun s => afterR (run body s)
      (fun s' => ∃ c', tidy s' = { slots := [], outer := s0 :: out, objs := os (pre ++ [r]) c' } ∧ I (pre ++ [r]) c') K)) :
    ∀ x, popped (roundsIn run ps assign body ((spansL 0 rs).map yieldV) { slots := l0, outer := s0 :: out, objs := objs }) = x → K x := by
  rintro x rfl
  have key : ∀ (post pre : List Run) (c : σ) (st : St), rs = pre ++ post → tidy st = { slots := [], outer := s0 :: out, objs := os pre c } → I pre c → K (popped (roundsIn run ps assign body ((spansL (ln pre) post).map yieldV) st)) := by
    intro post
    induction post with
    | nil =>
      intro pre c st hp ht hi
      obtain rfl : rs = pre := by simpa using hp
      simp only [spansL, List.map_nil, roundsIn, ht]
      exact hend c hi
    | cons r post ih =>
      intro pre c st hp ht hi
      have hs := hstep pre r post c hp hi
      simp only [spansL, List.map_cons, roundsIn, ht, List.headD_cons]
      rw [show yieldV (ln pre, [r.len, r.thick, r.shade, r.flaw]) = [.int .i64 (ln pre), encRun r] from rfl]
      cases ha : run assign { slots := xO s0 ps [.int .i64 (ln pre), encRun r], outer := s0 :: out, objs := os pre c } with
      | none => rw [ha] at hs; exact hs.elim
      | some p =>
        obtain ⟨e, s⟩ := p
        rw [ha] at hs
        cases e with
        | normal =>
          dsimp only
          rw [afterA_normal] at hs
          cases hb : run body s with
          | none => rw [hb] at hs; exact hs.elim
          | some p =>
            obtain ⟨e, s'⟩ := p
            rw [hb] at hs
            cases e with
            | normal =>
              obtain ⟨c', h1, h3⟩ := hs
              dsimp only
              have hln : ln (pre ++ [r]) = IntKind.i64.wrap (ln pre + r.len) := by simp [ln]
              rw [← hln]
              exact ih (pre ++ [r]) c' s' (by simpa using hp) h1 h3
            | exit i => exact hs
            | ret => exact hs
        | exit i => exact hs.elim
        | ret => exact hs.elim
  exact key rs [] c0 _ rfl h0 hI

theorem c77 (rs : List Run) : (orcω E X0).call 77 [.sl false (rs.map encRun)] = some (.clo 93 [] [.fp false [.sl false (rs.map encRun)] 0]) := by
  refine call_of rfl fn77 rfl ?_
  simp (maxSteps := 1000000) (implicitDefEqProofs := false) only [Try.ntmps77, Try.results77, efc77, ss, sd, zH, qG, zF, zG, St.get, qE, qF, qB, zC, norm, look, zE, qA, qI, St.alloc, St.drop, zA, part, zB, depth, qD, ↓reduceIte, Nat.reduceBEq, Nat.reduceAdd, Nat.reduceSub, Nat.reduceMul, Nat.reduceEqDiff, Nat.reduceLeDiff, Nat.reduceLT, qJ, qK, qL, qM, qN, qO, qP, qQ, qR, zI, qS, qC, qT, evSlice0, qV, qW, qX, qY, qZ, zJ, zK, zL, wit, Option.isSome_some, qH, xJ, evPre, St.with, zD, Array.size, evLitX, evAppX, evCold, nameT, te, einl, inls, efr]

def Okay (rs : List Run) : Prop := (∀ r ∈ rs, 1 ≤ r.len) ∧ total rs ≤ 40000000

theorem okay_app {pre post : List Run} (h : Okay (pre ++ post)) : Okay pre ∧ Okay post := by
  obtain ⟨h1, h2⟩ := h
  rw [total_app] at h2
  have a1 : ∀ r ∈ pre, 1 ≤ r.len := fun r hr => h1 r (List.mem_append_left _ hr)
  have a2 : ∀ r ∈ post, 1 ≤ r.len := fun r hr => h1 r (List.mem_append_right _ hr)
  have nn : ∀ l : List Run, (∀ r ∈ l, 1 ≤ r.len) → 0 ≤ total l := by
    intro l
    induction l with
    | nil => intro _; exact Int.le_refl _
    | cons x l ih =>
      intro h
      have := ih fun r hr => h r (List.mem_cons_of_mem _ hr)
      have := h x List.mem_cons_self
      rw [total_cons]; omega
  have := nn pre a1
  have := nn post a2
  exact ⟨⟨a1, by omega⟩, ⟨a2, by omega⟩⟩

theorem okay_nonneg {rs : List Run} (h : Okay rs) : 0 ≤ total rs := by
  obtain ⟨h1, _⟩ := h
  induction rs with
  | nil => exact Int.le_refl _
  | cons x l ih =>
    have := ih fun r hr => h1 r (List.mem_cons_of_mem _ hr)
    have := h1 x List.mem_cons_self
    rw [total_cons]; omega

theorem okay_lens {rs : List Run} (h : Okay rs) : Lens 40000000 rs := by
  intro r hr
  obtain ⟨a, b, rfl⟩ := List.append_of_mem hr
  have h1 := (okay_app h).1
  have h2 := (okay_app (pre := [r]) (post := b) (okay_app h).2).2
  have h3 := h.2
  rw [total_app, total_cons] at h3
  have := okay_nonneg h1
  have := okay_nonneg h2
  exact ⟨h.1 r hr, by omega⟩

theorem ln_total : ∀ {rs : List Run}, Okay rs → ln rs = total rs := by
  intro rs
  induction rs using snoc_ind with
  | h0 => intro _; rfl
  | h1 l x ih =>
    intro h
    have h1 := (okay_app h).1
    have := okay_nonneg h1
    have h3 := h.2
    rw [total_app, total_cons, total_nil] at h3
    have h4 := h.1 x (by simp)
    have : ln (l ++ [x]) = IntKind.i64.wrap (ln l + x.len) := by simp [ln]
    rw [this, ih h1, total_app, total_cons, total_nil, wrap_in (by omega)]
    omega

theorem expand_len {rs : List Run} (h : Okay rs) : ((expand rs).length : Int) = total rs := expand_length (okay_lens h)

theorem valid_okay {rs : List Run} (h : validate rs = 0) : Okay rs ∧ rs.length ≤ 40 ∧ total rs ≤ 1000000 := by
  have h2 := valid_all h
  have h3 : rs.length ≤ 40 := by
    unfold validate at h
    split at h
    · omega
    · omega
  have h4 : ∀ r ∈ rs, 1 ≤ r.len ∧ r.len ≤ 1000000 := fun r hr => by
    have := List.all_eq_true.1 h2 r hr
    simp [wellB, inB] at this
    omega
  have h5 : total rs ≤ 1000000 * rs.length := by
    clear h h2 h3
    induction rs with
    | nil => exact Int.le_refl _
    | cons x l ih =>
      have := ih fun r hr => h4 r (List.mem_cons_of_mem _ hr)
      have := h4 x List.mem_cons_self
      rw [total_cons, List.length_cons]; omega
  have ho : Okay rs := ⟨fun r hr => (h4 r hr).1, by omega⟩
  refine ⟨ho, h3, ?_⟩
  unfold validate at h
  rw [if_neg (by omega), if_pos h2] at h
  by_cases h6 : 1000000 < ln rs
  · rw [if_pos h6] at h; cases h
  · rw [ln_total ho] at h6; omega
end Go.AM.C
end

section
namespace Go.AM.C
open Go Go.Proofs

def piece (a lo hi : Int) (r : Run) : List Run := if max lo a < min hi (a + r.len) then [{ r with len := min hi (a + r.len) - max lo a }] else []
def cutL (lo hi : Int) : Int → List Run → List Run
  | _, [] => []
  | a, r :: rs => piece a lo hi r ++ cutL lo hi (a + r.len) rs

theorem cutL_snoc (lo hi : Int) (r : Run) : ∀ (pre : List Run) (a : Int), cutL lo hi a (pre ++ [r]) = cutL lo hi a pre ++ piece (a + total pre) lo hi r
  | [], a => by simp [cutL, total]
  | x :: pre, a => by
    simp only [List.cons_append, cutL, cutL_snoc lo hi r pre, total_cons, List.append_assoc, Int.add_assoc]

theorem cutL_len (lo hi : Int) : ∀ (rs : List Run) (a : Int), (cutL lo hi a rs).length ≤ rs.length
  | [], a => Nat.le_refl _
  | x :: rs, a => by
    have := cutL_len lo hi rs (a + x.len)
    have : (piece a lo hi x).length ≤ 1 := by unfold piece; split <;> simp
    simp only [cutL, List.length_append, List.length_cons]; omega

def Mod (x : Int) : Prop := -1000000000 ≤ x ∧ x ≤ 1000000000

def outOb (a b : Int) (out : List Run) : List (Nat × Ob) := match out with
  | [] => [(4, { es := 1, flat := true, t := true, app := false, elems := [.int .i64 a] }), (5, { es := 1, flat := true, t := true, app := false, elems := [.int .i64 b] }), (7, { es := 1, flat := true, t := true, app := false, elems := [.emp] })]
  | _ => [(4, { es := 1, flat := true, t := true, app := false, elems := [.int .i64 a] }), (5, { es := 1, flat := true, t := true, app := false, elems := [.int .i64 b] }), (7, { es := 1, flat := false, t := true, app := false, elems := [.own 33 0 out.length] }),
      (33, { es := 4, flat := true, t := true, app := true, elems := out.map encRun })]

theorem outOb_ne {a b : Int} {out : List Run} (h : out ≠ []) : outOb a b out = [(4, { es := 1, flat := true, t := true, app := false, elems := [.int .i64 a] }), (5, { es := 1, flat := true, t := true, app := false, elems := [.int .i64 b] }), (7, { es := 1, flat := false, t := true, app := false, elems := [.own 33 0 out.length] }),
      (33, { es := 4, flat := true, t := true, app := true, elems := out.map encRun })] := by
  cases out with
  | nil => exact absurd rfl h
  | cons _ _ => rfl

theorem c64 (rs : List Run) (lo hi : Int) (ho : Okay rs) (hn : rs.length ≤ 1000000) (hl : Mod lo) (hh : Mod hi) :
    (orcω E X0).call 64 [.sl false (rs.map encRun), .int .i64 lo, .int .i64 hi] = some (.sl true ((cutL lo hi 0 rs).map encRun)) := by
  obtain ⟨l1, l2⟩ := hl
  obtain ⟨l3, l4⟩ := hh
  refine call_of rfl fn64 rfl ?_
  have h1 := c77 rs
  have h2 := eseq_each false false rs (by omega)
  simp (maxSteps := 1000000) (implicitDefEqProofs := false) only [Try.ntmps64, Try.results64, efc64, h1, h2, ss, sd, zH, qG, zF, zG, St.get, qE, qF, qB, zC, norm, look, zE, qA, qI, St.alloc, St.drop, zA, part, zB, depth, qD, ↓reduceIte, Nat.reduceBEq, Nat.reduceAdd, Nat.reduceSub, Nat.reduceMul, Nat.reduceEqDiff, Nat.reduceLeDiff, Nat.reduceLT, qJ, qK, qL, qM, qN, qO, qP, qQ, qR, zI, qS, qC, qT, evSlice0, qV, qW, qX, qY, qZ, zJ, zK, zL, wit, Option.isSome_some, qH, xJ, evPre, St.with, zD, Array.size, evLitX, evAppX, evCold, nameT, te, einl, inls, efr]
  generalize hr : popped (roundsIn _ _ _ _ _ _) = r; revert r
  refine rounds_runs rs (fun pre _ => outOb lo hi (cutL lo hi 0 pre)) (fun _ (_ : Unit) => True) () ?_ trivial (fun _ _ => ?_) (fun pre r post _ hp _ => ?_)
  · simp (maxSteps := 1000000) (implicitDefEqProofs := false) only [cutL, outOb, ss, sd, zH, qG, zF, zG, St.get, qE, qF, qB, zC, norm, look, zE, qA, qI, St.alloc, St.drop, zA, part, zB, depth, qD, ↓reduceIte, Nat.reduceBEq, Nat.reduceAdd, Nat.reduceSub, Nat.reduceMul, Nat.reduceEqDiff, Nat.reduceLeDiff, Nat.reduceLT, qJ, qK, qL, qM, qN, qO, qP, qQ, qR, zI, qS, qC, qT, evSlice0, qV, qW, qX, qY, qZ, zJ, zK, zL, wit, Option.isSome_some, qH, xJ, evPre, St.with, zD, Array.size, evLitX, evAppX, evCold, nameT, te, einl, inls, efr]
  · cases hc : cutL lo hi 0 rs with
    | nil => simp (maxSteps := 1000000) (implicitDefEqProofs := false) only [outOb, Try.ntmps64, Try.results64, efc64, ss, sd, zH, qG, zF, zG, St.get, qE, qF, qB, zC, norm, look, zE, qA, qI, St.alloc, St.drop, zA, part, zB, depth, qD, ↓reduceIte, Nat.reduceBEq, Nat.reduceAdd, Nat.reduceSub, Nat.reduceMul, Nat.reduceEqDiff, Nat.reduceLeDiff, Nat.reduceLT, qJ, qK, qL, qM, qN, qO, qP, qQ, qR, zI, qS, qC, qT, evSlice0, qV, qW, qX, qY, qZ, zJ, zK, zL, wit, Option.isSome_some, qH, xJ, evPre, St.with, zD, Array.size, evLitX, evAppX, evCold, nameT, te, einl, inls, efr]
    | cons x l => simp (maxSteps := 1000000) (implicitDefEqProofs := false) only [outOb, Try.ntmps64, Try.results64, efc64, ss, sd, zH, qG, zF, zG, St.get, qE, qF, qB, zC, norm, look, zE, qA, qI, St.alloc, St.drop, zA, part, zB, depth, qD, ↓reduceIte, Nat.reduceBEq, Nat.reduceAdd, Nat.reduceSub, Nat.reduceMul, Nat.reduceEqDiff, Nat.reduceLeDiff, Nat.reduceLT, qJ, qK, qL, qM, qN, qO, qP, qQ, qR, zI, qS, qC, qT, evSlice0, qV, qW, qX, qY, qZ, zJ, zK, zL, wit, Option.isSome_some, qH, xJ, evPre, St.with, zD, Array.size, evLitX, evAppX, evCold, nameT, te, einl, inls, efr]
  · have h3 := okay_app (hp ▸ ho)
    have h4 := ln_total h3.1
    have h5 := okay_nonneg h3.1
    have h6 := okay_nonneg h3.2
    have h7 := okay_lens ho r (by rw [hp]; simp)
    have h8 := ho.2
    rw [hp, total_app] at h8
    have h9 := cutL_len lo hi pre 0
    have h10 : pre.length ≤ 1000000 := by rw [hp] at hn; simp at hn; omega
    have e1 : piece (total pre) lo hi r = if max lo (total pre) < min hi (total pre + r.len) then [{ r with len := min hi (total pre + r.len) - max lo (total pre) }] else [] := rfl
    have e2 := cutL_snoc lo hi r pre 0
    rw [Int.zero_add] at e2
    rcases List.eq_nil_or_concat (cutL lo hi 0 pre) with hc | ⟨l', x', hc⟩
    · rw [hc] at e2 ⊢
      simp only [outOb]
      have hroom : roomy 1 32 = true := by simp [roomy]
      simp (maxSteps := 1000000) (implicitDefEqProofs := false) (disch := omega) only [h4, encRun, wrap_in, ss, List.replicate, zH, qG, zF, zG, St.eval, St.put, St.get, constV, List.set, lenV, qE, qF, qB, zC, norm, xQ, look, xP, xX, zO, zM, zE, zN, qA, qI, St.alloc, St.drop, killL, kill, xU, xV, zA, upd, cells?, part, retag, xT, putIn, refFree, xR, isNew, xS, Ty.isAgg, zB, idsL, ids, idsLL, reach, depth, St.dropL, qD, resultV, ↓reduceIte, Nat.reduceBEq, Nat.reduceAdd, Nat.reduceSub, Nat.reduceMul, Nat.reduceEqDiff, Nat.reduceLeDiff, Nat.reduceLT, qJ, qK, zV, zW, qL, qM, qN, qO, Eff.ap, qP, qQ, xW, qR, zI, onto, dropO, xA, sized, zP, eqT, eqG, minV, evUn, qS, zQ, zR, zS, qC, qT, upO, evSlice0, optInt, xC, qV, xD, del, xB, plain, plainL, zY, zZ, zT, qW, zU, zX, xY, qX, qY, qZ, xE, zJ, zK, zL, xF, xG, wit, xH, Option.isSome_some, xI, qH, xJ, evPre, St.with, xK, xL, zD, xM, xN, xO, Array.size, evLitX, evAppX, evCold, nameT, te, einl, inls, efr]
      (repeat' (rewrite [ask_to]; generalize hb : ask2 _ = w; rcases ask_cases hb with ⟨hc, rfl⟩ | ⟨hc, rfl⟩ <;> clear hb <;> (try simp (maxSteps := 1000000) (implicitDefEqProofs := false) (disch := omega) only [h4, encRun, hroom, wrap_in, ss, List.replicate, zH, qG, zF, zG, St.eval, St.put, St.get, constV, List.set, lenV, qE, qF, qB, zC, norm, xQ, look, xP, xX, zO, zM, zE, zN, qA, qI, St.alloc, St.drop, killL, kill, xU, xV, zA, upd, cells?, part, retag, xT, putIn, refFree, xR, isNew, xS, Ty.isAgg, zB, idsL, ids, idsLL, reach, depth, St.dropL, qD, resultV, ↓reduceIte, Nat.reduceBEq, Nat.reduceAdd, Nat.reduceSub, Nat.reduceMul, Nat.reduceEqDiff, Nat.reduceLeDiff, Nat.reduceLT, qJ, qK, zV, zW, qL, qM, qN, qO, Eff.ap, qP, qQ, xW, qR, zI, onto, dropO, xA, sized, zP, eqT, eqG, minV, evUn, qS, zQ, zR, zS, qC, qT, upO, evSlice0, optInt, xC, qV, xD, del, xB, plain, plainL, zY, zZ, zT, qW, zU, zX, xY, qX, qY, qZ, xE, zJ, zK, zL, xF, xG, wit, xH, Option.isSome_some, xI, qH, xJ, evPre, St.with, xK, xL, zD, xM, xN, xO, Array.size, evLitX, evAppX, evCold, nameT, te, einl, inls, efr])))
      · rw [e2, e1, if_pos (by simp at hc; omega)]
        simp [outOb, encRun]
      · rw [e2, e1, if_neg (by simp at hc; omega)]
        simp [outOb]
    · have hne : cutL lo hi 0 pre ≠ [] := by rw [hc]; simp
      generalize cutL lo hi 0 pre = out at *
      rw [outOb_ne hne]
      have hroom : roomy (out.length + 1) 32 = true := by simp [roomy]; omega
      have hbig : out.length + 1 ≤ 4294967296 := by omega
      simp (maxSteps := 1000000) (implicitDefEqProofs := false) (disch := omega) only [h4, encRun, wrap_in, ss, List.replicate, zH, qG, zF, zG, St.eval, St.put, St.get, constV, List.set, lenV, qE, qF, qB, zC, norm, xQ, look, xP, xX, zO, zM, zE, zN, qA, qI, St.alloc, St.drop, killL, kill, xU, xV, zA, upd, cells?, part, retag, xT, putIn, refFree, xR, isNew, xS, Ty.isAgg, zB, idsL, ids, idsLL, reach, depth, St.dropL, qD, resultV, ↓reduceIte, Nat.reduceBEq, Nat.reduceAdd, Nat.reduceSub, Nat.reduceMul, Nat.reduceEqDiff, Nat.reduceLeDiff, Nat.reduceLT, qJ, qK, zV, zW, qL, qM, qN, qO, Eff.ap, qP, qQ, xW, qR, zI, onto, dropO, xA, sized, zP, eqT, eqG, minV, evUn, qS, zQ, zR, zS, qC, qT, upO, evSlice0, optInt, xC, qV, xD, del, xB, plain, plainL, zY, zZ, zT, qW, zU, zX, xY, qX, qY, qZ, xE, zJ, zK, zL, xF, xG, wit, xH, Option.isSome_some, xI, qH, xJ, evPre, St.with, xK, xL, zD, xM, xN, xO, Array.size, evLitX, evAppX, evCold, nameT, te, einl, inls, efr]
      (repeat' (rewrite [ask_to]; generalize hb : ask2 _ = w; rcases ask_cases hb with ⟨hc, rfl⟩ | ⟨hc, rfl⟩ <;> clear hb <;> (try simp (maxSteps := 1000000) (implicitDefEqProofs := false) (disch := omega) only [h4, encRun, hroom, hbig, wrap_in, ss, List.replicate, zH, qG, zF, zG, St.eval, St.put, St.get, constV, List.set, lenV, qE, qF, qB, zC, norm, xQ, look, xP, xX, zO, zM, zE, zN, qA, qI, St.alloc, St.drop, killL, kill, xU, xV, zA, upd, cells?, part, retag, xT, putIn, refFree, xR, isNew, xS, Ty.isAgg, zB, idsL, ids, idsLL, reach, depth, St.dropL, qD, resultV, ↓reduceIte, Nat.reduceBEq, Nat.reduceAdd, Nat.reduceSub, Nat.reduceMul, Nat.reduceEqDiff, Nat.reduceLeDiff, Nat.reduceLT, qJ, qK, zV, zW, qL, qM, qN, qO, Eff.ap, qP, qQ, xW, qR, zI, onto, dropO, xA, sized, zP, eqT, eqG, minV, evUn, qS, zQ, zR, zS, qC, qT, upO, evSlice0, optInt, xC, qV, xD, del, xB, plain, plainL, zY, zZ, zT, qW, zU, zX, xY, qX, qY, qZ, xE, zJ, zK, zL, xF, xG, wit, xH, Option.isSome_some, xI, qH, xJ, evPre, St.with, xK, xL, zD, xM, xN, xO, Array.size, evLitX, evAppX, evCold, nameT, te, einl, inls, efr])))
      · rw [e2, e1, if_pos (by simp at hc; omega), outOb_ne (by simp)]
        simp [encRun]
      · rw [e2, e1, if_neg (by simp at hc; omega), List.append_nil, outOb_ne hne]
        simp

theorem okT81 : okCode (Try.f81.body.getD .skip) = true := by decide +kernel

theorem c81 (rs : List Run) (lo hi : Int) (ho : Okay rs) (hn : rs.length ≤ 1000000) (hl : Mod lo) (hh : Mod hi) :
    (orcω E X0).call 81 [.sl false (rs.map encRun), .int .i64 lo, .int .i64 hi] = some (.sl true ((cutL lo hi 0 rs).map encRun)) := by
  obtain ⟨l1, l2⟩ := hl
  obtain ⟨l3, l4⟩ := hh
  refine call_of rfl fn81 rfl ?_
  have hok := okT81
  simp only [Try.f81, Option.getD_some, okCode, Bool.and_eq_true, Bool.and_true, Bool.true_and] at hok
  simp (maxSteps := 1000000) (implicitDefEqProofs := false) only [Try.ntmps81, Try.results81, efc81, fc81, ss, sd, zH, qG, zF, zG, St.get, qE, qF, qB, zC, norm, look, zE, qA, qI, St.alloc, St.drop, zA, part, zB, depth, qD, ↓reduceIte, Nat.reduceBEq, Nat.reduceAdd, Nat.reduceSub, Nat.reduceMul, Nat.reduceEqDiff, Nat.reduceLeDiff, Nat.reduceLT, qJ, qK, qL, qM, qN, qO, qP, qQ, qR, zI, qS, qC, qT, evSlice0, qV, qW, qX, qY, qZ, zJ, zK, zL, wit, Option.isSome_some, qH, xJ, evPre, St.with, zD, Array.size, evLitX, evAppX, evCold, nameT, te, einl, inls, efr]
  generalize hr : loopAt _ _ _ _ _ _ = r; revert r
  refine loop_list rs (fun pre _ => [(7, .own 7 0 (cutL lo hi 0 pre).length), (8, .int .i64 (total pre)), (9, .int .i64 pre.length)]) (fun pre _ => [(7, { es := 4, flat := true, t := true, app := true, elems := (cutL lo hi 0 pre).map encRun })])
    (fun _ (_ : Unit) => True) () (by omega) (by simp (maxSteps := 1000000) (implicitDefEqProofs := false) only [cutL, total_nil, ss, sd, zH, qG, zF, zG, St.get, qE, qF, qB, zC, norm, look, zE, qA, qI, St.alloc, St.drop, zA, part, zB, depth, qD, ↓reduceIte, Nat.reduceBEq, Nat.reduceAdd, Nat.reduceSub, Nat.reduceMul, Nat.reduceEqDiff, Nat.reduceLeDiff, Nat.reduceLT, qJ, qK, qL, qM, qN, qO, qP, qQ, qR, zI, qS, qC, qT, evSlice0, qV, qW, qX, qY, qZ, zJ, zK, zL, wit, Option.isSome_some, qH, xJ, evPre, St.with, zD, Array.size, evLitX, evAppX, evCold, nameT, te, einl, inls, efr]) trivial (fun _ _ => ?_) (fun pre r post _ hp _ g1 g2 g3 g4 => ?_)
  · simp (maxSteps := 1000000) (implicitDefEqProofs := false) only [Int.lt_irrefl, Try.ntmps81, Try.results81, efc81, fc81, ss, sd, zH, qG, zF, zG, St.get, qE, qF, qB, zC, norm, look, zE, qA, qI, St.alloc, St.drop, zA, part, zB, depth, qD, ↓reduceIte, Nat.reduceBEq, Nat.reduceAdd, Nat.reduceSub, Nat.reduceMul, Nat.reduceEqDiff, Nat.reduceLeDiff, Nat.reduceLT, qJ, qK, qL, qM, qN, qO, qP, qQ, qR, zI, qS, qC, qT, evSlice0, qV, qW, qX, qY, qZ, zJ, zK, zL, wit, Option.isSome_some, qH, xJ, evPre, St.with, zD, Array.size, evLitX, evAppX, evCold, nameT, te, einl, inls, efr]
  · have h3 := okay_app (hp ▸ ho)
    have h5 := okay_nonneg h3.1
    have h6 := okay_nonneg h3.2
    have h7 := okay_lens ho r (by rw [hp]; simp)
    have h8 := ho.2
    rw [hp, total_app] at h8
    have h9 := cutL_len lo hi pre 0
    have e2 := cutL_snoc lo hi r pre 0
    rw [Int.zero_add] at e2
    have f1 : max lo (total pre) < min hi (total pre + r.len) → piece (total pre) lo hi r = [{ r with len := min hi (total pre + r.len) - max lo (total pre) }] := fun h => if_pos h
    have f2 : ¬ max lo (total pre) < min hi (total pre + r.len) → piece (total pre) lo hi r = [] := fun h => if_neg h
    have e3 : total (pre ++ [r]) = total pre + r.len := by rw [total_app, total_cons, total_nil]; omega
    generalize cutL lo hi 0 pre = out at *
    have hroom : roomy (out.length + 1) 32 = true := by simp [roomy]; omega
    have hbig : out.length + 1 ≤ 4294967296 := by omega
    simp (maxSteps := 1000000) (implicitDefEqProofs := false) (disch := omega) only [g1, g2, g3, Int.natCast_nonneg, Int.toNat_natCast, List.getElem?_map, encRun, hok, evRegion_st, hroom, hbig, wrap_in, ss, List.replicate, zH, qG, zF, zG, St.eval, St.put, St.get, constV, List.set, lenV, qE, qF, qB, zC, norm, xQ, look, xP, xX, zO, zM, zE, zN, qA, qI, St.alloc, St.drop, killL, kill, xU, xV, zA, upd, cells?, part, retag, xT, putIn, refFree, xR, isNew, xS, Ty.isAgg, zB, idsL, ids, idsLL, reach, depth, St.dropL, qD, resultV, ↓reduceIte, Nat.reduceBEq, Nat.reduceAdd, Nat.reduceSub, Nat.reduceMul, Nat.reduceEqDiff, Nat.reduceLeDiff, Nat.reduceLT, qJ, qK, zV, zW, qL, qM, qN, qO, Eff.ap, qP, qQ, xW, qR, zI, onto, dropO, xA, sized, zP, eqT, eqG, minV, evUn, qS, zQ, zR, zS, qC, qT, upO, evSlice0, optInt, xC, qV, xD, del, xB, plain, plainL, zY, zZ, zT, qW, zU, zX, xY, qX, qY, qZ, xE, zJ, zK, zL, xF, xG, wit, xH, Option.isSome_some, xI, qH, xJ, evPre, St.with, xK, xL, zD, xM, xN, xO, Array.size, evLitX, evAppX, evCold, nameT, te, einl, inls, efr]
    (repeat' (rewrite [ask_to]; generalize hb : ask2 _ = w; rcases ask_cases hb with ⟨hc, rfl⟩ | ⟨hc, rfl⟩ <;> clear hb <;> (try simp (maxSteps := 1000000) (implicitDefEqProofs := false) (disch := omega) only [g1, g2, g3, Int.natCast_nonneg, Int.toNat_natCast, List.getElem?_map, encRun, hok, evRegion_st, hroom, hbig, wrap_in, ss, List.replicate, zH, qG, zF, zG, St.eval, St.put, St.get, constV, List.set, lenV, qE, qF, qB, zC, norm, xQ, look, xP, xX, zO, zM, zE, zN, qA, qI, St.alloc, St.drop, killL, kill, xU, xV, zA, upd, cells?, part, retag, xT, putIn, refFree, xR, isNew, xS, Ty.isAgg, zB, idsL, ids, idsLL, reach, depth, St.dropL, qD, resultV, ↓reduceIte, Nat.reduceBEq, Nat.reduceAdd, Nat.reduceSub, Nat.reduceMul, Nat.reduceEqDiff, Nat.reduceLeDiff, Nat.reduceLT, qJ, qK, zV, zW, qL, qM, qN, qO, Eff.ap, qP, qQ, xW, qR, zI, onto, dropO, xA, sized, zP, eqT, eqG, minV, evUn, qS, zQ, zR, zS, qC, qT, upO, evSlice0, optInt, xC, qV, xD, del, xB, plain, plainL, zY, zZ, zT, qW, zU, zX, xY, qX, qY, qZ, xE, zJ, zK, zL, xF, xG, wit, xH, Option.isSome_some, xI, qH, xJ, evPre, St.with, xK, xL, zD, xM, xN, xO, Array.size, evLitX, evAppX, evCold, nameT, te, einl, inls, efr])))
    all_goals simp only [decide_eq_true_eq, decide_eq_false_iff_not] at *
    all_goals first
      | (rw [e2, f1 (by omega), e3]; simp [encRun]; try omega)
      | (rw [e2, f2 (by omega), e3]; simp [encRun])

def spanM (rs : List Run) (lo hi : Int) : Bool := decide (0 ≤ lo) && decide (lo ≤ hi) && decide (hi ≤ ln rs)

theorem c62 (rs : List Run) (lo hi : Int) (hn : rs.length ≤ 1000000) : (orcω E X0).call 62 [.sl false (rs.map encRun), .int .i64 lo, .int .i64 hi] = some (.bool (spanM rs lo hi)) := by
  refine call_of rfl fn62 rfl ?_
  have h1 := c61 false rs (by omega)
  simp (maxSteps := 1000000) (implicitDefEqProofs := false) only [Try.ntmps62, Try.results62, efc62, h1, ss, sd, zH, qG, zF, zG, St.get, qE, qF, qB, zC, norm, look, zE, qA, qI, St.alloc, St.drop, zA, part, zB, depth, qD, ↓reduceIte, Nat.reduceBEq, Nat.reduceAdd, Nat.reduceSub, Nat.reduceMul, Nat.reduceEqDiff, Nat.reduceLeDiff, Nat.reduceLT, qJ, qK, qL, qM, qN, qO, qP, qQ, qR, zI, qS, qC, qT, evSlice0, qV, qW, qX, qY, qZ, zJ, zK, zL, wit, Option.isSome_some, qH, xJ, evPre, St.with, zD, Array.size, evLitX, evAppX, evCold, nameT, te, einl, inls, efr]
  (repeat' (rewrite [ask_to]; generalize hb : ask2 _ = w; rcases ask_cases hb with ⟨hc, rfl⟩ | ⟨hc, rfl⟩ <;> clear hb <;> (try simp (maxSteps := 1000000) (implicitDefEqProofs := false) only [Try.ntmps62, Try.results62, efc62, h1, ss, sd, zH, qG, zF, zG, St.get, qE, qF, qB, zC, norm, look, zE, qA, qI, St.alloc, St.drop, zA, part, zB, depth, qD, ↓reduceIte, Nat.reduceBEq, Nat.reduceAdd, Nat.reduceSub, Nat.reduceMul, Nat.reduceEqDiff, Nat.reduceLeDiff, Nat.reduceLT, qJ, qK, qL, qM, qN, qO, qP, qQ, qR, zI, qS, qC, qT, evSlice0, qV, qW, qX, qY, qZ, zJ, zK, zL, wit, Option.isSome_some, qH, xJ, evPre, St.with, zD, Array.size, evLitX, evAppX, evCold, nameT, te, einl, inls, efr])))
  all_goals (simp_all [spanM] <;> omega)

theorem c79 (rs : List Run) (lo hi : Int) (hn : rs.length ≤ 1000000) : (orcω E X0).call 79 [.sl false (rs.map encRun), .int .i64 lo, .int .i64 hi] = some (.bool (spanM rs lo hi)) := by
  refine call_of rfl fn79 rfl ?_
  have h1 := c88 false rs (by omega)
  simp (maxSteps := 1000000) (implicitDefEqProofs := false) only [Try.ntmps79, Try.results79, efc79, h1, ss, sd, zH, qG, zF, zG, St.get, qE, qF, qB, zC, norm, look, zE, qA, qI, St.alloc, St.drop, zA, part, zB, depth, qD, ↓reduceIte, Nat.reduceBEq, Nat.reduceAdd, Nat.reduceSub, Nat.reduceMul, Nat.reduceEqDiff, Nat.reduceLeDiff, Nat.reduceLT, qJ, qK, qL, qM, qN, qO, qP, qQ, qR, zI, qS, qC, qT, evSlice0, qV, qW, qX, qY, qZ, zJ, zK, zL, wit, Option.isSome_some, qH, xJ, evPre, St.with, zD, Array.size, evLitX, evAppX, evCold, nameT, te, einl, inls, efr]
  (repeat' (rewrite [ask_to]; generalize hb : ask2 _ = w; rcases ask_cases hb with ⟨hc, rfl⟩ | ⟨hc, rfl⟩ <;> clear hb <;> (try simp (maxSteps := 1000000) (implicitDefEqProofs := false) only [Try.ntmps79, Try.results79, efc79, h1, ss, sd, zH, qG, zF, zG, St.get, qE, qF, qB, zC, norm, look, zE, qA, qI, St.alloc, St.drop, zA, part, zB, depth, qD, ↓reduceIte, Nat.reduceBEq, Nat.reduceAdd, Nat.reduceSub, Nat.reduceMul, Nat.reduceEqDiff, Nat.reduceLeDiff, Nat.reduceLT, qJ, qK, qL, qM, qN, qO, qP, qQ, qR, zI, qS, qC, qT, evSlice0, qV, qW, qX, qY, qZ, zJ, zK, zL, wit, Option.isSome_some, qH, xJ, evPre, St.with, zD, Array.size, evLitX, evAppX, evCold, nameT, te, einl, inls, efr])))
  all_goals (simp_all [spanM] <;> omega)

def sliceM (rs : List Run) (lo hi : Int) : List Run × Int := if validate rs = 0 then (if spanM rs lo hi = true then finished (joinedL (cutL lo hi 0 rs)) else ([], 1)) else ([], validate rs)

theorem span_mod {rs : List Run} {lo hi : Int} (h : validate rs = 0) (hs : spanM rs lo hi = true) : (0 ≤ lo ∧ lo ≤ hi ∧ hi ≤ total rs) ∧ Mod lo ∧ Mod hi := by
  obtain ⟨h1, h2, h3⟩ := valid_okay h
  simp only [spanM, Bool.and_eq_true, decide_eq_true_eq, ln_total h1] at hs
  unfold Mod
  omega

theorem c40 (rs : List Run) (lo hi : Int) (hn : rs.length ≤ 100000) : (orcω E X0).call 40 [.sl false (rs.map encRun), .int .i64 lo, .int .i64 hi] = some (encRes (sliceM rs lo hi)) := by
  refine call_of rfl fn40 rfl ?_
  have h1 := c60 false rs (by omega)
  have h2 := c62 rs lo hi (by omega)
  simp (maxSteps := 1000000) (implicitDefEqProofs := false) only [Try.ntmps40, Try.results40, efc40, h1, ss, sd, zH, qG, zF, zG, St.get, qE, qF, qB, zC, norm, look, zE, qA, qI, St.alloc, St.drop, zA, part, zB, depth, qD, ↓reduceIte, Nat.reduceBEq, Nat.reduceAdd, Nat.reduceSub, Nat.reduceMul, Nat.reduceEqDiff, Nat.reduceLeDiff, Nat.reduceLT, qJ, qK, qL, qM, qN, qO, qP, qQ, qR, zI, qS, qC, qT, evSlice0, qV, qW, qX, qY, qZ, zJ, zK, zL, wit, Option.isSome_some, qH, xJ, evPre, St.with, zD, Array.size, evLitX, evAppX, evCold, nameT, te, einl, inls, efr]
  (repeat' (rewrite [ask_to]; generalize hb : ask2 _ = w; rcases ask_cases hb with ⟨hc, rfl⟩ | ⟨hc, rfl⟩ <;> clear hb <;> (try simp (maxSteps := 1000000) (implicitDefEqProofs := false) only [Try.ntmps40, Try.results40, efc40, h1, h2, ss, sd, zH, qG, zF, zG, St.get, qE, qF, qB, zC, norm, look, zE, qA, qI, St.alloc, St.drop, zA, part, zB, depth, qD, ↓reduceIte, Nat.reduceBEq, Nat.reduceAdd, Nat.reduceSub, Nat.reduceMul, Nat.reduceEqDiff, Nat.reduceLeDiff, Nat.reduceLT, qJ, qK, qL, qM, qN, qO, qP, qQ, qR, zI, qS, qC, qT, evSlice0, qV, qW, qX, qY, qZ, zJ, zK, zL, wit, Option.isSome_some, qH, xJ, evPre, St.with, zD, Array.size, evLitX, evAppX, evCold, nameT, te, einl, inls, efr])))
  · simp_all [encRes, sliceM]
  · simp_all [encRes, sliceM]
  · have hv : validate rs = 0 := by simp_all
    have hs : spanM rs lo hi = true := by simp_all
    obtain ⟨h5, h6, h7⟩ := span_mod hv hs
    have h3 := c64 rs lo hi (valid_okay hv).1 (by omega) h6 h7
    have h8 := cutL_len lo hi rs 0
    have h4 := c63 false (cutL lo hi 0 rs) (by omega)
    simp only [encRes] at h4
    simp (maxSteps := 1000000) (implicitDefEqProofs := false) only [Try.ntmps40, Try.results40, efc40, h1, h2, h3, h4, ss, sd, zH, qG, zF, zG, St.get, qE, qF, qB, zC, norm, look, zE, qA, qI, St.alloc, St.drop, zA, part, zB, depth, qD, ↓reduceIte, Nat.reduceBEq, Nat.reduceAdd, Nat.reduceSub, Nat.reduceMul, Nat.reduceEqDiff, Nat.reduceLeDiff, Nat.reduceLT, qJ, qK, qL, qM, qN, qO, qP, qQ, qR, zI, qS, qC, qT, evSlice0, qV, qW, qX, qY, qZ, zJ, zK, zL, wit, Option.isSome_some, qH, xJ, evPre, St.with, zD, Array.size, evLitX, evAppX, evCold, nameT, te, einl, inls, efr]
    simp [encRes, sliceM, hv, hs]

theorem lens_cut {lo hi : Int} : ∀ (rs : List Run) (a : Int), ∀ r ∈ cutL lo hi a rs, 1 ≤ r.len
  | [], a, r, h => by cases h
  | x :: rs, a, r, h => by
    simp only [cutL, List.mem_append] at h
    rcases h with h | h
    · unfold piece at h
      split at h
      · simp only [List.mem_singleton] at h
        subst h
        dsimp only
        omega
      · cases h
    · exact lens_cut rs _ r h

theorem c65 (rs : List Run) (lo hi : Int) (hn : rs.length ≤ 100000) : (orcω E X0).call 65 [.sl false (rs.map encRun), .int .i64 lo, .int .i64 hi] = some (encRes (sliceM rs lo hi)) := by
  refine call_of rfl fn65 rfl ?_
  have h1 := c78 false rs (by omega)
  have h2 := c79 rs lo hi (by omega)
  simp (maxSteps := 1000000) (implicitDefEqProofs := false) only [Try.ntmps65, Try.results65, efc65, h1, ss, sd, zH, qG, zF, zG, St.get, qE, qF, qB, zC, norm, look, zE, qA, qI, St.alloc, St.drop, zA, part, zB, depth, qD, ↓reduceIte, Nat.reduceBEq, Nat.reduceAdd, Nat.reduceSub, Nat.reduceMul, Nat.reduceEqDiff, Nat.reduceLeDiff, Nat.reduceLT, qJ, qK, qL, qM, qN, qO, qP, qQ, qR, zI, qS, qC, qT, evSlice0, qV, qW, qX, qY, qZ, zJ, zK, zL, wit, Option.isSome_some, qH, xJ, evPre, St.with, zD, Array.size, evLitX, evAppX, evCold, nameT, te, einl, inls, efr]
  (repeat' (rewrite [ask_to]; generalize hb : ask2 _ = w; rcases ask_cases hb with ⟨hc, rfl⟩ | ⟨hc, rfl⟩ <;> clear hb <;> (try simp (maxSteps := 1000000) (implicitDefEqProofs := false) only [Try.ntmps65, Try.results65, efc65, h1, h2, ss, sd, zH, qG, zF, zG, St.get, qE, qF, qB, zC, norm, look, zE, qA, qI, St.alloc, St.drop, zA, part, zB, depth, qD, ↓reduceIte, Nat.reduceBEq, Nat.reduceAdd, Nat.reduceSub, Nat.reduceMul, Nat.reduceEqDiff, Nat.reduceLeDiff, Nat.reduceLT, qJ, qK, qL, qM, qN, qO, qP, qQ, qR, zI, qS, qC, qT, evSlice0, qV, qW, qX, qY, qZ, zJ, zK, zL, wit, Option.isSome_some, qH, xJ, evPre, St.with, zD, Array.size, evLitX, evAppX, evCold, nameT, te, einl, inls, efr])))
  · simp_all [encRes, sliceM]
  · simp_all [encRes, sliceM]
  · have hv : validate rs = 0 := by simp_all
    have hs : spanM rs lo hi = true := by simp_all
    obtain ⟨h5, h6, h7⟩ := span_mod hv hs
    have h3 := c81 rs lo hi (valid_okay hv).1 (by omega) h6 h7
    have h8 := cutL_len lo hi rs 0
    have h4 := c80 false (cutL lo hi 0 rs) (by omega)
    rw [joinR_eq (fun r hr => by have := lens_cut rs 0 r hr; omega)] at h4
    simp only [encRes] at h4
    simp (maxSteps := 1000000) (implicitDefEqProofs := false) only [Try.ntmps65, Try.results65, efc65, h1, h2, h3, h4, ss, sd, zH, qG, zF, zG, St.get, qE, qF, qB, zC, norm, look, zE, qA, qI, St.alloc, St.drop, zA, part, zB, depth, qD, ↓reduceIte, Nat.reduceBEq, Nat.reduceAdd, Nat.reduceSub, Nat.reduceMul, Nat.reduceEqDiff, Nat.reduceLeDiff, Nat.reduceLT, qJ, qK, qL, qM, qN, qO, qP, qQ, qR, zI, qS, qC, qT, evSlice0, qV, qW, qX, qY, qZ, zJ, zK, zL, wit, Option.isSome_some, qH, xJ, evPre, St.with, zD, Array.size, evLitX, evAppX, evCold, nameT, te, einl, inls, efr]
    simp [encRes, sliceM, hv, hs]

theorem sliceM_le (rs : List Run) (lo hi : Int) : (sliceM rs lo hi).1.length ≤ rs.length := by
  unfold sliceM
  split
  · split
    · refine Nat.le_trans (finished_le _) (Nat.le_trans (joined_le _) (cutL_len lo hi rs 0))
    · exact Nat.zero_le _
  · exact Nat.zero_le _

end Go.AM.C
end

section
namespace Go.AM.C
open Go Go.Proofs

def encMk (m : Mk) : V := .agg [.int .i64 m.thick, .int .i64 m.shade, .int .i64 m.flaw]
end Go.AM.C
end

section
namespace Go.AM.C
open Go Go.Proofs

theorem push_okay {B : Int} {acc : List Run} {r : Run} (h : ∀ q ∈ acc, 1 ≤ q.len) (hr : 1 ≤ r.len) (ht : total acc + r.len ≤ B) (hB : B ≤ 40000000) : (∀ q ∈ push acc r, 1 ≤ q.len) ∧ total (push acc r) = total acc + r.len := by
  rcases snoc_cases acc with rfl | ⟨i, s, rfl⟩
  · rw [push_nil]
    refine ⟨fun q hq => ?_, by rw [total_cons, total_nil]; omega⟩
    simp only [List.mem_singleton] at hq
    subst hq; exact hr
  · have hs := h s (by simp)
    have ho : Okay (i ++ [s]) := ⟨h, by omega⟩
    have h1 := okay_nonneg (okay_app ho).1
    have h2 : total (i ++ [s]) = total i + s.len := by rw [total_app, total_cons, total_nil]; omega
    by_cases e : s.mk' = r.mk'
    · rw [push_same _ _ _ e]
      have hw : IntKind.i64.wrap (s.len + r.len) = s.len + r.len := wrap_in (by omega)
      refine ⟨fun q hq => ?_, ?_⟩
      · rcases List.mem_append.1 hq with hq | hq
        · exact h q (by simp [hq])
        · simp only [List.mem_singleton] at hq
          subst hq
          simp only [merge, hw]; omega
      · rw [total_app, total_cons, total_nil, h2]
        simp only [merge, hw]; omega
    · rw [push_other _ _ _ e]
      refine ⟨fun q hq => ?_, ?_⟩
      · simp only [List.mem_append, List.mem_cons, List.not_mem_nil, or_false] at hq
        rcases hq with hq | rfl | rfl
        · exact h q (by simp [hq])
        · exact hs
        · exact hr
      · rw [total_app, total_cons, total_cons, total_nil, h2]; omega

theorem joined_okay {rs : List Run} (h : Okay rs) : Okay (joinedL rs) ∧ total (joinedL rs) = total rs := by
  have key : ∀ (rs acc : List Run), (∀ q ∈ acc, 1 ≤ q.len) → (∀ q ∈ rs, 1 ≤ q.len) → total acc + total rs ≤ 40000000 → (∀ q ∈ rs.foldl push acc, 1 ≤ q.len) ∧ total (rs.foldl push acc) = total acc + total rs := by
    intro rs
    induction rs with
    | nil => intro acc h _ _; exact ⟨h, by simp [total]⟩
    | cons r rs ih =>
      intro acc h1 h2 h3
      have hr := h2 r List.mem_cons_self
      rw [total_cons] at h3
      have hn : 0 ≤ total rs := by
        have : Okay rs ∨ 0 ≤ total rs := by
          by_cases h4 : total rs ≤ 40000000
          · exact .inl ⟨fun q hq => h2 q (List.mem_cons_of_mem _ hq), h4⟩
          · exact .inr (by omega)
        exact this.elim okay_nonneg id
      obtain ⟨k1, k2⟩ := push_okay (B := 40000000) h1 hr (by omega) (Int.le_refl _)
      obtain ⟨k3, k4⟩ := ih (push acc r) k1 (fun q hq => h2 q (List.mem_cons_of_mem _ hq)) (by omega)
      exact ⟨k3, by rw [List.foldl_cons, k4, k2, total_cons]; omega⟩
  obtain ⟨k1, k2⟩ := key rs [] (fun q h => by cases h) h.1 (by rw [total_nil]; have := h.2; omega)
  rw [total_nil, Int.zero_add] at k2
  refine ⟨⟨k1, ?_⟩, k2⟩
  have := h.2
  unfold joinedL
  omega

end Go.AM.C
end

