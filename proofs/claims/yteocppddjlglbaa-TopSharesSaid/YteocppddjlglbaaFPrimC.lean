/-
The operations of the numbers of 640 bits, third part.
-/
import Derived.Test.YteocppddjlglbaaFPrimB
set_option linter.unusedVariables false
set_option linter.unusedSimpArgs false
set_option maxRecDepth 20000

namespace Go.AM.F
open Go Go.AM Go.Proofs

theorem okT44 : okCode (Try.f44.body.getD .skip) = true := by decide +kernel
set_option maxHeartbeats 4000000 in
theorem c44 (l m : List Nat) (hl : l.length = 20) (hm : m.length = 20) (hw : wordsOk l) (hv : wordsOk m) : (orcω E X0).call 44 [natV l, natV m] = some (natV (minusW 0 l m)) := by
  refine call_of rfl fn44 rfl ?_
  have hok := okT44
  simp only [Try.f44, Option.getD_some, okCode, Bool.and_eq_true, Bool.and_true, Bool.true_and] at hok
  simp (maxSteps := 1000000) (implicitDefEqProofs := false) only [natV, kill_vW, refFree_vW, isNew_vW, List.length_map, hl, hm, Try.ntmps44, Try.results44, efc44, fc44, ss, sd, zH, qG, zF, zG, St.get, qE, qF, qB, zC, norm, look, zE, qA, qI, St.alloc, St.drop, zA, part, zB, depth, qD, ↓reduceIte, Nat.reduceBEq, Nat.reduceAdd, Nat.reduceSub, Nat.reduceMul, Nat.reduceEqDiff, Nat.reduceLeDiff, Nat.reduceLT, qJ, qK, qL, qM, qN, qO, qP, qQ, qR, zI, qS, qC, qT, evSlice0, qV, qW, qX, qY, qZ, zJ, zK, zL, wit, Option.isSome_some, qH, xK, evPre, St.with, zD, Array.size, toldV, isIntV, orArr, offB, effFr, effFr2, effFr3, mapIn, restSame, sameO, eqW, eqWL, pickR, te, einl, inls, efr]
  generalize hr : loopAt _ _ _ _ _ _ = r; revert r
  refine loop_nat 20 (fun k c => [(5, .int .u32 ((c.2 : Nat) : Int)), (7, .int .i64 k)]) (fun _ c => [(2, natOb c.1)]) (fun k (c : List Nat × Nat) => ∃ p, p.length = k ∧ c.1 = p ++ l.drop k ∧ minusW 0 l m = p ++ minusW c.2 (l.drop k) (m.drop k) ∧ c.2 ≤ 1) (l, 0) (by decide) (by simp (maxSteps := 1000000) (implicitDefEqProofs := false) only [natOb, natV, ss, sd, zH, qG, zF, zG, St.get, qE, qF, qB, zC, norm, look, zE, qA, qI, St.alloc, St.drop, zA, part, zB, depth, qD, ↓reduceIte, Nat.reduceBEq, Nat.reduceAdd, Nat.reduceSub, Nat.reduceMul, Nat.reduceEqDiff, Nat.reduceLeDiff, Nat.reduceLT, qJ, qK, qL, qM, qN, qO, qP, qQ, qR, zI, qS, qC, qT, evSlice0, qV, qW, qX, qY, qZ, zJ, zK, zL, wit, Option.isSome_some, qH, xK, evPre, St.with, zD, Array.size, toldV, isIntV, orArr, offB, effFr, effFr2, effFr3, mapIn, restSame, sameO, eqW, eqWL, pickR, te, einl, inls, efr]) ⟨[], rfl, rfl, rfl, Nat.zero_le _⟩ (fun c hc => ?_) (fun k c hc q1 q2 q3 => ?_)
  · obtain ⟨p, h1, h2, h3, h4⟩ := hc
    have e1 : c.1 = minusW 0 l m := by rw [h2, h3, List.drop_of_length_le (by omega), List.drop_of_length_le (by omega)]; rfl
    have e2 : (minusW 0 l m).length = 20 := by rw [minusW_len _ _ _ (by omega), hl]
    simp (maxSteps := 1000000) (implicitDefEqProofs := false) only [i20, Int.lt_irrefl, natOb, natV, e1, e2, kill_vW, refFree_vW, isNew_vW, retag_vW, take_vW, d20, resolve_vW, Option.map_some, List.append_nil, List.length_map, Try.ntmps44, Try.results44, efc44, fc44, ss, sd, zH, qG, zF, zG, St.get, qE, qF, qB, zC, norm, look, zE, qA, qI, St.alloc, St.drop, zA, part, zB, depth, qD, ↓reduceIte, Nat.reduceBEq, Nat.reduceAdd, Nat.reduceSub, Nat.reduceMul, Nat.reduceEqDiff, Nat.reduceLeDiff, Nat.reduceLT, qJ, qK, qL, qM, qN, qO, qP, qQ, qR, zI, qS, qC, qT, evSlice0, qV, qW, qX, qY, qZ, zJ, zK, zL, wit, Option.isSome_some, qH, xK, evPre, St.with, zD, Array.size, toldV, isIntV, orArr, offB, effFr, effFr2, effFr3, mapIn, restSame, sameO, eqW, eqWL, pickR, te, einl, inls, efr]
  · obtain ⟨arr, cy⟩ := c
    obtain ⟨p, h1, h2, h3, h4⟩ := hc
    dsimp only at h2 h3 h4 ⊢
    have hk : k < l.length := by omega
    have hk' : k < m.length := by omega
    have e1 : l.drop k = l[k] :: l.drop (k + 1) := List.drop_eq_getElem_cons hk
    have e1' : m.drop k = m[k] :: m.drop (k + 1) := List.drop_eq_getElem_cons hk'
    have g2 : (m.map vW)[k * 1]? = some (.int .u32 ((m[k] : Nat) : Int)) := by
      rw [Nat.mul_one, List.getElem?_map, List.getElem?_eq_getElem hk']; rfl
    have hv1 := hw _ (List.getElem_mem hk)
    have hu1 := hv _ (List.getElem_mem hk')
    generalize l[k] = v at *
    generalize m[k] = u at *
    have g1 : (arr.map vW)[k * 1]? = some (.int .u32 (v : Int)) := by
      rw [Nat.mul_one, h2, e1, List.getElem?_map, List.getElem?_append_right (by omega), h1, Nat.sub_self]; rfl
    have hlen : arr.length = 20 := by rw [h2, List.length_append, List.length_drop]; omega
    have q5 : k * 1 + 1 ≤ 20 := by omega
    have q4 : (k : Int) < 20 := by omega
    have k1 := c49 v u cy hv1 hu1 h4
    have hle : (if v < u + cy then 1 else 0) ≤ 1 := by split <;> omega
    simp (maxSteps := 1000000) (implicitDefEqProofs := false) only [i20, q2, q3, q4, natOb, natV, evRegion_st hok, k1, Int.natCast_nonneg, Int.toNat_natCast, List.length_map, g1, g2, put_vW, kill_vW, refFree_vW, isNew_vW, q5, hlen, ss, sd, zH, qG, zF, zG, St.get, qE, qF, qB, zC, norm, look, zE, qA, qI, St.alloc, St.drop, zA, part, zB, depth, qD, ↓reduceIte, Nat.reduceBEq, Nat.reduceAdd, Nat.reduceSub, Nat.reduceMul, Nat.reduceEqDiff, Nat.reduceLeDiff, Nat.reduceLT, qJ, qK, qL, qM, qN, qO, qP, qQ, qR, zI, qS, qC, qT, evSlice0, qV, qW, qX, qY, qZ, zJ, zK, zL, wit, Option.isSome_some, qH, xK, evPre, St.with, zD, Array.size, toldV, isIntV, orArr, offB, effFr, effFr2, effFr3, mapIn, restSame, sameO, eqW, eqWL, pickR, te, einl, inls, efr]
    refine ⟨(putW arr k _, _), rfl, p ++ [(v + 4294967296 - (u + cy)) % 4294967296], by simp [h1], ?_, ?_, ?_⟩
    · rw [h2, e1, put_app h1, List.append_assoc]; rfl
    · rw [h3, e1, e1', List.append_assoc]; rfl
    · exact hle

def dn : Nat → Int
  | 0 => -1
  | t + 1 => (t : Int)
theorem dn_zero : dn 0 = -1 := rfl
theorem dn_succ (t : Nat) : dn (t + 1) = (t : Int) := rfl
theorem dn_20 : dn 20 = 19 := rfl
theorem dn_sub (t : Nat) (h : t ≤ 20) : IntKind.i64.wrap ((t : Int) - 1) = dn t := by
  cases t with
  | zero => decide
  | succ t => rw [wrap_in (by omega)]; simp [dn]

theorem cmp_lt {l m : List Nat} {t : Nat} (hl : l.length = 20) (hm : m.length = 20) (hw : wordsOk l) (ht : t < 20) (he : l.drop (t + 1) = m.drop (t + 1)) (hlt : l[t] < m[t]) : valW l < valW m := by
  have e1 : l = l.take t ++ (l[t] :: l.drop (t + 1)) := by rw [← List.drop_eq_getElem_cons (by omega), List.take_append_drop]
  have e2 : m = m.take t ++ (m[t] :: m.drop (t + 1)) := by rw [← List.drop_eq_getElem_cons (by omega), List.take_append_drop]
  have a1 : (l.take t).length = t := by rw [List.length_take]; omega
  have a2 : (m.take t).length = t := by rw [List.length_take]; omega
  have a3 := valW_lt (l.take t) (fun w h => hw w (List.mem_of_mem_take h))
  rw [a1] at a3
  have b1 : valW l = valW (l.take t) + 4294967296 ^ t * (l[t] + 4294967296 * valW (l.drop (t + 1))) := by
    conv => lhs; rw [e1]
    rw [valW_app, a1]; rfl
  have b2 : valW m = valW (m.take t) + 4294967296 ^ t * (m[t] + 4294967296 * valW (l.drop (t + 1))) := by
    conv => lhs; rw [e2]
    rw [valW_app, a2, he]; rfl
  have b3 : 4294967296 ^ t * (l[t] + 4294967296 * valW (l.drop (t + 1)) + 1) ≤ 4294967296 ^ t * (m[t] + 4294967296 * valW (l.drop (t + 1))) := Nat.mul_le_mul_left _ (by omega)
  rw [Nat.mul_add, Nat.mul_one] at b3
  omega

theorem low_neg : ¬ (0 : Int) ≤ -1 := by decide

theorem okT43 : okCode (Try.f43.body.getD .skip) = true := by decide +kernel
set_option maxHeartbeats 4000000 in
theorem c43 (l m : List Nat) (hl : l.length = 20) (hm : m.length = 20) (hw : wordsOk l) (hv : wordsOk m) : (orcω E X0).call 43 [natV l, natV m] = some (.int .i64 (cmpN (valW l) (valW m))) := by
  refine call_of rfl fn43 rfl ?_
  have hok := okT43
  simp only [Try.f43, Option.getD_some, okCode, Bool.and_eq_true, Bool.and_true, Bool.true_and] at hok
  simp (maxSteps := 1000000) (implicitDefEqProofs := false) only [natV, kill_vW, refFree_vW, isNew_vW, List.length_map, hl, hm, Try.ntmps43, Try.results43, efc43, fc43, ss, sd, zH, qG, zF, zG, St.get, qE, qF, qB, zC, norm, look, zE, qA, qI, St.alloc, St.drop, zA, part, zB, depth, qD, ↓reduceIte, Nat.reduceBEq, Nat.reduceAdd, Nat.reduceSub, Nat.reduceMul, Nat.reduceEqDiff, Nat.reduceLeDiff, Nat.reduceLT, qJ, qK, qL, qM, qN, qO, qP, qQ, qR, zI, qS, qC, qT, evSlice0, qV, qW, qX, qY, qZ, zJ, zK, zL, wit, Option.isSome_some, qH, xK, evPre, St.with, zD, Array.size, toldV, isIntV, orArr, offB, effFr, effFr2, effFr3, mapIn, restSame, sameO, eqW, eqWL, pickR, te, einl, inls, efr]
  generalize hr : loopAt _ _ _ _ _ _ = r; revert r
  refine loop_inv (ι := { t : Nat // t ≤ 20 ∧ l.drop t = m.drop t }) (fun i => [(5, .int .i64 (dn i.1))]) (fun _ => []) (fun i => i.1) ⟨20, Nat.le_refl _, by rw [List.drop_of_length_le (by omega), List.drop_of_length_le (by omega)]⟩ (by simp (maxSteps := 1000000) (implicitDefEqProofs := false) only [dn_20, ss, sd, zH, qG, zF, zG, St.get, qE, qF, qB, zC, norm, look, zE, qA, qI, St.alloc, St.drop, zA, part, zB, depth, qD, ↓reduceIte, Nat.reduceBEq, Nat.reduceAdd, Nat.reduceSub, Nat.reduceMul, Nat.reduceEqDiff, Nat.reduceLeDiff, Nat.reduceLT, qJ, qK, qL, qM, qN, qO, qP, qQ, qR, zI, qS, qC, qT, evSlice0, qV, qW, qX, qY, qZ, zJ, zK, zL, wit, Option.isSome_some, qH, xK, evPre, St.with, zD, Array.size, toldV, isIntV, orArr, offB, effFr, effFr2, effFr3, mapIn, restSame, sameO, eqW, eqWL, pickR, te, einl, inls, efr]) ?_
  rintro ⟨t, ht, he⟩
  cases t with
  | zero =>
    have e1 : l = m := by simpa using he
    have e2 : cmpN (valW l) (valW m) = 0 := by rw [e1]; simp [cmpN]
    simp (maxSteps := 1000000) (implicitDefEqProofs := false) only [dn_zero, low_neg, e2, Try.ntmps43, Try.results43, efc43, fc43, ss, sd, zH, qG, zF, zG, St.get, qE, qF, qB, zC, norm, look, zE, qA, qI, St.alloc, St.drop, zA, part, zB, depth, qD, ↓reduceIte, Nat.reduceBEq, Nat.reduceAdd, Nat.reduceSub, Nat.reduceMul, Nat.reduceEqDiff, Nat.reduceLeDiff, Nat.reduceLT, qJ, qK, qL, qM, qN, qO, qP, qQ, qR, zI, qS, qC, qT, evSlice0, qV, qW, qX, qY, qZ, zJ, zK, zL, wit, Option.isSome_some, qH, xK, evPre, St.with, zD, Array.size, toldV, isIntV, orArr, offB, effFr, effFr2, effFr3, mapIn, restSame, sameO, eqW, eqWL, pickR, te, einl, inls, efr]
  | succ t =>
    have g1 : (l.map vW)[t * 1]? = some (.int .u32 ((l[t] : Nat) : Int)) := by
      rw [Nat.mul_one, List.getElem?_map, List.getElem?_eq_getElem (by omega)]; rfl
    have g2 : (m.map vW)[t * 1]? = some (.int .u32 ((m[t] : Nat) : Int)) := by
      rw [Nat.mul_one, List.getElem?_map, List.getElem?_eq_getElem (by omega)]; rfl
    have f1 := cmp_lt hl hm hw (by omega) he
    have f2 := cmp_lt hm hl hv (by omega) he.symm
    have f3 : l[t] = m[t] → l.drop t = m.drop t := fun h => by
      rw [List.drop_eq_getElem_cons (show t < l.length by omega), List.drop_eq_getElem_cons (show t < m.length by omega), h, he]
    generalize l[t] = v at *
    generalize m[t] = u at *
    have q4 : (t : Int) < 20 := by omega
    have q6 := dn_sub t (by omega)
    rcases Nat.lt_trichotomy v u with h | h | h
    · have p1 : (v : Int) < (u : Int) := by omega
      have e2 : cmpN (valW l) (valW m) = -1 := by unfold cmpN; rw [if_pos (f1 h)]
      simp (maxSteps := 1000000) (implicitDefEqProofs := false) only [dn_succ, i20, q4, g1, g2, p1, evRegion_st hok.1, evRegion_st hok.2, Int.natCast_nonneg, Int.toNat_natCast, e2, Try.ntmps43, Try.results43, efc43, fc43, ss, sd, zH, qG, zF, zG, St.get, qE, qF, qB, zC, norm, look, zE, qA, qI, St.alloc, St.drop, zA, part, zB, depth, qD, ↓reduceIte, Nat.reduceBEq, Nat.reduceAdd, Nat.reduceSub, Nat.reduceMul, Nat.reduceEqDiff, Nat.reduceLeDiff, Nat.reduceLT, qJ, qK, qL, qM, qN, qO, qP, qQ, qR, zI, qS, qC, qT, evSlice0, qV, qW, qX, qY, qZ, zJ, zK, zL, wit, Option.isSome_some, qH, xK, evPre, St.with, zD, Array.size, toldV, isIntV, orArr, offB, effFr, effFr2, effFr3, mapIn, restSame, sameO, eqW, eqWL, pickR, te, einl, inls, efr]
    · have p1 : ¬ (v : Int) < (u : Int) := by omega
      have p2 : ¬ (u : Int) < (v : Int) := by omega
      simp (maxSteps := 1000000) (implicitDefEqProofs := false) only [dn_succ, i20, q4, g1, g2, p1, p2, q6, evRegion_st hok.1, evRegion_st hok.2, Int.natCast_nonneg, Int.toNat_natCast, Try.ntmps43, Try.results43, efc43, fc43, ss, sd, zH, qG, zF, zG, St.get, qE, qF, qB, zC, norm, look, zE, qA, qI, St.alloc, St.drop, zA, part, zB, depth, qD, ↓reduceIte, Nat.reduceBEq, Nat.reduceAdd, Nat.reduceSub, Nat.reduceMul, Nat.reduceEqDiff, Nat.reduceLeDiff, Nat.reduceLT, qJ, qK, qL, qM, qN, qO, qP, qQ, qR, zI, qS, qC, qT, evSlice0, qV, qW, qX, qY, qZ, zJ, zK, zL, wit, Option.isSome_some, qH, xK, evPre, St.with, zD, Array.size, toldV, isIntV, orArr, offB, effFr, effFr2, effFr3, mapIn, restSame, sameO, eqW, eqWL, pickR, te, einl, inls, efr]
      exact ⟨⟨t, by omega, f3 h⟩, rfl, Nat.lt_succ_self _⟩
    · have p1 : ¬ (v : Int) < (u : Int) := by omega
      have p2 : (u : Int) < (v : Int) := by omega
      have f2' := f2 h
      have e2 : cmpN (valW l) (valW m) = 1 := by unfold cmpN; rw [if_neg (by omega), if_pos f2']
      simp (maxSteps := 1000000) (implicitDefEqProofs := false) only [dn_succ, i20, q4, g1, g2, p1, p2, evRegion_st hok.1, evRegion_st hok.2, Int.natCast_nonneg, Int.toNat_natCast, e2, Try.ntmps43, Try.results43, efc43, fc43, ss, sd, zH, qG, zF, zG, St.get, qE, qF, qB, zC, norm, look, zE, qA, qI, St.alloc, St.drop, zA, part, zB, depth, qD, ↓reduceIte, Nat.reduceBEq, Nat.reduceAdd, Nat.reduceSub, Nat.reduceMul, Nat.reduceEqDiff, Nat.reduceLeDiff, Nat.reduceLT, qJ, qK, qL, qM, qN, qO, qP, qQ, qR, zI, qS, qC, qT, evSlice0, qV, qW, qX, qY, qZ, zJ, zK, zL, wit, Option.isSome_some, qH, xK, evPre, St.with, zD, Array.size, toldV, isIntV, orArr, offB, effFr, effFr2, effFr3, mapIn, restSame, sameO, eqW, eqWL, pickR, te, einl, inls, efr]

set_option maxHeartbeats 4000000 in
theorem c46 (l : List Nat) (hl : l.length = 20) (hw : wordsOk l) : (orcω E X0).call 46 [natV l] = some (.int .i64 ((bitsN (valW l) : Nat) : Int)) := by
  refine call_of rfl fn46 rfl ?_
  simp (maxSteps := 1000000) (implicitDefEqProofs := false) only [natV, kill_vW, refFree_vW, isNew_vW, List.length_map, hl, Try.ntmps46, Try.results46, efc46, fc46, ss, sd, zH, qG, zF, zG, St.get, qE, qF, qB, zC, norm, look, zE, qA, qI, St.alloc, St.drop, zA, part, zB, depth, qD, ↓reduceIte, Nat.reduceBEq, Nat.reduceAdd, Nat.reduceSub, Nat.reduceMul, Nat.reduceEqDiff, Nat.reduceLeDiff, Nat.reduceLT, qJ, qK, qL, qM, qN, qO, qP, qQ, qR, zI, qS, qC, qT, evSlice0, qV, qW, qX, qY, qZ, zJ, zK, zL, wit, Option.isSome_some, qH, xK, evPre, St.with, zD, Array.size, toldV, isIntV, orArr, offB, effFr, effFr2, effFr3, mapIn, restSame, sameO, eqW, eqWL, pickR, te, einl, inls, efr]
  generalize hr : loopAt _ _ _ _ _ _ = r; revert r
  refine loop_inv (ι := { t : Nat // t ≤ 20 ∧ valW (l.drop t) = 0 }) (fun i => [(3, .int .i64 (dn i.1))]) (fun _ => []) (fun i => i.1) ⟨20, Nat.le_refl _, by rw [List.drop_of_length_le (by omega)]; rfl⟩ (by simp (maxSteps := 1000000) (implicitDefEqProofs := false) only [dn_20, ss, sd, zH, qG, zF, zG, St.get, qE, qF, qB, zC, norm, look, zE, qA, qI, St.alloc, St.drop, zA, part, zB, depth, qD, ↓reduceIte, Nat.reduceBEq, Nat.reduceAdd, Nat.reduceSub, Nat.reduceMul, Nat.reduceEqDiff, Nat.reduceLeDiff, Nat.reduceLT, qJ, qK, qL, qM, qN, qO, qP, qQ, qR, zI, qS, qC, qT, evSlice0, qV, qW, qX, qY, qZ, zJ, zK, zL, wit, Option.isSome_some, qH, xK, evPre, St.with, zD, Array.size, toldV, isIntV, orArr, offB, effFr, effFr2, effFr3, mapIn, restSame, sameO, eqW, eqWL, pickR, te, einl, inls, efr]) ?_
  rintro ⟨t, ht, he⟩
  cases t with
  | zero =>
    have e1 : valW l = 0 := by simpa using he
    have e2 : bitsN (valW l) = 0 := by rw [e1]; rfl
    simp (maxSteps := 1000000) (implicitDefEqProofs := false) only [dn_zero, low_neg, e2, Try.ntmps46, Try.results46, efc46, fc46, ss, sd, zH, qG, zF, zG, St.get, qE, qF, qB, zC, norm, look, zE, qA, qI, St.alloc, St.drop, zA, part, zB, depth, qD, ↓reduceIte, Nat.reduceBEq, Nat.reduceAdd, Nat.reduceSub, Nat.reduceMul, Nat.reduceEqDiff, Nat.reduceLeDiff, Nat.reduceLT, qJ, qK, qL, qM, qN, qO, qP, qQ, qR, zI, qS, qC, qT, evSlice0, qV, qW, qX, qY, qZ, zJ, zK, zL, wit, Option.isSome_some, qH, xK, evPre, St.with, zD, Array.size, toldV, isIntV, orArr, offB, effFr, effFr2, effFr3, mapIn, restSame, sameO, eqW, eqWL, pickR, te, einl, inls, efr]
  | succ t =>
    have g1 : (l.map vW)[t * 1]? = some (.int .u32 ((l[t] : Nat) : Int)) := by
      rw [Nat.mul_one, List.getElem?_map, List.getElem?_eq_getElem (by omega)]; rfl
    have e1 : l = l.take t ++ (l[t] :: l.drop (t + 1)) := by rw [← List.drop_eq_getElem_cons (by omega), List.take_append_drop]
    have a1 : (l.take t).length = t := by rw [List.length_take]; omega
    have a3 := valW_lt (l.take t) (fun w h => hw w (List.mem_of_mem_take h))
    rw [a1] at a3
    have b1 : valW l = valW (l.take t) + 4294967296 ^ t * l[t] := by
      conv => lhs; rw [e1]
      rw [valW_app, a1]; simp only [valW, he, Nat.mul_zero, Nat.add_zero]
    have b2 : l[t] = 0 → valW (l.drop t) = 0 := fun h => by
      rw [List.drop_eq_getElem_cons (show t < l.length by omega)]; simp only [valW, he, h, Nat.mul_zero, Nat.add_zero]
    have hv1 := hw _ (List.getElem_mem (show t < l.length by omega))
    generalize l[t] = v at *
    have q4 : (t : Int) < 20 := by omega
    have q6 := dn_sub t (by omega)
    by_cases h : v = 0
    · have p1 : ((v : Int) != 0) = false := by simp [h]
      simp (maxSteps := 1000000) (implicitDefEqProofs := false) only [dn_succ, i20, q4, g1, p1, q6, Int.natCast_nonneg, Int.toNat_natCast, Try.ntmps46, Try.results46, efc46, fc46, ss, sd, zH, qG, zF, zG, St.get, qE, qF, qB, zC, norm, look, zE, qA, qI, St.alloc, St.drop, zA, part, zB, depth, qD, ↓reduceIte, Nat.reduceBEq, Nat.reduceAdd, Nat.reduceSub, Nat.reduceMul, Nat.reduceEqDiff, Nat.reduceLeDiff, Nat.reduceLT, qJ, qK, qL, qM, qN, qO, qP, qQ, qR, zI, qS, qC, qT, evSlice0, qV, qW, qX, qY, qZ, zJ, zK, zL, wit, Option.isSome_some, qH, xK, evPre, St.with, zD, Array.size, toldV, isIntV, orArr, offB, effFr, effFr2, effFr3, mapIn, restSame, sameO, eqW, eqWL, pickR, te, einl, inls, efr]
      exact ⟨⟨t, by omega, b2 h⟩, rfl, Nat.lt_succ_self _⟩
    · have p1 : ((v : Int) != 0) = true := by simp [h]
      have k1 := c50 v hv1
      have hb := bits_lt v
      have hb2 : bitsN v ≤ 32 := by
        have h1 := bits_ge h
        have h2 : 2 ^ (bitsN v - 1) < 2 ^ 32 := by omega
        have := (Nat.pow_lt_pow_iff_right (by decide : 1 < 2)).1 h2
        omega
      have w1 : IntKind.i64.wrap (32 * (t : Int)) = 32 * (t : Int) := wrap_in (by omega)
      have w2 : IntKind.i64.wrap (32 * (t : Int) + ((bitsN v : Nat) : Int)) = ((bitsN (valW l) : Nat) : Int) := by
        rw [b1, bits_top h a3, wrap_in (by omega)]; simp
      simp (maxSteps := 1000000) (implicitDefEqProofs := false) only [dn_succ, i20, q4, g1, p1, q6, k1, w1, w2, Int.natCast_nonneg, Int.toNat_natCast, Try.ntmps46, Try.results46, efc46, fc46, ss, sd, zH, qG, zF, zG, St.get, qE, qF, qB, zC, norm, look, zE, qA, qI, St.alloc, St.drop, zA, part, zB, depth, qD, ↓reduceIte, Nat.reduceBEq, Nat.reduceAdd, Nat.reduceSub, Nat.reduceMul, Nat.reduceEqDiff, Nat.reduceLeDiff, Nat.reduceLT, qJ, qK, qL, qM, qN, qO, qP, qQ, qR, zI, qS, qC, qT, evSlice0, qV, qW, qX, qY, qZ, zJ, zK, zL, wit, Option.isSome_some, qH, xK, evPre, St.with, zD, Array.size, toldV, isIntV, orArr, offB, effFr, effFr2, effFr3, mapIn, restSame, sameO, eqW, eqWL, pickR, te, einl, inls, efr]

theorem k44 (a b : Nat) (ha : a < big) (hb : b < big) (h : b ≤ a) : (orcω E X0).call 44 [nV a, nV b] = some (nV (a - b)) := by
  unfold nV
  rw [c44 _ _ (wd_len a) (wd_len b) (wd_ok a) (wd_ok b)]
  congr 2
  have := minusW_val (wd a) (wd b) 0 (by rw [wd_len, wd_len]) (wd_ok a) (wd_ok b) (by omega) (by rw [wd_val ha, wd_val hb]; omega)
  refine wd_eq (by rw [minusW_len _ _ _ (by rw [wd_len, wd_len]), wd_len]) (minusW_ok _ _ _) ?_
  rw [wd_val ha, wd_val hb] at this
  omega
theorem k43 (a b : Nat) (ha : a < big) (hb : b < big) : (orcω E X0).call 43 [nV a, nV b] = some (.int .i64 (cmpN a b)) := by
  unfold nV
  rw [c43 _ _ (wd_len a) (wd_len b) (wd_ok a) (wd_ok b), wd_val ha, wd_val hb]
theorem k46 (a : Nat) (ha : a < big) : (orcω E X0).call 46 [nV a] = some (.int .i64 ((bitsN a : Nat) : Int)) := by
  unfold nV
  rw [c46 _ (wd_len a) (wd_ok a), wd_val ha]

set_option maxHeartbeats 4000000 in
theorem c45 (b k : Nat) (hb : b < big) (hk : k ≤ 1000) (h : b * 2 ^ k < big) : (orcω E X0).call 45 [nV b, .int .i64 k] = some (nV (b * 2 ^ k)) := by
  refine call_of rfl fn45 rfl ?_
  have hlen := wd_len b
  simp (maxSteps := 1000000) (implicitDefEqProofs := false) only [nV, natV, kill_vW, refFree_vW, isNew_vW, List.length_map, hlen, Try.ntmps45, Try.results45, efc45, fc45, ss, sd, zH, qG, zF, zG, St.get, qE, qF, qB, zC, norm, look, zE, qA, qI, St.alloc, St.drop, zA, part, zB, depth, qD, ↓reduceIte, Nat.reduceBEq, Nat.reduceAdd, Nat.reduceSub, Nat.reduceMul, Nat.reduceEqDiff, Nat.reduceLeDiff, Nat.reduceLT, qJ, qK, qL, qM, qN, qO, qP, qQ, qR, zI, qS, qC, qT, evSlice0, qV, qW, qX, qY, qZ, zJ, zK, zL, wit, Option.isSome_some, qH, xK, evPre, St.with, zD, Array.size, toldV, isIntV, orArr, offB, effFr, effFr2, effFr3, mapIn, restSame, sameO, eqW, eqWL, pickR, te, einl, inls, efr]
  generalize hr : loopAt _ _ _ _ _ _ = r; revert r
  refine loop_nat k (fun i _ => [(6, .int .i64 (i : Nat))]) (fun i _ => [(2, natOb (wd (b * 2 ^ i)))]) (fun i (_ : Unit) => b * 2 ^ i < big) () (by omega) (by simp (maxSteps := 1000000) (implicitDefEqProofs := false) only [natOb, natV, Nat.pow_zero, Nat.mul_one, ss, sd, zH, qG, zF, zG, St.get, qE, qF, qB, zC, norm, look, zE, qA, qI, St.alloc, St.drop, zA, part, zB, depth, qD, ↓reduceIte, Nat.reduceBEq, Nat.reduceAdd, Nat.reduceSub, Nat.reduceMul, Nat.reduceEqDiff, Nat.reduceLeDiff, Nat.reduceLT, qJ, qK, qL, qM, qN, qO, qP, qQ, qR, zI, qS, qC, qT, evSlice0, qV, qW, qX, qY, qZ, zJ, zK, zL, wit, Option.isSome_some, qH, xK, evPre, St.with, zD, Array.size, toldV, isIntV, orArr, offB, effFr, effFr2, effFr3, mapIn, restSame, sameO, eqW, eqWL, pickR, te, einl, inls, efr]) (by simpa using hb) (fun _ hc => ?_) (fun i _ hc q1 q2 q3 => ?_)
  · have e2 := wd_len (b * 2 ^ k)
    simp (maxSteps := 1000000) (implicitDefEqProofs := false) only [Int.lt_irrefl, natOb, natV, e2, kill_vW, refFree_vW, isNew_vW, retag_vW, take_vW, d20, resolve_vW, Option.map_some, List.append_nil, List.length_map, Try.ntmps45, Try.results45, efc45, fc45, ss, sd, zH, qG, zF, zG, St.get, qE, qF, qB, zC, norm, look, zE, qA, qI, St.alloc, St.drop, zA, part, zB, depth, qD, ↓reduceIte, Nat.reduceBEq, Nat.reduceAdd, Nat.reduceSub, Nat.reduceMul, Nat.reduceEqDiff, Nat.reduceLeDiff, Nat.reduceLT, qJ, qK, qL, qM, qN, qO, qP, qQ, qR, zI, qS, qC, qT, evSlice0, qV, qW, qX, qY, qZ, zJ, zK, zL, wit, Option.isSome_some, qH, xK, evPre, St.with, zD, Array.size, toldV, isIntV, orArr, offB, effFr, effFr2, effFr3, mapIn, restSame, sameO, eqW, eqWL, pickR, te, einl, inls, efr]
  · have e2 := wd_len (b * 2 ^ i)
    have e4 : b * 2 ^ i * 2 = b * 2 ^ (i + 1) := by rw [Nat.pow_succ, Nat.mul_assoc]
    have e3 := wd_len (b * 2 ^ (i + 1))
    have hlt : b * 2 ^ (i + 1) < big := by
      refine Nat.lt_of_le_of_lt ?_ h
      exact Nat.mul_le_mul_left _ (Nat.pow_le_pow_right (by decide) q1)
    have k1 : (orcω E X0).call 35 [nV (b * 2 ^ i), .int .i64 2] = _ := k35 (b * 2 ^ i) 2 hc (by decide) (by rw [e4]; exact hlt)
    rw [e4] at k1
    simp only [nV, natV] at k1
    simp (maxSteps := 1000000) (implicitDefEqProofs := false) only [q2, q3, natOb, natV, k1, nn, ss, sd, zH, qG, zF, zG, St.get, qE, qF, qB, zC, norm, look, zE, qA, qI, St.alloc, St.drop, zA, part, zB, depth, qD, ↓reduceIte, Nat.reduceBEq, Nat.reduceAdd, Nat.reduceSub, Nat.reduceMul, Nat.reduceEqDiff, Nat.reduceLeDiff, Nat.reduceLT, qJ, qK, qL, qM, qN, qO, qP, qQ, qR, zI, qS, qC, qT, evSlice0, qV, qW, qX, qY, qZ, zJ, zK, zL, wit, Option.isSome_some, qH, xK, evPre, St.with, zD, Array.size, toldV, isIntV, orArr, offB, effFr, effFr2, effFr3, mapIn, restSame, sameO, eqW, eqWL, pickR, te, einl, inls, efr]
    exact ⟨(), hlt⟩
end Go.AM.F

