/-
The operations of the numbers of 640 bits that only multiply and add (small, times, plus).
-/
import Derived.Test.YteocppddjlglbaaFBase
import Derived.Test.YteocppddjlglbaaFNatP
set_option linter.unusedVariables false
set_option linter.unusedSimpArgs false
set_option maxRecDepth 20000

namespace Go.AM.F
open Go Go.AM Go.Proofs

def vW (w : Nat) : V := .int .u32 (w : Int)
def natV (l : List Nat) : V := .agg (l.map vW)
def natOb (l : List Nat) : Ob := { es := 20, flat := true, t := true, app := false, elems := [natV l] }
theorem kill_vW (j : Nat) : ∀ l : List Nat, killL j (l.map vW) = l.map vW
  | [] => rfl
  | _ :: r => by simp only [List.map_cons, killL, vW, kill]; rw [← vW, kill_vW j r]
theorem refFree_vW : ∀ l : List Nat, xS (l.map vW) = true
  | [] => rfl
  | _ :: r => by simp only [List.map_cons, xS, vW, refFree, refFree_vW r, Bool.and_self]
theorem isNew_vW : ∀ l : List Nat, xT (l.map vW) = true
  | [] => rfl
  | _ :: r => by simp only [List.map_cons, xT, vW, isNew, isNew_vW r, Bool.and_self]

theorem retag_vW (b : Bool) : ∀ l : List Nat, xU b (l.map vW) = l.map vW
  | [] => rfl
  | _ :: r => by simp only [List.map_cons, xU, vW, retag]; rw [← vW, retag_vW b r]
theorem take_vW {l : List Nat} (h : l.length = 20) : List.take 20 (l.map vW) = l.map vW := List.take_of_length_le (by rw [List.length_map, h]; exact Nat.le_refl _)
theorem d20 : List.drop 20 [V.int .u32 0, V.int .u32 0, V.int .u32 0, V.int .u32 0, V.int .u32 0, V.int .u32 0, V.int .u32 0, V.int .u32 0, V.int .u32 0, V.int .u32 0, V.int .u32 0, V.int .u32 0, V.int .u32 0, V.int .u32 0, V.int .u32 0, V.int .u32 0, V.int .u32 0, V.int .u32 0, V.int .u32 0, V.int .u32 0] = [] := rfl
theorem resolve_vW (os : List (Nat × Ob)) : ∀ l : List Nat, allM (resolve os 5) (l.map vW) = some (l.map vW)
  | [] => rfl
  | a :: r => by simp only [List.map_cons, allM, resolve_vW os r]; rfl
theorem le032 : (0 : Int) ≤ 32 := by decide
theorem shr32 (x : Nat) : ((x : Nat) : Int).fdiv (2 ^ min (Int.toNat 32) IntKind.u64.bits) = ((x / 4294967296 : Nat) : Int) := by
  rw [Int.fdiv_eq_ediv_of_nonneg _ (by decide)]; rfl
def putW (l : List Nat) (k x : Nat) : List Nat := l.take k ++ x :: l.drop (k + 1)
theorem put_vW (l : List Nat) (k x : Nat) : List.take (k * 1) (l.map vW) ++ [V.int .u32 (x : Int)] ++ List.drop (k * 1 + 1) (l.map vW) = (putW l k x).map vW := by
  simp [putW, Nat.mul_one, vW, List.map_take, List.map_drop]
theorem put_len {l : List Nat} {k x : Nat} (h : k < l.length) : (putW l k x).length = l.length := by
  simp [putW]; omega
theorem put_app {p s : List Nat} {k v x : Nat} (h : p.length = k) : putW (p ++ v :: s) k x = p ++ x :: s := by
  subst h; simp [putW]
theorem i20 : ((20 : Nat) : Int) = 20 := rfl
theorem u64_w {z : Int} (h : 0 ≤ z ∧ z < 18446744073709551616) : IntKind.u64.wrap z = z := by
  simp [IntKind.wrap, IntKind.bits, IntKind.signed]; omega
theorem u32_w (z : Nat) : IntKind.u32.wrap (z : Int) = ((z % 4294967296 : Nat) : Int) := by
  simp [IntKind.wrap, IntKind.bits, IntKind.signed]

theorem c35 (l : List Nat) (n : Nat) (hl : l.length = 20) (hw : wordsOk l) (hn : n < 4294967296) : (orcω E X0).call 35 [natV l, .int .i64 n] = some (natV (timesW n 0 l)) := by
  refine call_of rfl fn35 rfl ?_
  have w1 : IntKind.u64.wrap (n : Int) = n := u64_w (by omega)
  simp (maxSteps := 1000000) (implicitDefEqProofs := false) only [natV, kill_vW, refFree_vW, isNew_vW, List.length_map, hl, Try.ntmps35, Try.results35, efc35, fc35, ss, sd, zH, qG, zF, zG, St.get, qE, qF, qB, zC, norm, look, zE, qA, qI, St.alloc, St.drop, zA, part, zB, depth, qD, ↓reduceIte, Nat.reduceBEq, Nat.reduceAdd, Nat.reduceSub, Nat.reduceMul, Nat.reduceEqDiff, Nat.reduceLeDiff, Nat.reduceLT, qJ, qK, qL, qM, qN, qO, qP, qQ, qR, zI, qS, qC, qT, evSlice0, qV, qW, qX, qY, qZ, zJ, zK, zL, wit, Option.isSome_some, qH, xK, evPre, St.with, zD, Array.size, toldV, isIntV, orArr, offB, effFr, effFr2, effFr3, mapIn, restSame, sameO, eqW, eqWL, pickR, te, einl, inls, efr]
  generalize hr : loopAt _ _ _ _ _ _ = r; revert r
  refine loop_nat 20 (fun k c => [(5, .int .u64 ((c.2 : Nat) : Int)), (7, .int .i64 k)]) (fun _ c => [(2, natOb c.1)]) (fun k (c : List Nat × Nat) => ∃ p, p.length = k ∧ c.1 = p ++ l.drop k ∧ timesW n 0 l = p ++ timesW n c.2 (l.drop k) ∧ c.2 ≤ n) (l, 0) (by decide) (by simp (maxSteps := 1000000) (implicitDefEqProofs := false) only [natOb, natV, ss, sd, zH, qG, zF, zG, St.get, qE, qF, qB, zC, norm, look, zE, qA, qI, St.alloc, St.drop, zA, part, zB, depth, qD, ↓reduceIte, Nat.reduceBEq, Nat.reduceAdd, Nat.reduceSub, Nat.reduceMul, Nat.reduceEqDiff, Nat.reduceLeDiff, Nat.reduceLT, qJ, qK, qL, qM, qN, qO, qP, qQ, qR, zI, qS, qC, qT, evSlice0, qV, qW, qX, qY, qZ, zJ, zK, zL, wit, Option.isSome_some, qH, xK, evPre, St.with, zD, Array.size, toldV, isIntV, orArr, offB, effFr, effFr2, effFr3, mapIn, restSame, sameO, eqW, eqWL, pickR, te, einl, inls, efr]) ⟨[], rfl, rfl, rfl, Nat.zero_le _⟩ (fun c hc => ?_) (fun k c hc q1 q2 q3 => ?_)
  · obtain ⟨p, h1, h2, h3, h4⟩ := hc
    have e1 : c.1 = timesW n 0 l := by rw [h2, h3, List.drop_of_length_le (by omega)]; rfl
    have e2 : (timesW n 0 l).length = 20 := by rw [timesW_len, hl]
    simp (maxSteps := 1000000) (implicitDefEqProofs := false) only [i20, Int.lt_irrefl, natOb, natV, e1, e2, kill_vW, refFree_vW, isNew_vW, retag_vW, take_vW, d20, resolve_vW, Option.map_some, List.append_nil, List.length_map, Try.ntmps35, Try.results35, efc35, fc35, ss, sd, zH, qG, zF, zG, St.get, qE, qF, qB, zC, norm, look, zE, qA, qI, St.alloc, St.drop, zA, part, zB, depth, qD, ↓reduceIte, Nat.reduceBEq, Nat.reduceAdd, Nat.reduceSub, Nat.reduceMul, Nat.reduceEqDiff, Nat.reduceLeDiff, Nat.reduceLT, qJ, qK, qL, qM, qN, qO, qP, qQ, qR, zI, qS, qC, qT, evSlice0, qV, qW, qX, qY, qZ, zJ, zK, zL, wit, Option.isSome_some, qH, xK, evPre, St.with, zD, Array.size, toldV, isIntV, orArr, offB, effFr, effFr2, effFr3, mapIn, restSame, sameO, eqW, eqWL, pickR, te, einl, inls, efr]
  · obtain ⟨arr, cy⟩ := c
    obtain ⟨p, h1, h2, h3, h4⟩ := hc
    dsimp only at h2 h3 h4 ⊢
    have hk : k < l.length := by omega
    have e1 : l.drop k = l[k] :: l.drop (k + 1) := List.drop_eq_getElem_cons hk
    have hv := hw _ (List.getElem_mem hk)
    generalize l[k] = v at *
    have g1 : (arr.map vW)[k * 1]? = some (.int .u32 (v : Int)) := by
      rw [Nat.mul_one, h2, e1, List.getElem?_map, List.getElem?_append_right (by omega), h1, Nat.sub_self]; rfl
    have hlen : arr.length = 20 := by rw [h2, List.length_append, List.length_drop]; omega
    have q5 : k * 1 + 1 ≤ 20 := by omega
    have q4 : (k : Int) < 20 := by omega
    have e5 : ((cy : Int) + (v : Int) * (n : Int)) = ((cy + v * n : Nat) : Int) := by simp
    have hm : v * n ≤ 4294967295 * n := Nat.mul_le_mul_right _ (by omega)
    have w2 : IntKind.u64.wrap ((v : Int) * (n : Int)) = (v : Int) * (n : Int) := by rw [show ((v : Int) * (n : Int)) = ((v * n : Nat) : Int) by simp]; exact u64_w (by omega)
    have w3 : IntKind.u64.wrap ((cy : Int) + (v : Int) * (n : Int)) = ((cy + v * n : Nat) : Int) := by rw [e5]; exact u64_w (by omega)
    have w4 : IntKind.u64.wrap (v : Int) = v := u64_w (by omega)
    simp (maxSteps := 1000000) (implicitDefEqProofs := false) only [i20, q2, q3, q4, natOb, natV, w1, w2, w3, w4, u32_w, Int.natCast_nonneg, Int.toNat_natCast, List.length_map, g1, put_vW, kill_vW, refFree_vW, isNew_vW, q5, hlen, le032, shr32, if_true, ss, sd, zH, qG, zF, zG, St.get, qE, qF, qB, zC, norm, look, zE, qA, qI, St.alloc, St.drop, zA, part, zB, depth, qD, ↓reduceIte, Nat.reduceBEq, Nat.reduceAdd, Nat.reduceSub, Nat.reduceMul, Nat.reduceEqDiff, Nat.reduceLeDiff, Nat.reduceLT, qJ, qK, qL, qM, qN, qO, qP, qQ, qR, zI, qS, qC, qT, evSlice0, qV, qW, qX, qY, qZ, zJ, zK, zL, wit, Option.isSome_some, qH, xK, evPre, St.with, zD, Array.size, toldV, isIntV, orArr, offB, effFr, effFr2, effFr3, mapIn, restSame, sameO, eqW, eqWL, pickR, te, einl, inls, efr]
    refine ⟨(putW arr k _, _), rfl, p ++ [(cy + v * n) % 4294967296], by simp [h1], ?_, ?_, ?_⟩
    · rw [h2, e1, put_app h1, List.append_assoc]; rfl
    · rw [h3, e1, List.append_assoc]; rfl
    · omega
theorem okT34 : okCode (Try.f34.body.getD .skip) = true := by decide +kernel
theorem c34 (l m : List Nat) (hl : l.length = 20) (hm : m.length = 20) (hw : wordsOk l) (hv : wordsOk m) : (orcω E X0).call 34 [natV l, natV m] = some (natV (plusW 0 l m)) := by
  refine call_of rfl fn34 rfl ?_
  have hok := okT34
  simp only [Try.f34, Option.getD_some, okCode, Bool.and_eq_true, Bool.and_true, Bool.true_and] at hok
  simp (maxSteps := 1000000) (implicitDefEqProofs := false) only [natV, kill_vW, refFree_vW, isNew_vW, List.length_map, hl, hm, Try.ntmps34, Try.results34, efc34, fc34, ss, sd, zH, qG, zF, zG, St.get, qE, qF, qB, zC, norm, look, zE, qA, qI, St.alloc, St.drop, zA, part, zB, depth, qD, ↓reduceIte, Nat.reduceBEq, Nat.reduceAdd, Nat.reduceSub, Nat.reduceMul, Nat.reduceEqDiff, Nat.reduceLeDiff, Nat.reduceLT, qJ, qK, qL, qM, qN, qO, qP, qQ, qR, zI, qS, qC, qT, evSlice0, qV, qW, qX, qY, qZ, zJ, zK, zL, wit, Option.isSome_some, qH, xK, evPre, St.with, zD, Array.size, toldV, isIntV, orArr, offB, effFr, effFr2, effFr3, mapIn, restSame, sameO, eqW, eqWL, pickR, te, einl, inls, efr]
  generalize hr : loopAt _ _ _ _ _ _ = r; revert r
  refine loop_nat 20 (fun k c => [(5, .int .u64 ((c.2 : Nat) : Int)), (7, .int .i64 k)]) (fun _ c => [(2, natOb c.1)]) (fun k (c : List Nat × Nat) => ∃ p, p.length = k ∧ c.1 = p ++ l.drop k ∧ plusW 0 l m = p ++ plusW c.2 (l.drop k) (m.drop k) ∧ c.2 ≤ 1) (l, 0) (by decide) (by simp (maxSteps := 1000000) (implicitDefEqProofs := false) only [natOb, natV, ss, sd, zH, qG, zF, zG, St.get, qE, qF, qB, zC, norm, look, zE, qA, qI, St.alloc, St.drop, zA, part, zB, depth, qD, ↓reduceIte, Nat.reduceBEq, Nat.reduceAdd, Nat.reduceSub, Nat.reduceMul, Nat.reduceEqDiff, Nat.reduceLeDiff, Nat.reduceLT, qJ, qK, qL, qM, qN, qO, qP, qQ, qR, zI, qS, qC, qT, evSlice0, qV, qW, qX, qY, qZ, zJ, zK, zL, wit, Option.isSome_some, qH, xK, evPre, St.with, zD, Array.size, toldV, isIntV, orArr, offB, effFr, effFr2, effFr3, mapIn, restSame, sameO, eqW, eqWL, pickR, te, einl, inls, efr]) ⟨[], rfl, rfl, rfl, Nat.zero_le _⟩ (fun c hc => ?_) (fun k c hc q1 q2 q3 => ?_)
  · obtain ⟨p, h1, h2, h3, h4⟩ := hc
    have e1 : c.1 = plusW 0 l m := by rw [h2, h3, List.drop_of_length_le (by omega), List.drop_of_length_le (by omega)]; rfl
    have e2 : (plusW 0 l m).length = 20 := by rw [plusW_len _ _ _ (by omega), hl]
    simp (maxSteps := 1000000) (implicitDefEqProofs := false) only [i20, Int.lt_irrefl, natOb, natV, e1, e2, kill_vW, refFree_vW, isNew_vW, retag_vW, take_vW, d20, resolve_vW, Option.map_some, List.append_nil, List.length_map, Try.ntmps34, Try.results34, efc34, fc34, ss, sd, zH, qG, zF, zG, St.get, qE, qF, qB, zC, norm, look, zE, qA, qI, St.alloc, St.drop, zA, part, zB, depth, qD, ↓reduceIte, Nat.reduceBEq, Nat.reduceAdd, Nat.reduceSub, Nat.reduceMul, Nat.reduceEqDiff, Nat.reduceLeDiff, Nat.reduceLT, qJ, qK, qL, qM, qN, qO, qP, qQ, qR, zI, qS, qC, qT, evSlice0, qV, qW, qX, qY, qZ, zJ, zK, zL, wit, Option.isSome_some, qH, xK, evPre, St.with, zD, Array.size, toldV, isIntV, orArr, offB, effFr, effFr2, effFr3, mapIn, restSame, sameO, eqW, eqWL, pickR, te, einl, inls, efr]
  · obtain ⟨arr, cy⟩ := c
    obtain ⟨p, h1, h2, h3, h4⟩ := hc
    dsimp only at h2 h3 h4 ⊢
    have hk : k < l.length := by omega
    have hk' : k < m.length := by omega
    have e1 : l.drop k = l[k] :: l.drop (k + 1) := List.drop_eq_getElem_cons hk
    have e1' : m.drop k = m[k] :: m.drop (k + 1) := List.drop_eq_getElem_cons hk'
    have g2 : (m.map vW)[k * 1]? = some (.int .u32 ((m[k] : Nat) : Int)) := by
      rw [Nat.mul_one, List.getElem?_map, List.getElem?_eq_getElem hk']; rfl
    have hv1 := hw _ (List.getElem_mem hk)
    have hu1 := hv _ (List.getElem_mem hk')
    generalize l[k] = v at *
    generalize m[k] = u at *
    have g1 : (arr.map vW)[k * 1]? = some (.int .u32 (v : Int)) := by
      rw [Nat.mul_one, h2, e1, List.getElem?_map, List.getElem?_append_right (by omega), h1, Nat.sub_self]; rfl
    have hlen : arr.length = 20 := by rw [h2, List.length_append, List.length_drop]; omega
    have q5 : k * 1 + 1 ≤ 20 := by omega
    have q4 : (k : Int) < 20 := by omega
    have w2 : IntKind.u64.wrap ((v : Int) + (u : Int)) = ((v + u : Nat) : Int) := by rw [u64_w (by omega)]; simp
    have w3 : IntKind.u64.wrap ((cy : Int) + ((v + u : Nat) : Int)) = ((cy + (v + u) : Nat) : Int) := by rw [u64_w (by omega)]; simp
    have w4 : IntKind.u64.wrap (v : Int) = v := u64_w (by omega)
    have w5 : IntKind.u64.wrap (u : Int) = u := u64_w (by omega)
    simp (maxSteps := 1000000) (implicitDefEqProofs := false) only [i20, q2, q3, q4, natOb, natV, evRegion_st hok, w2, w3, w4, w5, u32_w, Int.natCast_nonneg, Int.toNat_natCast, List.length_map, g1, g2, put_vW, kill_vW, refFree_vW, isNew_vW, q5, hlen, le032, shr32, if_true, ss, sd, zH, qG, zF, zG, St.get, qE, qF, qB, zC, norm, look, zE, qA, qI, St.alloc, St.drop, zA, part, zB, depth, qD, ↓reduceIte, Nat.reduceBEq, Nat.reduceAdd, Nat.reduceSub, Nat.reduceMul, Nat.reduceEqDiff, Nat.reduceLeDiff, Nat.reduceLT, qJ, qK, qL, qM, qN, qO, qP, qQ, qR, zI, qS, qC, qT, evSlice0, qV, qW, qX, qY, qZ, zJ, zK, zL, wit, Option.isSome_some, qH, xK, evPre, St.with, zD, Array.size, toldV, isIntV, orArr, offB, effFr, effFr2, effFr3, mapIn, restSame, sameO, eqW, eqWL, pickR, te, einl, inls, efr]
    refine ⟨(putW arr k _, _), rfl, p ++ [(cy + (v + u)) % 4294967296], by simp [h1], ?_, ?_, ?_⟩
    · rw [h2, e1, put_app h1, List.append_assoc]; rfl
    · rw [h3, e1, e1', List.append_assoc]; rfl
    · dsimp only; omega

theorem c33 (n : Nat) (hn : n < 4294967296) : (orcω E X0).call 33 [.int .i64 n] = some (natV (n :: List.replicate 19 0)) := by
  refine call_of rfl fn33 rfl ?_
  have w1 : IntKind.u32.wrap (n : Int) = n := by rw [u32_w]; omega
  have w2 : IntKind.u32.wrap ((n : Int).fdiv (2 ^ min (Int.toNat 32) IntKind.i64.bits)) = 0 := by
    have : (n : Int).fdiv (2 ^ min (Int.toNat 32) IntKind.i64.bits) = ((n / 4294967296 : Nat) : Int) := by
      rw [Int.fdiv_eq_ediv_of_nonneg _ (by decide)]; rfl
    rw [this, u32_w]; omega
  simp (maxSteps := 1000000) (implicitDefEqProofs := false) only [w1, w2, le032, Try.ntmps33, Try.results33, efc33, ss, sd, zH, qG, zF, zG, St.get, qE, qF, qB, zC, norm, look, zE, qA, qI, St.alloc, St.drop, zA, part, zB, depth, qD, ↓reduceIte, Nat.reduceBEq, Nat.reduceAdd, Nat.reduceSub, Nat.reduceMul, Nat.reduceEqDiff, Nat.reduceLeDiff, Nat.reduceLT, qJ, qK, qL, qM, qN, qO, qP, qQ, qR, zI, qS, qC, qT, evSlice0, qV, qW, qX, qY, qZ, zJ, zK, zL, wit, Option.isSome_some, qH, xK, evPre, St.with, zD, Array.size, toldV, isIntV, orArr, offB, effFr, effFr2, effFr3, mapIn, restSame, sameO, eqW, eqWL, pickR, te, einl, inls, efr]
  rfl
end Go.AM.F

