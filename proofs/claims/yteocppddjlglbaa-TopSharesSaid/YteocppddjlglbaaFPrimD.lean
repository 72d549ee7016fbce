/-
The operations of the numbers of 640 bits, fourth part (half, over).
-/
import Derived.Test.YteocppddjlglbaaFPrimC
set_option linter.unusedVariables false
set_option linter.unusedSimpArgs false
set_option maxRecDepth 20000

namespace Go.AM.F
open Go Go.AM Go.Proofs

theorem shl31 (v : Nat) : IntKind.u32.wrap ((v : Int) * 2 ^ min (Int.toNat 31) IntKind.u32.bits) = ((v % 2 * 2147483648 : Nat) : Int) := by
  have : (v : Int) * 2 ^ min (Int.toNat 31) IntKind.u32.bits = ((v * 2147483648 : Nat) : Int) := by
    rw [show (2 : Int) ^ min (Int.toNat 31) IntKind.u32.bits = 2147483648 from rfl]; simp
  rw [this, u32_w]
  omega
theorem shr1 (x : Nat) : ((x : Nat) : Int).fdiv (2 ^ min (Int.toNat 1) IntKind.u32.bits) = ((x / 2 : Nat) : Int) := by
  rw [Int.fdiv_eq_ediv_of_nonneg _ (by decide)]; rfl
theorem le01 : (0 : Int) ≤ 1 := by decide
theorem or_top (x v : Nat) (hx : x < 2147483648) : bitsI .or .u32 (x : Int) ((v % 2 * 2147483648 : Nat) : Int) = ((x + v % 2 * 2147483648 : Nat) : Int) := by
  rw [bits_or x _ (by omega) (by omega)]
  have := Nat.two_pow_add_eq_or_of_lt (i := 31) (b := x) hx (v % 2)
  rw [Nat.or_comm, show v % 2 * 2147483648 = 2 ^ 31 * (v % 2) by omega, ← this]
  omega
theorem put_put {l : List Nat} {k x y : Nat} (h : k < l.length) : putW (putW l k x) k y = putW l k y := by
  have e : (l.take k).length = k := by rw [List.length_take]; omega
  unfold putW
  rw [List.take_append_of_le_length (by omega), List.take_of_length_le (by omega)]
  congr 2
  rw [List.drop_append, e, List.drop_of_length_le (by omega), show k + 1 - k = 1 by omega]
  rfl
theorem put_get {l : List Nat} {k x : Nat} (h : k < l.length) : (putW l k x)[k]? = some x := by
  have e : (l.take k).length = k := by rw [List.length_take]; omega
  unfold putW
  rw [List.getElem?_append_right (by omega), e, Nat.sub_self]; rfl
theorem put_get' {l : List Nat} {k x : Nat} (h : k < l.length) : (putW l k x)[k + 1]? = l[k + 1]? := by
  have e : (l.take k).length = k := by rw [List.length_take]; omega
  unfold putW
  rw [List.getElem?_append_right (by omega), e, show k + 1 - k = 1 by omega, List.getElem?_cons_succ, List.getElem?_drop]

theorem okT42 : okCode (Try.f42.body.getD .skip) = true := by decide +kernel
set_option maxHeartbeats 4000000 in
theorem c42 (l : List Nat) (hl : l.length = 20) (hw : wordsOk l) : (orcω E X0).call 42 [natV l] = some (natV (halfW l)) := by
  refine call_of rfl fn42 rfl ?_
  have hok := okT42
  simp only [Try.f42, Option.getD_some, okCode, Bool.and_eq_true, Bool.and_true, Bool.true_and] at hok
  simp (maxSteps := 1000000) (implicitDefEqProofs := false) only [natV, kill_vW, refFree_vW, isNew_vW, List.length_map, hl, Try.ntmps42, Try.results42, efc42, fc42, ss, sd, zH, qG, zF, zG, St.get, qE, qF, qB, zC, norm, look, zE, qA, qI, St.alloc, St.drop, zA, part, zB, depth, qD, ↓reduceIte, Nat.reduceBEq, Nat.reduceAdd, Nat.reduceSub, Nat.reduceMul, Nat.reduceEqDiff, Nat.reduceLeDiff, Nat.reduceLT, qJ, qK, qL, qM, qN, qO, qP, qQ, qR, zI, qS, qC, qT, evSlice0, qV, qW, qX, qY, qZ, zJ, zK, zL, wit, Option.isSome_some, qH, xK, evPre, St.with, zD, Array.size, toldV, isIntV, orArr, offB, effFr, effFr2, effFr3, mapIn, restSame, sameO, eqW, eqWL, pickR, te, einl, inls, efr]
  generalize hr : loopAt _ _ _ _ _ _ = r; revert r
  refine loop_nat 20 (fun k _ => [(4, .int .i64 k)]) (fun _ c => [(1, natOb c)]) (fun k (c : List Nat) => ∃ p, p.length = k ∧ c = p ++ l.drop k ∧ halfW l = p ++ halfW (l.drop k)) l (by decide) (by simp (maxSteps := 1000000) (implicitDefEqProofs := false) only [natOb, natV, ss, sd, zH, qG, zF, zG, St.get, qE, qF, qB, zC, norm, look, zE, qA, qI, St.alloc, St.drop, zA, part, zB, depth, qD, ↓reduceIte, Nat.reduceBEq, Nat.reduceAdd, Nat.reduceSub, Nat.reduceMul, Nat.reduceEqDiff, Nat.reduceLeDiff, Nat.reduceLT, qJ, qK, qL, qM, qN, qO, qP, qQ, qR, zI, qS, qC, qT, evSlice0, qV, qW, qX, qY, qZ, zJ, zK, zL, wit, Option.isSome_some, qH, xK, evPre, St.with, zD, Array.size, toldV, isIntV, orArr, offB, effFr, effFr2, effFr3, mapIn, restSame, sameO, eqW, eqWL, pickR, te, einl, inls, efr]) ⟨[], rfl, rfl, rfl⟩ (fun c hc => ?_) (fun k c hc q1 q2 q3 => ?_)
  · obtain ⟨p, h1, h2, h3⟩ := hc
    have e1 : c = halfW l := by rw [h2, h3, List.drop_of_length_le (by omega)]; rfl
    have e2 : (halfW l).length = 20 := by rw [halfW_len, hl]
    simp (maxSteps := 1000000) (implicitDefEqProofs := false) only [i20, Int.lt_irrefl, natOb, natV, e1, e2, kill_vW, refFree_vW, isNew_vW, retag_vW, take_vW, d20, resolve_vW, Option.map_some, List.append_nil, List.length_map, Try.ntmps42, Try.results42, efc42, fc42, ss, sd, zH, qG, zF, zG, St.get, qE, qF, qB, zC, norm, look, zE, qA, qI, St.alloc, St.drop, zA, part, zB, depth, qD, ↓reduceIte, Nat.reduceBEq, Nat.reduceAdd, Nat.reduceSub, Nat.reduceMul, Nat.reduceEqDiff, Nat.reduceLeDiff, Nat.reduceLT, qJ, qK, qL, qM, qN, qO, qP, qQ, qR, zI, qS, qC, qT, evSlice0, qV, qW, qX, qY, qZ, zJ, zK, zL, wit, Option.isSome_some, qH, xK, evPre, St.with, zD, Array.size, toldV, isIntV, orArr, offB, effFr, effFr2, effFr3, mapIn, restSame, sameO, eqW, eqWL, pickR, te, einl, inls, efr]
  · obtain ⟨p, h1, h2, h3⟩ := hc
    have hk : k < l.length := by omega
    have e1 : l.drop k = l[k] :: l.drop (k + 1) := List.drop_eq_getElem_cons hk
    have hv1 := hw _ (List.getElem_mem hk)
    have hlen : c.length = 20 := by rw [h2, List.length_append, List.length_drop]; omega
    have q5 : k * 1 + 1 ≤ 20 := by omega
    have q4 : (k : Int) < 20 := by omega
    have hlen2 : ∀ x, (putW c k x).length = 20 := fun x => by rw [put_len (by omega), hlen]
    by_cases hlast : k + 1 < 20
    · have e1' : l.drop (k + 1) = l[k + 1] :: l.drop (k + 2) := List.drop_eq_getElem_cons (by omega)
      have hu1 := hw _ (List.getElem_mem (show k + 1 < l.length by omega))
      generalize l[k] = w at *
      generalize l[k + 1] = v at *
      have g1 : (c.map vW)[k * 1]? = some (.int .u32 (w : Int)) := by
        rw [Nat.mul_one, h2, e1, List.getElem?_map, List.getElem?_append_right (by omega), h1, Nat.sub_self]; rfl
      have g2 : ((putW c k (w / 2)).map vW)[k * 1]? = some (.int .u32 ((w / 2 : Nat) : Int)) := by
        rw [Nat.mul_one, List.getElem?_map, put_get (by omega)]; rfl
      have g3 : ((putW c k (w / 2)).map vW)[(k + 1) * 1]? = some (.int .u32 (v : Int)) := by
        rw [Nat.mul_one, List.getElem?_map, put_get' (by omega), h2, e1, e1', List.getElem?_append_right (by omega), h1, show k + 1 - k = 1 by omega]; rfl
      have q6 : ((k + 1 : Nat) : Int) < 20 := by omega
      have o1 := or_top (w / 2) v (by omega)
      have pp := put_put (l := c) (k := k) (x := w / 2) (y := w / 2 + v % 2 * 2147483648) (by omega)
      simp (maxSteps := 1000000) (implicitDefEqProofs := false) only [i20, q2, q3, q4, q6, natOb, natV, evRegion_st hok, Int.natCast_nonneg, Int.toNat_natCast, List.length_map, g1, g2, g3, put_vW, kill_vW, refFree_vW, isNew_vW, q5, hlen, hlen2, le01, shr1, le031, shl31, o1, pp, ss, sd, zH, qG, zF, zG, St.get, qE, qF, qB, zC, norm, look, zE, qA, qI, St.alloc, St.drop, zA, part, zB, depth, qD, ↓reduceIte, Nat.reduceBEq, Nat.reduceAdd, Nat.reduceSub, Nat.reduceMul, Nat.reduceEqDiff, Nat.reduceLeDiff, Nat.reduceLT, qJ, qK, qL, qM, qN, qO, qP, qQ, qR, zI, qS, qC, qT, evSlice0, qV, qW, qX, qY, qZ, zJ, zK, zL, wit, Option.isSome_some, qH, xK, evPre, St.with, zD, Array.size, toldV, isIntV, orArr, offB, effFr, effFr2, effFr3, mapIn, restSame, sameO, eqW, eqWL, pickR, te, einl, inls, efr]
      refine ⟨putW c k _, rfl, p ++ [w / 2 + v % 2 * 2147483648], by simp [h1], ?_, ?_⟩
      · rw [h2, e1, put_app h1, List.append_assoc]; rfl
      · rw [h3, e1, e1', List.append_assoc]; rfl
    · have e1' : l.drop (k + 1) = [] := List.drop_of_length_le (by omega)
      generalize l[k] = w at *
      have g1 : (c.map vW)[k * 1]? = some (.int .u32 (w : Int)) := by
        rw [Nat.mul_one, h2, e1, List.getElem?_map, List.getElem?_append_right (by omega), h1, Nat.sub_self]; rfl
      have q6 : ¬ ((k + 1 : Nat) : Int) < 20 := by omega
      simp (maxSteps := 1000000) (implicitDefEqProofs := false) only [i20, q2, q3, q4, q6, natOb, natV, Int.natCast_nonneg, Int.toNat_natCast, List.length_map, g1, put_vW, kill_vW, refFree_vW, isNew_vW, q5, hlen, hlen2, le01, shr1, ss, sd, zH, qG, zF, zG, St.get, qE, qF, qB, zC, norm, look, zE, qA, qI, St.alloc, St.drop, zA, part, zB, depth, qD, ↓reduceIte, Nat.reduceBEq, Nat.reduceAdd, Nat.reduceSub, Nat.reduceMul, Nat.reduceEqDiff, Nat.reduceLeDiff, Nat.reduceLT, qJ, qK, qL, qM, qN, qO, qP, qQ, qR, zI, qS, qC, qT, evSlice0, qV, qW, qX, qY, qZ, zJ, zK, zL, wit, Option.isSome_some, qH, xK, evPre, St.with, zD, Array.size, toldV, isIntV, orArr, offB, effFr, effFr2, effFr3, mapIn, restSame, sameO, eqW, eqWL, pickR, te, einl, inls, efr]
      refine ⟨putW c k _, rfl, p ++ [w / 2], by simp [h1], ?_, ?_⟩
      · rw [h2, e1, put_app h1, List.append_assoc]; rfl
      · rw [h3, e1, e1', List.append_assoc]; rfl

theorem k42 (a : Nat) (ha : a < big) : (orcω E X0).call 42 [nV a] = some (nV (a / 2)) := by
  unfold nV
  rw [c42 _ (wd_len a) (wd_ok a)]
  congr 2
  obtain ⟨h1, h2⟩ := halfW_val (wd a) (wd_ok a)
  exact wd_eq (by rw [halfW_len, wd_len]) h1 (by rw [h2, wd_val ha])

theorem pow_mono {a b : Nat} (h : a ≤ b) : 2 ^ a ≤ 2 ^ b := Nat.pow_le_pow_right (by decide) h
theorem bits_le {a k : Nat} (h : a < 2 ^ k) : bitsN a ≤ k := by
  rcases Nat.eq_zero_or_pos a with rfl | h0
  · exact Nat.zero_le _
  · have h1 := bits_ge (n := a) (by omega)
    have h2 : 2 ^ (bitsN a - 1) < 2 ^ k := by omega
    have := (Nat.pow_lt_pow_iff_right (by decide : 1 < 2)).1 h2
    omega

theorem cmp_neg (a b : Nat) : decide (0 ≤ cmpN a b) = decide (b ≤ a) := by
  unfold cmpN
  by_cases h : a < b
  · rw [if_pos h, decide_eq_false (by decide), decide_eq_false (by omega)]
  · rw [if_neg h, decide_eq_true (by omega : b ≤ a)]
    split <;> decide

def overV (a b : Nat) : V := if bitsN b + 60 < bitsN a then .tup [.int .i64 0, .bool false] else .tup [.int .i64 ((a / b : Nat) : Int), .bool true]
theorem okT31 : okCode (Try.f31.body.getD .skip) = true := by decide +kernel
set_option maxHeartbeats 4000000 in
theorem c31 (a b : Nat) (ha : a < big) (hb : b < big) (h0 : b ≠ 0) : (orcω E X0).call 31 [nV a, nV b] = some (overV a b) := by
  refine call_of rfl fn31 rfl ?_
  have hok := okT31
  simp only [Try.f31, Option.getD_some, okCode, Bool.and_eq_true, Bool.and_true, Bool.true_and] at hok
  have k1 := k46 a ha
  have k2 := k46 b hb
  simp only [nV, natV] at k1 k2
  have z1 := bits_le (k := 640) (by rw [← big_eq]; exact ha)
  have z2 := bits_le (k := 640) (by rw [← big_eq]; exact hb)
  have w1 : IntKind.i64.wrap (((bitsN a : Nat) : Int) - ((bitsN b : Nat) : Int)) = ((bitsN a : Nat) : Int) - ((bitsN b : Nat) : Int) := wrap_in (by omega)
  unfold overV
  by_cases hs : bitsN b + 60 < bitsN a
  · have p1 : (60 : Int) < ((bitsN a : Nat) : Int) - ((bitsN b : Nat) : Int) := by omega
    simp (maxSteps := 1000000) (implicitDefEqProofs := false) only [nV, natV, nn, evRegion_st hok, k1, k2, w1, p1, hs, if_true, Try.ntmps31, Try.results31, efc31, fc31, ss, sd, zH, qG, zF, zG, St.get, qE, qF, qB, zC, norm, look, zE, qA, qI, St.alloc, St.drop, zA, part, zB, depth, qD, ↓reduceIte, Nat.reduceBEq, Nat.reduceAdd, Nat.reduceSub, Nat.reduceMul, Nat.reduceEqDiff, Nat.reduceLeDiff, Nat.reduceLT, qJ, qK, qL, qM, qN, qO, qP, qQ, qR, zI, qS, qC, qT, evSlice0, qV, qW, qX, qY, qZ, zJ, zK, zL, wit, Option.isSome_some, qH, xK, evPre, St.with, zD, Array.size, toldV, isIntV, orArr, offB, effFr, effFr2, effFr3, mapIn, restSame, sameO, eqW, eqWL, pickR, te, einl, inls, efr]
  have p1 : ¬ (60 : Int) < ((bitsN a : Nat) : Int) - ((bitsN b : Nat) : Int) := by omega
  rw [if_neg hs]
  have al := bits_lt a
  have bg := bits_ge h0
  have bl := bits_lt b
  by_cases hneg : bitsN a < bitsN b
  · have p2 : ¬ (0 : Int) ≤ ((bitsN a : Nat) : Int) - ((bitsN b : Nat) : Int) := by omega
    have e0 : a / b = 0 := by
      refine Nat.div_eq_of_lt (Nat.lt_of_lt_of_le al (Nat.le_trans ?_ bg))
      exact Nat.pow_le_pow_right (by decide) (by omega)
    simp (maxSteps := 1000000) (implicitDefEqProofs := false) only [nV, natV, nn, evRegion_st hok, k1, k2, w1, p1, Try.ntmps31, Try.results31, efc31, fc31, ss, sd, zH, qG, zF, zG, St.get, qE, qF, qB, zC, norm, look, zE, qA, qI, St.alloc, St.drop, zA, part, zB, depth, qD, ↓reduceIte, Nat.reduceBEq, Nat.reduceAdd, Nat.reduceSub, Nat.reduceMul, Nat.reduceEqDiff, Nat.reduceLeDiff, Nat.reduceLT, qJ, qK, qL, qM, qN, qO, qP, qQ, qR, zI, qS, qC, qT, evSlice0, qV, qW, qX, qY, qZ, zJ, zK, zL, wit, Option.isSome_some, qH, xK, evPre, St.with, zD, Array.size, toldV, isIntV, orArr, offB, effFr, effFr2, effFr3, mapIn, restSame, sameO, eqW, eqWL, pickR, te, einl, inls, efr]
    generalize hr : loopAt _ _ _ _ _ _ = r; revert r
    refine loop_inv (ι := Unit) (fun _ => []) (fun _ => []) (fun _ => 0) () (by simp (maxSteps := 1000000) (implicitDefEqProofs := false) only [ss, sd, zH, qG, zF, zG, St.get, qE, qF, qB, zC, norm, look, zE, qA, qI, St.alloc, St.drop, zA, part, zB, depth, qD, ↓reduceIte, Nat.reduceBEq, Nat.reduceAdd, Nat.reduceSub, Nat.reduceMul, Nat.reduceEqDiff, Nat.reduceLeDiff, Nat.reduceLT, qJ, qK, qL, qM, qN, qO, qP, qQ, qR, zI, qS, qC, qT, evSlice0, qV, qW, qX, qY, qZ, zJ, zK, zL, wit, Option.isSome_some, qH, xK, evPre, St.with, zD, Array.size, toldV, isIntV, orArr, offB, effFr, effFr2, effFr3, mapIn, restSame, sameO, eqW, eqWL, pickR, te, einl, inls, efr]) ?_
    rintro ⟨⟩
    simp (maxSteps := 1000000) (implicitDefEqProofs := false) only [p2, e0, Try.ntmps31, Try.results31, efc31, fc31, ss, sd, zH, qG, zF, zG, St.get, qE, qF, qB, zC, norm, look, zE, qA, qI, St.alloc, St.drop, zA, part, zB, depth, qD, ↓reduceIte, Nat.reduceBEq, Nat.reduceAdd, Nat.reduceSub, Nat.reduceMul, Nat.reduceEqDiff, Nat.reduceLeDiff, Nat.reduceLT, qJ, qK, qL, qM, qN, qO, qP, qQ, qR, zI, qS, qC, qT, evSlice0, qV, qW, qX, qY, qZ, zJ, zK, zL, wit, Option.isSome_some, qH, xK, evPre, St.with, zD, Array.size, toldV, isIntV, orArr, offB, effFr, effFr2, effFr3, mapIn, restSame, sameO, eqW, eqWL, pickR, te, einl, inls, efr]
  · obtain ⟨s, hsx⟩ : ∃ s, bitsN a = bitsN b + s := ⟨bitsN a - bitsN b, by omega⟩
    have e1 : ((bitsN a : Nat) : Int) - ((bitsN b : Nat) : Int) = dn (s + 1) := by rw [dn_succ, hsx]; omega
    rw [e1] at w1 p1
    have hpow : ∀ t, t ≤ s → b * 2 ^ t < 2 ^ bitsN a := fun t ht => by
      rw [hsx, Nat.pow_add]
      refine Nat.lt_of_le_of_lt (Nat.mul_le_mul_left _ (Nat.pow_le_pow_right (by decide) ht)) ?_
      exact (Nat.mul_lt_mul_right (Nat.two_pow_pos s)).2 bl
    have hbig : ∀ t, t ≤ s → b * 2 ^ t < big := fun t ht => Nat.lt_of_lt_of_le (hpow t ht) (by rw [big_eq]; exact pow_mono (a := bitsN a) (b := 640) z1)
    have hfirst : a < b * 2 ^ (s + 1) := by
      refine Nat.lt_of_lt_of_le al ?_
      have hb1 : bitsN b ≠ 0 := by unfold bitsN; rw [if_neg h0]; omega
      rw [hsx, show bitsN b + s = (bitsN b - 1) + (s + 1) by omega, Nat.pow_add]
      exact Nat.mul_le_mul_right _ bg
    have hqs : ∀ q t r, a = r + q * 2 ^ t * b → q < 2 ^ (s + 1) := fun q t r h => by
      have h1 : q * b ≤ a := by
        rw [h, Nat.mul_right_comm]
        exact Nat.le_trans (Nat.le_mul_of_pos_right _ (Nat.two_pow_pos t)) (Nat.le_add_left _ _)
      have h2 : q * b < 2 ^ (s + 1) * b := by rw [Nat.mul_comm (2 ^ (s + 1))]; exact Nat.lt_of_le_of_lt h1 hfirst
      exact Nat.lt_of_mul_lt_mul_right h2
    have hs61 : 2 ^ (s + 1) ≤ 2 ^ 61 := Nat.pow_le_pow_right (by decide) (by omega)
    simp (maxSteps := 1000000) (implicitDefEqProofs := false) only [nV, natV, nn, evRegion_st hok, k1, k2, w1, p1, e1, Try.ntmps31, Try.results31, efc31, fc31, ss, sd, zH, qG, zF, zG, St.get, qE, qF, qB, zC, norm, look, zE, qA, qI, St.alloc, St.drop, zA, part, zB, depth, qD, ↓reduceIte, Nat.reduceBEq, Nat.reduceAdd, Nat.reduceSub, Nat.reduceMul, Nat.reduceEqDiff, Nat.reduceLeDiff, Nat.reduceLT, qJ, qK, qL, qM, qN, qO, qP, qQ, qR, zI, qS, qC, qT, evSlice0, qV, qW, qX, qY, qZ, zJ, zK, zL, wit, Option.isSome_some, qH, xK, evPre, St.with, zD, Array.size, toldV, isIntV, orArr, offB, effFr, effFr2, effFr3, mapIn, restSame, sameO, eqW, eqWL, pickR, te, einl, inls, efr]
    generalize hr : loopAt _ _ _ _ _ _ = r; revert r
    refine loop_inv (ι := { x : Nat × Nat × Nat // x.1 ≤ s + 1 ∧ a = x.2.1 + x.2.2 * 2 ^ x.1 * b ∧ x.2.1 < b * 2 ^ x.1 }) (fun i => [(6, .int .i64 (dn i.1.1)), (7, .int .i64 ((i.1.2.2 : Nat) : Int))]) (fun i => [(2, natOb (wd i.1.2.1))]) (fun i => i.1.1) ⟨(s + 1, a, 0), Nat.le_refl _, by simp, hfirst⟩ (by simp (maxSteps := 1000000) (implicitDefEqProofs := false) only [natOb, natV, Int.natCast_zero, ss, sd, zH, qG, zF, zG, St.get, qE, qF, qB, zC, norm, look, zE, qA, qI, St.alloc, St.drop, zA, part, zB, depth, qD, ↓reduceIte, Nat.reduceBEq, Nat.reduceAdd, Nat.reduceSub, Nat.reduceMul, Nat.reduceEqDiff, Nat.reduceLeDiff, Nat.reduceLT, qJ, qK, qL, qM, qN, qO, qP, qQ, qR, zI, qS, qC, qT, evSlice0, qV, qW, qX, qY, qZ, zJ, zK, zL, wit, Option.isSome_some, qH, xK, evPre, St.with, zD, Array.size, toldV, isIntV, orArr, offB, effFr, effFr2, effFr3, mapIn, restSame, sameO, eqW, eqWL, pickR, te, einl, inls, efr]) ?_
    rintro ⟨⟨t, r, q⟩, ht, hr, hlt⟩
    dsimp only at ht hr hlt ⊢
    have hq := hqs q t r hr
    cases t with
    | zero =>
      have e2 : a / b = q := by
        simp only [Nat.pow_zero, Nat.mul_one] at hr hlt
        rw [hr, Nat.add_mul_div_right _ _ (by omega), Nat.div_eq_of_lt hlt, Nat.zero_add]
      simp (maxSteps := 1000000) (implicitDefEqProofs := false) only [dn_zero, low_neg, e2, natOb, natV, Try.ntmps31, Try.results31, efc31, fc31, ss, sd, zH, qG, zF, zG, St.get, qE, qF, qB, zC, norm, look, zE, qA, qI, St.alloc, St.drop, zA, part, zB, depth, qD, ↓reduceIte, Nat.reduceBEq, Nat.reduceAdd, Nat.reduceSub, Nat.reduceMul, Nat.reduceEqDiff, Nat.reduceLeDiff, Nat.reduceLT, qJ, qK, qL, qM, qN, qO, qP, qQ, qR, zI, qS, qC, qT, evSlice0, qV, qW, qX, qY, qZ, zJ, zK, zL, wit, Option.isSome_some, qH, xK, evPre, St.with, zD, Array.size, toldV, isIntV, orArr, offB, effFr, effFr2, effFr3, mapIn, restSame, sameO, eqW, eqWL, pickR, te, einl, inls, efr]
    | succ t =>
      have hra : r < big := by omega
      have d1 := c45 b t hb (by omega) (hbig t (by omega))
      have d2 := k43 r (b * 2 ^ t) hra (hbig t (by omega))
      have d4 := cmp_neg r (b * 2 ^ t)
      have q6 : IntKind.i64.wrap ((t : Int) - 1) = dn t := by
        cases t with
        | zero => decide
        | succ t => rw [wrap_in (by omega), dn_succ]; omega
      have m1 : IntKind.i64.wrap ((q : Int) * 2) = ((q * 2 : Nat) : Int) := by rw [wrap_in (by omega)]; omega
      have m2 : IntKind.i64.wrap (((q * 2 : Nat) : Int) + 1) = ((q * 2 + 1 : Nat) : Int) := by rw [wrap_in (by omega)]; omega
      have hsp : q * 2 ^ (t + 1) * b = q * 2 * (2 ^ t * b) := by rw [Nat.pow_succ', ← Nat.mul_assoc, Nat.mul_assoc]
      have hsp2 : b * 2 ^ (t + 1) = b * 2 ^ t + b * 2 ^ t := by rw [Nat.pow_succ, ← Nat.mul_assoc]; omega
      rw [hsp, Nat.mul_comm (2 ^ t)] at hr
      rw [hsp2] at hlt
      by_cases hge : b * 2 ^ t ≤ r
      · have d3 := k44 r (b * 2 ^ t) hra (hbig t (by omega)) hge
        rw [decide_eq_true hge] at d4
        simp only [nV, natV] at d1 d2 d3
        simp (maxSteps := 1000000) (implicitDefEqProofs := false) only [dn_succ, Int.natCast_nonneg, natOb, natV, nn, d1, d2, d3, d4, m1, m2, q6, ss, sd, zH, qG, zF, zG, St.get, qE, qF, qB, zC, norm, look, zE, qA, qI, St.alloc, St.drop, zA, part, zB, depth, qD, ↓reduceIte, Nat.reduceBEq, Nat.reduceAdd, Nat.reduceSub, Nat.reduceMul, Nat.reduceEqDiff, Nat.reduceLeDiff, Nat.reduceLT, qJ, qK, qL, qM, qN, qO, qP, qQ, qR, zI, qS, qC, qT, evSlice0, qV, qW, qX, qY, qZ, zJ, zK, zL, wit, Option.isSome_some, qH, xK, evPre, St.with, zD, Array.size, toldV, isIntV, orArr, offB, effFr, effFr2, effFr3, mapIn, restSame, sameO, eqW, eqWL, pickR, te, einl, inls, efr]
        refine ⟨⟨(t, r - b * 2 ^ t, q * 2 + 1), by dsimp only; omega, ?_, ?_⟩, rfl, Nat.lt_succ_self _⟩
        · dsimp only
          rw [Nat.mul_assoc, Nat.mul_comm (2 ^ t) b, Nat.add_mul, Nat.one_mul]
          omega
        · dsimp only; omega
      · rw [decide_eq_false hge] at d4
        simp only [nV, natV] at d1 d2
        simp (maxSteps := 1000000) (implicitDefEqProofs := false) only [dn_succ, Int.natCast_nonneg, natOb, natV, nn, d1, d2, d4, m1, m2, q6, ss, sd, zH, qG, zF, zG, St.get, qE, qF, qB, zC, norm, look, zE, qA, qI, St.alloc, St.drop, zA, part, zB, depth, qD, ↓reduceIte, Nat.reduceBEq, Nat.reduceAdd, Nat.reduceSub, Nat.reduceMul, Nat.reduceEqDiff, Nat.reduceLeDiff, Nat.reduceLT, qJ, qK, qL, qM, qN, qO, qP, qQ, qR, zI, qS, qC, qT, evSlice0, qV, qW, qX, qY, qZ, zJ, zK, zL, wit, Option.isSome_some, qH, xK, evPre, St.with, zD, Array.size, toldV, isIntV, orArr, offB, effFr, effFr2, effFr3, mapIn, restSame, sameO, eqW, eqWL, pickR, te, einl, inls, efr]
        refine ⟨⟨(t, r, q * 2), by dsimp only; omega, ?_, ?_⟩, rfl, Nat.lt_succ_self _⟩
        · dsimp only
          rw [Nat.mul_assoc (q * 2), Nat.mul_comm (2 ^ t) b]
          exact hr
        · dsimp only; omega
end Go.AM.F

