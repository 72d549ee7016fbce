/-
The operations of the numbers of 640 bits, second part.
-/
import Derived.Test.YteocppddjlglbaaFPrim
import Derived.Test.YteocppddjlglbaaFNatQ
set_option linter.unusedVariables false
set_option linter.unusedSimpArgs false
set_option maxRecDepth 20000

namespace Go.AM.F
open Go Go.AM Go.Proofs

def nV (n : Nat) : V := natV (wd n)
theorem idsL_vW : ∀ l : List Nat, idsL (l.map vW) = []
  | [] => rfl
  | _ :: r => by simp only [List.map_cons, idsL, idsL_vW r]; rfl
theorem take_wd (a : Nat) : List.take 20 ((wd a).map vW) = (wd a).map vW := take_vW (wd_len a)
theorem nn : (∀ j a, killL j ((wd a).map vW) = (wd a).map vW) ∧ (∀ a, xS ((wd a).map vW) = true) ∧ (∀ a, xT ((wd a).map vW) = true) ∧ (∀ b a, xU b ((wd a).map vW) = (wd a).map vW) ∧
    (∀ a, List.take 20 ((wd a).map vW) = (wd a).map vW) ∧ (∀ os a, allM (resolve os 5) ((wd a).map vW) = some ((wd a).map vW)) ∧ (∀ a, (wd a).length = 20) ∧ (∀ a, ((wd a).map vW).length = 20) ∧ (∀ (l : List V) (a : Nat), l ++ List.drop 20 ((wd a).map vW) = l) ∧ (∀ a, idsL ((wd a).map vW) = []) :=
  ⟨fun j a => kill_vW j _, fun a => refFree_vW _, fun a => isNew_vW _, fun b a => retag_vW b _, take_wd, fun os a => resolve_vW os _, wd_len, fun a => by rw [List.length_map, wd_len], fun l a => by rw [List.drop_of_length_le (by rw [List.length_map, wd_len]; exact Nat.le_refl _), List.append_nil], fun a => idsL_vW _⟩
theorem k35 (a n : Nat) (ha : a < big) (hn : n < 4294967296) (h : a * n < big) : (orcω E X0).call 35 [nV a, .int .i64 n] = some (nV (a * n)) := by
  unfold nV
  rw [c35 _ n (wd_len a) (wd_ok a) hn]
  congr 2
  refine wd_eq (by rw [timesW_len, wd_len]) (timesW_ok _ _ _) ?_
  rw [timesW_val _ _ _ (by rw [wd_val ha, wd_len]; exact h), wd_val ha, Nat.add_zero]
theorem k34 (a b : Nat) (ha : a < big) (hb : b < big) (h : a + b < big) : (orcω E X0).call 34 [nV a, nV b] = some (nV (a + b)) := by
  unfold nV
  rw [c34 _ _ (wd_len a) (wd_len b) (wd_ok a) (wd_ok b)]
  congr 2
  refine wd_eq (by rw [plusW_len _ _ _ (by rw [wd_len, wd_len]), wd_len]) (plusW_ok _ _ _) ?_
  rw [plusW_val _ _ _ (by rw [wd_len, wd_len]) (by rw [wd_val ha, wd_val hb, wd_len]; exact h), wd_val ha, wd_val hb, Nat.add_zero]
theorem k33 (n : Nat) (hn : n < 4294967296) : (orcω E X0).call 33 [.int .i64 n] = some (nV n) := by
  rw [c33 n hn]
  unfold nV
  congr 2
  refine wd_eq rfl ?_ ?_
  · intro w hw
    simp only [List.mem_cons, List.mem_replicate] at hw
    omega
  · simp [valW, List.replicate]

theorem shr31 (x : Nat) : ((x : Nat) : Int).fdiv (2 ^ min (Int.toNat 31) IntKind.u32.bits) = ((x / 2147483648 : Nat) : Int) := by
  rw [Int.fdiv_eq_ediv_of_nonneg _ (by decide)]; rfl
theorem le031 : (0 : Int) ≤ 31 := by decide
theorem u32_of {z : Int} {n : Nat} (h : z = n) (hn : n < 4294967296) : IntKind.u32.wrap z = (n : Int) := by rw [h, u32_w]; omega
theorem bits_and (x y : Nat) (hx : x < 4294967296) (hy : y < 4294967296) : bitsI .and .u32 (x : Int) (y : Int) = ((x &&& y : Nat) : Int) := by
  have : x &&& y ≤ x := Nat.and_le_left
  simp only [bitsI]
  refine u32_of ?_ (by omega)
  show ((BitVec.ofInt 32 (x : Int) &&& BitVec.ofInt 32 (y : Int)).toNat : Int) = _
  rw [BitVec.toNat_and, BitVec.ofInt_natCast, BitVec.ofInt_natCast, BitVec.toNat_ofNat, BitVec.toNat_ofNat, Nat.mod_eq_of_lt (by omega), Nat.mod_eq_of_lt (by omega)]
theorem bits_or (x y : Nat) (hx : x < 4294967296) (hy : y < 4294967296) : bitsI .or .u32 (x : Int) (y : Int) = ((x ||| y : Nat) : Int) := by
  have : x ||| y < 2 ^ 32 := Nat.or_lt_two_pow hx hy
  simp only [bitsI]
  refine u32_of ?_ (by omega)
  show ((BitVec.ofInt 32 (x : Int) ||| BitVec.ofInt 32 (y : Int)).toNat : Int) = _
  rw [BitVec.toNat_or, BitVec.ofInt_natCast, BitVec.ofInt_natCast, BitVec.toNat_ofNat, BitVec.toNat_ofNat, Nat.mod_eq_of_lt (by omega), Nat.mod_eq_of_lt (by omega)]
theorem bits_xor (x y : Nat) (hx : x < 4294967296) (hy : y < 4294967296) : bitsI .xor .u32 (x : Int) (y : Int) = ((x ^^^ y : Nat) : Int) := by
  have : x ^^^ y < 2 ^ 32 := Nat.xor_lt_two_pow hx hy
  simp only [bitsI]
  refine u32_of ?_ (by omega)
  show ((BitVec.ofInt 32 (x : Int) ^^^ BitVec.ofInt 32 (y : Int)).toNat : Int) = _
  rw [BitVec.toNat_xor, BitVec.ofInt_natCast, BitVec.ofInt_natCast, BitVec.toNat_ofNat, BitVec.toNat_ofNat, Nat.mod_eq_of_lt (by omega), Nat.mod_eq_of_lt (by omega)]
theorem notW : (if IntKind.u32.signed = true then (-1 : Int) else IntKind.u32.max) = ((4294967295 : Nat) : Int) := by decide

theorem borrow_eq (x y b d : Nat) (hx : x < 4294967296) (hy : y < 4294967296) (hb : b ≤ 1) (hd : d = (x + 4294967296 - (y + b)) % 4294967296) :
    ((((4294967295 ^^^ x) &&& y) ||| ((4294967295 ^^^ (x ^^^ y)) &&& d)) / 2147483648) = if x < y + b then 1 else 0 := by
  have e : ∀ z : Nat, z / 2147483648 = z >>> 31 := fun z => (Nat.shiftRight_eq_div_pow z 31).symm
  rw [e, Nat.shiftRight_or_distrib, Nat.shiftRight_and_distrib, Nat.shiftRight_and_distrib, Nat.shiftRight_xor_distrib, Nat.shiftRight_xor_distrib, Nat.shiftRight_xor_distrib, ← e, ← e, ← e, ← e]
  have hX : x / 2147483648 = 0 ∨ x / 2147483648 = 1 := by omega
  have hY : y / 2147483648 = 0 ∨ y / 2147483648 = 1 := by omega
  have hD : d / 2147483648 = 0 ∨ d / 2147483648 = 1 := by omega
  rcases hX with h1 | h1 <;> rcases hY with h2 | h2 <;> rcases hD with h3 | h3 <;> rw [h1, h2, h3] <;> split <;> first | rfl | (exfalso; omega)

theorem c49 (x y b : Nat) (hx : x < 4294967296) (hy : y < 4294967296) (hb : b ≤ 1) : (orcω E X0).call 49 [.int .u32 x, .int .u32 y, .int .u32 b] = some (.tup [.int .u32 (((x + 4294967296 - (y + b)) % 4294967296 : Nat) : Int), .int .u32 ((if x < y + b then 1 else 0 : Nat) : Int)]) := by
  refine call_of rfl fn49 rfl ?_
  have w1 : IntKind.u32.wrap ((x : Int) - (y : Int)) = (((x + 4294967296 - y) % 4294967296 : Nat) : Int) := by
    simp [IntKind.wrap, IntKind.bits, IntKind.signed]; omega
  have w2 : IntKind.u32.wrap ((((x + 4294967296 - y) % 4294967296 : Nat) : Int) - (b : Int)) = (((x + 4294967296 - (y + b)) % 4294967296 : Nat) : Int) := by
    simp [IntKind.wrap, IntKind.bits, IntKind.signed]; omega
  have hbo := borrow_eq x y b _ hx hy hb rfl
  have hdl : (x + 4294967296 - (y + b)) % 4294967296 < 4294967296 := by omega
  generalize (x + 4294967296 - (y + b)) % 4294967296 = d at *
  have o1 : 4294967295 ^^^ x < 2 ^ 32 := Nat.xor_lt_two_pow (by decide) hx
  have o2 : x ^^^ y < 2 ^ 32 := Nat.xor_lt_two_pow hx hy
  have o3 : 4294967295 ^^^ (x ^^^ y) < 2 ^ 32 := Nat.xor_lt_two_pow (by decide) o2
  have o4 : (4294967295 ^^^ x) &&& y ≤ y := Nat.and_le_right
  have o5 : (4294967295 ^^^ (x ^^^ y)) &&& d ≤ d := Nat.and_le_right
  simp (maxSteps := 1000000) (implicitDefEqProofs := false) only [le031, w1, w2, notW, bits_xor _ _ (show 4294967295 < 4294967296 by decide) hx, bits_and _ _ o1 hy, bits_xor _ _ hx hy, bits_xor _ _ (show 4294967295 < 4294967296 by decide) o2, bits_and _ _ o3 hdl, bits_or _ _ (show (4294967295 ^^^ x) &&& y < 4294967296 by omega) (show (4294967295 ^^^ (x ^^^ y)) &&& d < 4294967296 by omega), shr31, hbo, Try.ntmps49, Try.results49, efc49, ss, sd, zH, qG, zF, zG, St.get, qE, qF, qB, zC, norm, look, zE, qA, qI, St.alloc, St.drop, zA, part, zB, depth, qD, ↓reduceIte, Nat.reduceBEq, Nat.reduceAdd, Nat.reduceSub, Nat.reduceMul, Nat.reduceEqDiff, Nat.reduceLeDiff, Nat.reduceLT, qJ, qK, qL, qM, qN, qO, qP, qQ, qR, zI, qS, qC, qT, evSlice0, qV, qW, qX, qY, qZ, zJ, zK, zL, wit, Option.isSome_some, qH, xK, evPre, St.with, zD, Array.size, toldV, isIntV, orArr, offB, effFr, effFr2, effFr3, mapIn, restSame, sameO, eqW, eqWL, pickR, te, einl, inls, efr]

theorem shr16 (x : Nat) : ((x : Nat) : Int).fdiv (2 ^ min (Int.toNat 16) IntKind.u32.bits) = ((x / 65536 : Nat) : Int) := by
  rw [Int.fdiv_eq_ediv_of_nonneg _ (by decide)]; rfl
theorem shr8 (x : Nat) : ((x : Nat) : Int).fdiv (2 ^ min (Int.toNat 8) IntKind.u32.bits) = ((x / 256 : Nat) : Int) := by
  rw [Int.fdiv_eq_ediv_of_nonneg _ (by decide)]; rfl
theorem le016 : (0 : Int) ≤ 16 := by decide
theorem le08 : (0 : Int) ≤ 8 := by decide
theorem u8_w {w : Nat} (h : w < 256) : IntKind.u8.wrap (w : Int) = w := by
  simp [IntKind.wrap, IntKind.bits, IntKind.signed]; omega
theorem u8_to {w : Nat} (h : w < 256) : ((UInt8.ofNat w).toNat : Int) = w := by simp; omega
theorem bits_small {w : Nat} (h : w < 256) : bitsN w ≤ 8 := by
  rcases Nat.eq_zero_or_pos w with rfl | h0
  · decide
  · have h1 := bits_ge (n := w) (by omega)
    have h2 : 2 ^ (bitsN w - 1) < 2 ^ 8 := by omega
    have := (Nat.pow_lt_pow_iff_right (by decide : 1 < 2)).1 h2
    omega

theorem bits_div {w k : Nat} (h : w / 2 ^ k ≠ 0) : bitsN w = k + bitsN (w / 2 ^ k) := by
  obtain ⟨j, hj⟩ : ∃ j, bitsN (w / 2 ^ k) = j + 1 := ⟨bitsN (w / 2 ^ k) - 1, by unfold bitsN; rw [if_neg h]; omega⟩
  have h1 := bits_lt (w / 2 ^ k)
  have h2 := bits_ge h
  rw [hj] at h1 h2 ⊢
  have hp := Nat.two_pow_pos k
  refine bits_of (k := k + j) ?_ ?_
  · rw [show k + j + 1 = (j + 1) + k by omega, Nat.pow_add]
    exact (Nat.div_lt_iff_lt_mul hp).1 h1
  · rw [Nat.add_comm k j, Nat.pow_add]
    exact (Nat.le_div_iff_mul_le hp).1 h2

theorem len_low (w : Nat) (hw : w < 256) (tab : ByteArray) (ht : ∀ x, x < 256 → tab[x]? = some (UInt8.ofNat (bitsN x))) : (tab[w]?).map (fun b => V.int .u8 (b.toNat : Int)) = some (.int .u8 ((bitsN w : Nat) : Int)) := by
  have := bits_small hw
  rw [ht w hw, Option.map_some, u8_to (by omega)]

set_option maxHeartbeats 4000000 in
theorem c50 (w : Nat) (hw : w < 4294967296) : (orcω E X0).call 50 [.int .u32 w] = some (.int .i64 ((bitsN w : Nat) : Int)) := by
  refine call_of rfl fn50 rfl ?_
  by_cases h1 : w < 65536
  · have q1 : ¬ (65536 : Int) ≤ (w : Int) := by omega
    by_cases h2 : w < 256
    · have q2 : ¬ (256 : Int) ≤ (w : Int) := by omega
      have w1 := u8_w h2
      have w2 : IntKind.i64.wrap ((bitsN w : Nat) : Int) = ((bitsN w : Nat) : Int) := wrap_in (by have := bits_small h2; omega)
      simp (maxSteps := 1000000) (implicitDefEqProofs := false) only [q1, q2, w1, Int.natCast_nonneg, Int.toNat_natCast, Try.ntmps50, Try.results50, efc50, ss, sd, zH, qG, zF, zG, St.get, qE, qF, qB, zC, norm, look, zE, qA, qI, St.alloc, St.drop, zA, part, zB, depth, qD, ↓reduceIte, Nat.reduceBEq, Nat.reduceAdd, Nat.reduceSub, Nat.reduceMul, Nat.reduceEqDiff, Nat.reduceLeDiff, Nat.reduceLT, qJ, qK, qL, qM, qN, qO, qP, qQ, qR, zI, qS, qC, qT, evSlice0, qV, qW, qX, qY, qZ, zJ, zK, zL, wit, Option.isSome_some, qH, xK, evPre, St.with, zD, Array.size, toldV, isIntV, orArr, offB, effFr, effFr2, effFr3, mapIn, restSame, sameO, eqW, eqWL, pickR, te, einl, inls, efr]
      generalize hT : ByteArray.mk _ = tab
      have ht : ∀ x, x < 256 → tab[x]? = some (UInt8.ofNat (bitsN x)) := by rw [← hT]; decide +kernel
      have hl := len_low w h2 tab ht
      simp (maxSteps := 1000000) (implicitDefEqProofs := false) only [hl, w2, Try.ntmps50, Try.results50, efc50, Int.zero_add, ss, sd, zH, qG, zF, zG, St.get, qE, qF, qB, zC, norm, look, zE, qA, qI, St.alloc, St.drop, zA, part, zB, depth, qD, ↓reduceIte, Nat.reduceBEq, Nat.reduceAdd, Nat.reduceSub, Nat.reduceMul, Nat.reduceEqDiff, Nat.reduceLeDiff, Nat.reduceLT, qJ, qK, qL, qM, qN, qO, qP, qQ, qR, zI, qS, qC, qT, evSlice0, qV, qW, qX, qY, qZ, zJ, zK, zL, wit, Option.isSome_some, qH, xK, evPre, St.with, zD, Array.size, toldV, isIntV, orArr, offB, effFr, effFr2, effFr3, mapIn, restSame, sameO, eqW, eqWL, pickR, te, einl, inls, efr]
    · have q2 : (256 : Int) ≤ (w : Int) := by omega
      have h3 : w / 256 < 256 := by omega
      have e1 : bitsN w = 8 + bitsN (w / 256) := bits_div (k := 8) (by omega)
      have w1 := u8_w h3
      have w2 : IntKind.i64.wrap (8 + ((bitsN (w / 256) : Nat) : Int)) = ((bitsN w : Nat) : Int) := by rw [e1, wrap_in (by have := bits_small h3; omega)]; simp
      have w3 : IntKind.i64.wrap 8 = 8 := by decide
      have w4 : IntKind.i64.wrap ((bitsN (w / 256) : Nat) : Int) = ((bitsN (w / 256) : Nat) : Int) := wrap_in (by have := bits_small h3; omega)
      simp (maxSteps := 1000000) (implicitDefEqProofs := false) only [q1, q2, w1, w3, le08, shr8, Int.zero_add, Int.natCast_nonneg, Int.toNat_natCast, Try.ntmps50, Try.results50, efc50, ss, sd, zH, qG, zF, zG, St.get, qE, qF, qB, zC, norm, look, zE, qA, qI, St.alloc, St.drop, zA, part, zB, depth, qD, ↓reduceIte, Nat.reduceBEq, Nat.reduceAdd, Nat.reduceSub, Nat.reduceMul, Nat.reduceEqDiff, Nat.reduceLeDiff, Nat.reduceLT, qJ, qK, qL, qM, qN, qO, qP, qQ, qR, zI, qS, qC, qT, evSlice0, qV, qW, qX, qY, qZ, zJ, zK, zL, wit, Option.isSome_some, qH, xK, evPre, St.with, zD, Array.size, toldV, isIntV, orArr, offB, effFr, effFr2, effFr3, mapIn, restSame, sameO, eqW, eqWL, pickR, te, einl, inls, efr]
      generalize hT : ByteArray.mk _ = tab
      have ht : ∀ x, x < 256 → tab[x]? = some (UInt8.ofNat (bitsN x)) := by rw [← hT]; decide +kernel
      have hl := len_low _ h3 tab ht
      simp (maxSteps := 1000000) (implicitDefEqProofs := false) only [hl, w4, w2, Try.ntmps50, Try.results50, efc50, Int.zero_add, ss, sd, zH, qG, zF, zG, St.get, qE, qF, qB, zC, norm, look, zE, qA, qI, St.alloc, St.drop, zA, part, zB, depth, qD, ↓reduceIte, Nat.reduceBEq, Nat.reduceAdd, Nat.reduceSub, Nat.reduceMul, Nat.reduceEqDiff, Nat.reduceLeDiff, Nat.reduceLT, qJ, qK, qL, qM, qN, qO, qP, qQ, qR, zI, qS, qC, qT, evSlice0, qV, qW, qX, qY, qZ, zJ, zK, zL, wit, Option.isSome_some, qH, xK, evPre, St.with, zD, Array.size, toldV, isIntV, orArr, offB, effFr, effFr2, effFr3, mapIn, restSame, sameO, eqW, eqWL, pickR, te, einl, inls, efr]
  · have q1 : (65536 : Int) ≤ (w : Int) := by omega
    have w3 : IntKind.i64.wrap (16 + 8) = 24 := by decide
    by_cases h2 : w / 65536 < 256
    · have q2 : ¬ (256 : Int) ≤ ((w / 65536 : Nat) : Int) := by omega
      have e1 : bitsN w = 16 + bitsN (w / 65536) := bits_div (k := 16) (by omega)
      have w1 := u8_w h2
      have w2 : IntKind.i64.wrap (16 + ((bitsN (w / 65536) : Nat) : Int)) = ((bitsN w : Nat) : Int) := by rw [e1, wrap_in (by have := bits_small h2; omega)]; simp
      have w4 : IntKind.i64.wrap ((bitsN (w / 65536) : Nat) : Int) = ((bitsN (w / 65536) : Nat) : Int) := wrap_in (by have := bits_small h2; omega)
      simp (maxSteps := 1000000) (implicitDefEqProofs := false) only [q1, q2, w1, le016, shr16, Int.natCast_nonneg, Int.toNat_natCast, Try.ntmps50, Try.results50, efc50, ss, sd, zH, qG, zF, zG, St.get, qE, qF, qB, zC, norm, look, zE, qA, qI, St.alloc, St.drop, zA, part, zB, depth, qD, ↓reduceIte, Nat.reduceBEq, Nat.reduceAdd, Nat.reduceSub, Nat.reduceMul, Nat.reduceEqDiff, Nat.reduceLeDiff, Nat.reduceLT, qJ, qK, qL, qM, qN, qO, qP, qQ, qR, zI, qS, qC, qT, evSlice0, qV, qW, qX, qY, qZ, zJ, zK, zL, wit, Option.isSome_some, qH, xK, evPre, St.with, zD, Array.size, toldV, isIntV, orArr, offB, effFr, effFr2, effFr3, mapIn, restSame, sameO, eqW, eqWL, pickR, te, einl, inls, efr]
      generalize hT : ByteArray.mk _ = tab
      have ht : ∀ x, x < 256 → tab[x]? = some (UInt8.ofNat (bitsN x)) := by rw [← hT]; decide +kernel
      have hl := len_low _ h2 tab ht
      simp (maxSteps := 1000000) (implicitDefEqProofs := false) only [hl, w4, w2, Try.ntmps50, Try.results50, efc50, ss, sd, zH, qG, zF, zG, St.get, qE, qF, qB, zC, norm, look, zE, qA, qI, St.alloc, St.drop, zA, part, zB, depth, qD, ↓reduceIte, Nat.reduceBEq, Nat.reduceAdd, Nat.reduceSub, Nat.reduceMul, Nat.reduceEqDiff, Nat.reduceLeDiff, Nat.reduceLT, qJ, qK, qL, qM, qN, qO, qP, qQ, qR, zI, qS, qC, qT, evSlice0, qV, qW, qX, qY, qZ, zJ, zK, zL, wit, Option.isSome_some, qH, xK, evPre, St.with, zD, Array.size, toldV, isIntV, orArr, offB, effFr, effFr2, effFr3, mapIn, restSame, sameO, eqW, eqWL, pickR, te, einl, inls, efr]
    · have q2 : (256 : Int) ≤ ((w / 65536 : Nat) : Int) := by omega
      have h3 : w / 65536 / 256 < 256 := by omega
      have e0 : bitsN w = 16 + bitsN (w / 65536) := bits_div (k := 16) (by omega)
      have e1 : bitsN (w / 65536) = 8 + bitsN (w / 65536 / 256) := bits_div (k := 8) (by omega)
      have w1 := u8_w h3
      have w2 : IntKind.i64.wrap (24 + ((bitsN (w / 65536 / 256) : Nat) : Int)) = ((bitsN w : Nat) : Int) := by rw [e0, e1, wrap_in (by have := bits_small h3; omega)]; omega
      have w4 : IntKind.i64.wrap ((bitsN (w / 65536 / 256) : Nat) : Int) = ((bitsN (w / 65536 / 256) : Nat) : Int) := wrap_in (by have := bits_small h3; omega)
      simp (maxSteps := 1000000) (implicitDefEqProofs := false) only [q1, q2, w1, w3, le016, shr16, le08, shr8, Int.natCast_nonneg, Int.toNat_natCast, Try.ntmps50, Try.results50, efc50, ss, sd, zH, qG, zF, zG, St.get, qE, qF, qB, zC, norm, look, zE, qA, qI, St.alloc, St.drop, zA, part, zB, depth, qD, ↓reduceIte, Nat.reduceBEq, Nat.reduceAdd, Nat.reduceSub, Nat.reduceMul, Nat.reduceEqDiff, Nat.reduceLeDiff, Nat.reduceLT, qJ, qK, qL, qM, qN, qO, qP, qQ, qR, zI, qS, qC, qT, evSlice0, qV, qW, qX, qY, qZ, zJ, zK, zL, wit, Option.isSome_some, qH, xK, evPre, St.with, zD, Array.size, toldV, isIntV, orArr, offB, effFr, effFr2, effFr3, mapIn, restSame, sameO, eqW, eqWL, pickR, te, einl, inls, efr]
      generalize hT : ByteArray.mk _ = tab
      have ht : ∀ x, x < 256 → tab[x]? = some (UInt8.ofNat (bitsN x)) := by rw [← hT]; decide +kernel
      have hl := len_low _ h3 tab ht
      simp (maxSteps := 1000000) (implicitDefEqProofs := false) only [hl, w4, w2, Try.ntmps50, Try.results50, efc50, ss, sd, zH, qG, zF, zG, St.get, qE, qF, qB, zC, norm, look, zE, qA, qI, St.alloc, St.drop, zA, part, zB, depth, qD, ↓reduceIte, Nat.reduceBEq, Nat.reduceAdd, Nat.reduceSub, Nat.reduceMul, Nat.reduceEqDiff, Nat.reduceLeDiff, Nat.reduceLT, qJ, qK, qL, qM, qN, qO, qP, qQ, qR, zI, qS, qC, qT, evSlice0, qV, qW, qX, qY, qZ, zJ, zK, zL, wit, Option.isSome_some, qH, xK, evPre, St.with, zD, Array.size, toldV, isIntV, orArr, offB, effFr, effFr2, effFr3, mapIn, restSame, sameO, eqW, eqWL, pickR, te, einl, inls, efr]
end Go.AM.F

