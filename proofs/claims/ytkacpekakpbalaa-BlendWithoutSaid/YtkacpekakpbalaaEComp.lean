/-
Fractions are compared.
-/
import Derived.Test.YtkacpekakpbalaaEBoundB
import Derived.Test.YtkacpekakpbalaaEMixP
set_option linter.unusedVariables false
set_option linter.unusedSimpArgs false
set_option maxRecDepth 20000

namespace Go.AM.E
open Go Go.AM Go.Proofs

def cmpI (a b : Int) : Int := if a < b then -1 else if b < a then 1 else 0
theorem cmpI_neg {a b : Int} : cmpI a b ≤ 0 ↔ a ≤ b := by
  unfold cmpI
  split
  · omega
  · split
    · omega
    · omega
theorem c95 (a : Int) : (orcω E XS).call 95 [.int .i64 a] = some (.bool false) := by
  refine call_of rfl fn95 rfl ?_
  simp (maxSteps := 1000000) (implicitDefEqProofs := false) only [Try.ntmps95, Try.results95, efc95, bne_self_eq_false, ss, sd, zI, qG, zG, zH, St.get, qE, qF, qB, zD, norm, look, zF, qA, qI, St.alloc, St.drop, zA, part, zC, depth, qD, ↓reduceIte, Nat.reduceBEq, Nat.reduceAdd, Nat.reduceSub, Nat.reduceMul, Nat.reduceEqDiff, Nat.reduceLeDiff, Nat.reduceLT, qJ, qK, qL, qM, qN, qO, qP, qQ, qR, zJ, qS, qC, qT, evSlice0, qV, qW, qX, qY, qZ, zK, fixed, zL, wit, Option.isSome_some, qH, evSliceP, evPre, St.with, zE, Array.size, te, einl, inls, efr]
theorem c73 (a b : Int) : (orcω E XS).call 73 [.int .i64 a, .int .i64 b] = some (.int .i64 (cmpI a b)) := by
  refine call_of rfl fn73 rfl ?_
  have k1 := c95 a
  have k2 := c95 b
  unfold cmpI
  by_cases h1 : a < b
  · simp (maxSteps := 1000000) (implicitDefEqProofs := false) only [Try.ntmps73, Try.results73, efc73, k1, k2, h1, if_true, ss, sd, zI, qG, zG, zH, St.get, qE, qF, qB, zD, norm, look, zF, qA, qI, St.alloc, St.drop, zA, part, zC, depth, qD, ↓reduceIte, Nat.reduceBEq, Nat.reduceAdd, Nat.reduceSub, Nat.reduceMul, Nat.reduceEqDiff, Nat.reduceLeDiff, Nat.reduceLT, qJ, qK, qL, qM, qN, qO, qP, qQ, qR, zJ, qS, qC, qT, evSlice0, qV, qW, qX, qY, qZ, zK, fixed, zL, wit, Option.isSome_some, qH, evSliceP, evPre, St.with, zE, Array.size, te, einl, inls, efr]
  · by_cases h2 : b < a
    · simp (maxSteps := 1000000) (implicitDefEqProofs := false) only [Try.ntmps73, Try.results73, efc73, k1, k2, h1, h2, if_true, if_false, ss, sd, zI, qG, zG, zH, St.get, qE, qF, qB, zD, norm, look, zF, qA, qI, St.alloc, St.drop, zA, part, zC, depth, qD, ↓reduceIte, Nat.reduceBEq, Nat.reduceAdd, Nat.reduceSub, Nat.reduceMul, Nat.reduceEqDiff, Nat.reduceLeDiff, Nat.reduceLT, qJ, qK, qL, qM, qN, qO, qP, qQ, qR, zJ, qS, qC, qT, evSlice0, qV, qW, qX, qY, qZ, zK, fixed, zL, wit, Option.isSome_some, qH, evSliceP, evPre, St.with, zE, Array.size, te, einl, inls, efr]
    · simp (maxSteps := 1000000) (implicitDefEqProofs := false) only [Try.ntmps73, Try.results73, efc73, k1, k2, h1, h2, if_false, ss, sd, zI, qG, zG, zH, St.get, qE, qF, qB, zD, norm, look, zF, qA, qI, St.alloc, St.drop, zA, part, zC, depth, qD, ↓reduceIte, Nat.reduceBEq, Nat.reduceAdd, Nat.reduceSub, Nat.reduceMul, Nat.reduceEqDiff, Nat.reduceLeDiff, Nat.reduceLT, qJ, qK, qL, qM, qN, qO, qP, qQ, qR, zJ, qS, qC, qT, evSlice0, qV, qW, qX, qY, qZ, zK, fixed, zL, wit, Option.isSome_some, qH, evSliceP, evPre, St.with, zE, Array.size, te, einl, inls, efr]

def Rat' (r : Int × Int) : Prop := (1 ≤ r.2 ∧ r.2 ≤ 1048576) ∧ (-1099511627776 ≤ r.1 ∧ r.1 ≤ 1099511627776) ∧ Nat.gcd r.1.natAbs r.2.natAbs = 1
theorem nat_div_mul {n g : Nat} (hd : g ∣ n) : n / g * g = n := Nat.div_mul_cancel hd
theorem make_ok {n d a b : Int} (hd : 1 ≤ d) (h : makeR n d = (a, b, 0)) : Rat' (a, b) ∧ a * d = n * b := by
  unfold makeR at h
  split at h
  · cases h
  rename_i hb
  have hg : 1 ≤ Nat.gcd n.natAbs d.natAbs := gcd_one (by omega)
  have d1 : Nat.gcd n.natAbs d.natAbs ∣ n.natAbs := Nat.gcd_dvd_left _ _
  have d2 : Nat.gcd n.natAbs d.natAbs ∣ d.natAbs := Nat.gcd_dvd_right _ _
  have m1 := nat_div_mul d1
  have m2 := nat_div_mul d2
  have hco : Nat.gcd (n.natAbs / Nat.gcd n.natAbs d.natAbs) (d.natAbs / Nat.gcd n.natAbs d.natAbs) = 1 := Nat.gcd_div_gcd_div_gcd_of_pos_right (by omega)
  generalize Nat.gcd n.natAbs d.natAbs = g at *
  generalize hA : n.natAbs / g = A at *
  generalize hB : d.natAbs / g = B at *
  have hB1 : 1 ≤ B := by
    rcases Nat.eq_zero_or_pos B with h0 | h0
    · rw [h0, Nat.zero_mul] at m2; omega
    · exact h0
  have e1 : (A : Int) * g = n.natAbs := by exact_mod_cast m1
  have e2 : (B : Int) * g = d := by have : (B : Int) * g = d.natAbs := by exact_mod_cast m2
                                    omega
  obtain ⟨h1, h2⟩ : (if n < 0 then -(A : Int) else (A : Int)) = a ∧ (B : Int) = b := by
    have := Prod.mk.inj h
    exact ⟨this.1, (Prod.mk.inj this.2).1⟩
  subst h2
  have ha : a.natAbs = A := by rw [← h1]; split <;> omega
  refine ⟨⟨by dsimp only; omega, by dsimp only; omega, by dsimp only; rw [ha, Int.natAbs_natCast]; exact hco⟩, ?_⟩
  rw [← e2, Int.mul_comm (B : Int), ← Int.mul_assoc]
  congr 1
  rw [← h1]
  split
  · rw [Int.neg_mul, e1]; omega
  · rw [e1]; omega

theorem okT72 : okCode (Try.f72.body.getD .skip) = true := by decide +kernel
set_option maxRecDepth 20000 in
set_option maxHeartbeats 4000000 in
theorem c72 (a b : Int) (h : Rat' (a, b)) : (orcω E XS).call 72 [.agg [.int .i64 a, .int .i64 b]] = some (.bool true) := by
  refine call_of rfl fn72 rfl ?_
  have hok := okT72
  simp only [Try.f72, Option.getD_some, okCode, Bool.and_eq_true, Bool.and_true, Bool.true_and] at hok
  obtain ⟨⟨h1, h2⟩, ⟨h3, h4⟩, h5⟩ := h
  dsimp only at *
  have k1 := c93 a (by omega)
  have k2 := c93 b (by omega)
  have k3 := k94 a.natAbs b.natAbs
  rw [h5] at k3
  simp (maxSteps := 1000000) (implicitDefEqProofs := false) only [Try.ntmps72, Try.results72, efc72, h1, h2, h3, h4, k1, k2, k3, evRegion_st hok, Int.natCast_one, beq_self_eq_true, ss, sd, zI, qG, zG, zH, St.get, qE, qF, qB, zD, norm, look, zF, qA, qI, St.alloc, St.drop, zA, part, zC, depth, qD, ↓reduceIte, Nat.reduceBEq, Nat.reduceAdd, Nat.reduceSub, Nat.reduceMul, Nat.reduceEqDiff, Nat.reduceLeDiff, Nat.reduceLT, qJ, qK, qL, qM, qN, qO, qP, qQ, qR, zJ, qS, qC, qT, evSlice0, qV, qW, qX, qY, qZ, zK, fixed, zL, wit, Option.isSome_some, qH, evSliceP, evPre, St.with, zE, Array.size, te, einl, inls, efr]
set_option maxRecDepth 20000 in
set_option maxHeartbeats 4000000 in
theorem c33 (a b c d : Int) (h : Rat' (a, b)) (h' : Rat' (c, d)) : (orcω E XS).call 33 [.agg [.int .i64 a, .int .i64 b], .agg [.int .i64 c, .int .i64 d]] = some (.tup [.int .i64 (cmpI (a * d) (c * b)), .int .i64 0]) := by
  refine call_of rfl fn33 rfl ?_
  have k1 := c72 a b h
  have k2 := c72 c d h'
  have k3 := c73 (a * d) (c * b)
  obtain ⟨h1, h2, _⟩ := h
  obtain ⟨h3, h4, _⟩ := h'
  dsimp only at *
  have b1 := mul_two (a := d) (A := 1048576) (by omega) h2
  have b2 := mul_two (a := b) (A := 1048576) (by omega) h4
  rw [Int.mul_comm d] at b1
  rw [Int.mul_comm b] at b2
  have w1 : IntKind.i64.wrap (a * d) = a * d := wrap_in (by omega)
  have w2 : IntKind.i64.wrap (c * b) = c * b := wrap_in (by omega)
  simp (maxSteps := 1000000) (implicitDefEqProofs := false) only [Try.ntmps33, Try.results33, efc33, k1, k2, w1, w2, k3, Bool.not_true, ss, sd, zI, qG, zG, zH, St.get, qE, qF, qB, zD, norm, look, zF, qA, qI, St.alloc, St.drop, zA, part, zC, depth, qD, ↓reduceIte, Nat.reduceBEq, Nat.reduceAdd, Nat.reduceSub, Nat.reduceMul, Nat.reduceEqDiff, Nat.reduceLeDiff, Nat.reduceLT, qJ, qK, qL, qM, qN, qO, qP, qQ, qR, zJ, qS, qC, qT, evSlice0, qV, qW, qX, qY, qZ, zK, fixed, zL, wit, Option.isSome_some, qH, evSliceP, evPre, St.with, zE, Array.size, te, einl, inls, efr]

theorem make_le {n d m e a b a' b' : Int} (hd : 1 ≤ d) (he : 1 ≤ e) (h1 : makeR n d = (a, b, 0)) (h2 : makeR m e = (a', b', 0)) (h : m * d ≤ n * e) : a' * b ≤ a * b' := by
  obtain ⟨⟨r1, _, _⟩, e1⟩ := make_ok hd h1
  obtain ⟨⟨r2, _, _⟩, e2⟩ := make_ok he h2
  dsimp only at *
  have p : 0 < d * e := Int.mul_pos (by omega) (by omega)
  refine (mul_le_iff p).1 ?_
  have x1 : d * e * (a' * b) = (a' * e) * (d * b) := by simp only [Int.mul_comm, Int.mul_left_comm, Int.mul_assoc]
  have x2 : d * e * (a * b') = (a * d) * (e * b') := by simp only [Int.mul_comm, Int.mul_left_comm, Int.mul_assoc]
  rw [x1, x2, e1, e2]
  have x3 : m * b' * (d * b) = m * d * (b * b') := by simp only [Int.mul_comm, Int.mul_left_comm, Int.mul_assoc]
  have x4 : n * b * (e * b') = n * e * (b * b') := by simp only [Int.mul_comm, Int.mul_left_comm, Int.mul_assoc]
  rw [x3, x4]
  exact Int.mul_le_mul_of_nonneg_right h (Int.mul_nonneg (by omega) (by omega))

theorem dot_add (f g : Cem → Int) (cs : List Cem) (x : List Int) : ∀ k : Nat, dotTo (fun c => f c + g c) cs x k = dotTo f cs x k + dotTo g cs x k
  | 0 => by simp [dotTo]
  | k + 1 => by
    show dotTo _ cs x k + _ = dotTo f cs x k + _ + (dotTo g cs x k + _)
    rw [dot_add f g cs x k, Int.add_mul]
    omega
end Go.AM.E

