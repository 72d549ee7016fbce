/-
Fractions are compared.
-/
import Derived.Test.YtkacpekakpbalaaEBoundB
import Derived.Test.YtkacpekakpbalaaEMixP
set_option linter.unusedVariables false
set_option linter.unusedSimpArgs false
set_option maxRecDepth 20000

namespace Go.AM.E
open Go Go.AM Go.Proofs

def cmpI (a b : Int) : Int := if a < b then -1 else if b < a then 1 else 0
theorem cmpI_pos {a b : Int} : 0 ≤ cmpI a b ↔ b ≤ a := by
  unfold cmpI
  split
  · omega
  · split
    · omega
    · omega
theorem cmpI_neg {a b : Int} : cmpI a b ≤ 0 ↔ a ≤ b := by
  unfold cmpI
  split
  · omega
  · split
    · omega
    · omega
theorem c95 (a : Int) : (orcω E XS).call 95 [.int .i64 a] = some (.bool false) := by
  refine call_of rfl fn95 rfl ?_
  simp (maxSteps := 1000000) (implicitDefEqProofs := false) only [Try.ntmps95, Try.results95, efc95, bne_self_eq_false, ss, sd, evOp, evPlain, evVal, evMem, St.get, sliceOf, arrayOf, fieldsOf, normOf, norm, look, evVar, evFieldAddr, nameOf, St.alloc, St.drop, killOb, part, splice, depth, resultsV, ↓reduceIte, Nat.reduceBEq, Nat.reduceAdd, Nat.reduceSub, Nat.reduceMul, Nat.reduceEqDiff, Nat.reduceLeDiff, Nat.reduceLT, effOf, effMem, effVar, effLit, effMake, effApp, lend, evLit, evNil, freeze, evField, evIndexT, orNil, evSlice, placeOf, evMap, mapOf, keyOk, evFrame, closed, fixed, sameEs, wit, Option.isSome_some, St.with, wantedD, Array.size, te, einl, inls, efr]
theorem c73 (a b : Int) : (orcω E XS).call 73 [.int .i64 a, .int .i64 b] = some (.int .i64 (cmpI a b)) := by
  refine call_of rfl fn73 rfl ?_
  have k1 := c95 a
  have k2 := c95 b
  unfold cmpI
  by_cases h1 : a < b
  · simp (maxSteps := 1000000) (implicitDefEqProofs := false) only [Try.ntmps73, Try.results73, efc73, k1, k2, h1, if_true, ss, sd, evOp, evPlain, evVal, evMem, St.get, sliceOf, arrayOf, fieldsOf, normOf, norm, look, evVar, evFieldAddr, nameOf, St.alloc, St.drop, killOb, part, splice, depth, resultsV, ↓reduceIte, Nat.reduceBEq, Nat.reduceAdd, Nat.reduceSub, Nat.reduceMul, Nat.reduceEqDiff, Nat.reduceLeDiff, Nat.reduceLT, effOf, effMem, effVar, effLit, effMake, effApp, lend, evLit, evNil, freeze, evField, evIndexT, orNil, evSlice, placeOf, evMap, mapOf, keyOk, evFrame, closed, fixed, sameEs, wit, Option.isSome_some, St.with, wantedD, Array.size, te, einl, inls, efr]
  · by_cases h2 : b < a
    · simp (maxSteps := 1000000) (implicitDefEqProofs := false) only [Try.ntmps73, Try.results73, efc73, k1, k2, h1, h2, if_true, if_false, ss, sd, evOp, evPlain, evVal, evMem, St.get, sliceOf, arrayOf, fieldsOf, normOf, norm, look, evVar, evFieldAddr, nameOf, St.alloc, St.drop, killOb, part, splice, depth, resultsV, ↓reduceIte, Nat.reduceBEq, Nat.reduceAdd, Nat.reduceSub, Nat.reduceMul, Nat.reduceEqDiff, Nat.reduceLeDiff, Nat.reduceLT, effOf, effMem, effVar, effLit, effMake, effApp, lend, evLit, evNil, freeze, evField, evIndexT, orNil, evSlice, placeOf, evMap, mapOf, keyOk, evFrame, closed, fixed, sameEs, wit, Option.isSome_some, St.with, wantedD, Array.size, te, einl, inls, efr]
    · simp (maxSteps := 1000000) (implicitDefEqProofs := false) only [Try.ntmps73, Try.results73, efc73, k1, k2, h1, h2, if_false, ss, sd, evOp, evPlain, evVal, evMem, St.get, sliceOf, arrayOf, fieldsOf, normOf, norm, look, evVar, evFieldAddr, nameOf, St.alloc, St.drop, killOb, part, splice, depth, resultsV, ↓reduceIte, Nat.reduceBEq, Nat.reduceAdd, Nat.reduceSub, Nat.reduceMul, Nat.reduceEqDiff, Nat.reduceLeDiff, Nat.reduceLT, effOf, effMem, effVar, effLit, effMake, effApp, lend, evLit, evNil, freeze, evField, evIndexT, orNil, evSlice, placeOf, evMap, mapOf, keyOk, evFrame, closed, fixed, sameEs, wit, Option.isSome_some, St.with, wantedD, Array.size, te, einl, inls, efr]

/-- A fraction in lowest terms within the limits. -/
def Rat' (r : Int × Int) : Prop := (1 ≤ r.2 ∧ r.2 ≤ 1048576) ∧ (-1099511627776 ≤ r.1 ∧ r.1 ≤ 1099511627776) ∧ Nat.gcd r.1.natAbs r.2.natAbs = 1
theorem nat_div_mul {n g : Nat} (hd : g ∣ n) : n / g * g = n := Nat.div_mul_cancel hd
theorem make_ok {n d a b : Int} (hd : 1 ≤ d) (h : makeR n d = (a, b, 0)) : Rat' (a, b) ∧ a * d = n * b := by
  unfold makeR at h
  split at h
  · cases h
  rename_i hb
  have hg : 1 ≤ Nat.gcd n.natAbs d.natAbs := gcd_one (by omega)
  have d1 : Nat.gcd n.natAbs d.natAbs ∣ n.natAbs := Nat.gcd_dvd_left _ _
  have d2 : Nat.gcd n.natAbs d.natAbs ∣ d.natAbs := Nat.gcd_dvd_right _ _
  have m1 := nat_div_mul d1
  have m2 := nat_div_mul d2
  have hco : Nat.gcd (n.natAbs / Nat.gcd n.natAbs d.natAbs) (d.natAbs / Nat.gcd n.natAbs d.natAbs) = 1 := Nat.gcd_div_gcd_div_gcd_of_pos_right (by omega)
  generalize Nat.gcd n.natAbs d.natAbs = g at *
  generalize hA : n.natAbs / g = A at *
  generalize hB : d.natAbs / g = B at *
  have hB1 : 1 ≤ B := by
    rcases Nat.eq_zero_or_pos B with h0 | h0
    · rw [h0, Nat.zero_mul] at m2; omega
    · exact h0
  have e1 : (A : Int) * g = n.natAbs := by exact_mod_cast m1
  have e2 : (B : Int) * g = d := by have : (B : Int) * g = d.natAbs := by exact_mod_cast m2
                                    omega
  obtain ⟨h1, h2⟩ : (if n < 0 then -(A : Int) else (A : Int)) = a ∧ (B : Int) = b := by
    have := Prod.mk.inj h
    exact ⟨this.1, (Prod.mk.inj this.2).1⟩
  subst h2
  have ha : a.natAbs = A := by rw [← h1]; split <;> omega
  refine ⟨⟨by dsimp only; omega, by dsimp only; omega, by dsimp only; rw [ha, Int.natAbs_natCast]; exact hco⟩, ?_⟩
  rw [← e2, Int.mul_comm (B : Int), ← Int.mul_assoc]
  congr 1
  rw [← h1]
  split
  · rw [Int.neg_mul, e1]; omega
  · rw [e1]; omega

theorem okT72 : okCode (Try.f72.body.getD .skip) = true := by decide +kernel
set_option maxRecDepth 20000 in
set_option maxHeartbeats 4000000 in
theorem c72 (a b : Int) (h : Rat' (a, b)) : (orcω E XS).call 72 [.agg [.int .i64 a, .int .i64 b]] = some (.bool true) := by
  refine call_of rfl fn72 rfl ?_
  have hok := okT72
  simp only [Try.f72, Option.getD_some, okCode, Bool.and_eq_true, Bool.and_true, Bool.true_and] at hok
  obtain ⟨⟨h1, h2⟩, ⟨h3, h4⟩, h5⟩ := h
  dsimp only at *
  have k1 := c93 a (by omega)
  have k2 := c93 b (by omega)
  have k3 := k94 a.natAbs b.natAbs
  rw [h5] at k3
  simp (maxSteps := 1000000) (implicitDefEqProofs := false) only [Try.ntmps72, Try.results72, efc72, h1, h2, h3, h4, k1, k2, k3, evRegion_st hok, Int.natCast_one, beq_self_eq_true, ss, sd, evOp, evPlain, evVal, evMem, St.get, sliceOf, arrayOf, fieldsOf, normOf, norm, look, evVar, evFieldAddr, nameOf, St.alloc, St.drop, killOb, part, splice, depth, resultsV, ↓reduceIte, Nat.reduceBEq, Nat.reduceAdd, Nat.reduceSub, Nat.reduceMul, Nat.reduceEqDiff, Nat.reduceLeDiff, Nat.reduceLT, effOf, effMem, effVar, effLit, effMake, effApp, lend, evLit, evNil, freeze, evField, evIndexT, orNil, evSlice, placeOf, evMap, mapOf, keyOk, evFrame, closed, fixed, sameEs, wit, Option.isSome_some, St.with, wantedD, Array.size, te, einl, inls, efr]
set_option maxRecDepth 20000 in
set_option maxHeartbeats 4000000 in
theorem c33 (a b c d : Int) (h : Rat' (a, b)) (h' : Rat' (c, d)) : (orcω E XS).call 33 [.agg [.int .i64 a, .int .i64 b], .agg [.int .i64 c, .int .i64 d]] = some (.tup [.int .i64 (cmpI (a * d) (c * b)), .int .i64 0]) := by
  refine call_of rfl fn33 rfl ?_
  have k1 := c72 a b h
  have k2 := c72 c d h'
  have k3 := c73 (a * d) (c * b)
  obtain ⟨h1, h2, _⟩ := h
  obtain ⟨h3, h4, _⟩ := h'
  dsimp only at *
  have b1 := mul_two (a := d) (A := 1048576) (by omega) h2
  have b2 := mul_two (a := b) (A := 1048576) (by omega) h4
  rw [Int.mul_comm d] at b1
  rw [Int.mul_comm b] at b2
  have w1 : IntKind.i64.wrap (a * d) = a * d := wrap_in (by omega)
  have w2 : IntKind.i64.wrap (c * b) = c * b := wrap_in (by omega)
  simp (maxSteps := 1000000) (implicitDefEqProofs := false) only [Try.ntmps33, Try.results33, efc33, k1, k2, w1, w2, k3, Bool.not_true, ss, sd, evOp, evPlain, evVal, evMem, St.get, sliceOf, arrayOf, fieldsOf, normOf, norm, look, evVar, evFieldAddr, nameOf, St.alloc, St.drop, killOb, part, splice, depth, resultsV, ↓reduceIte, Nat.reduceBEq, Nat.reduceAdd, Nat.reduceSub, Nat.reduceMul, Nat.reduceEqDiff, Nat.reduceLeDiff, Nat.reduceLT, effOf, effMem, effVar, effLit, effMake, effApp, lend, evLit, evNil, freeze, evField, evIndexT, orNil, evSlice, placeOf, evMap, mapOf, keyOk, evFrame, closed, fixed, sameEs, wit, Option.isSome_some, St.with, wantedD, Array.size, te, einl, inls, efr]

/-- If one fraction is at most another one, it is so in lowest terms. -/
theorem make_le {n d m e a b a' b' : Int} (hd : 1 ≤ d) (he : 1 ≤ e) (h1 : makeR n d = (a, b, 0)) (h2 : makeR m e = (a', b', 0)) (h : m * d ≤ n * e) : a' * b ≤ a * b' := by
  obtain ⟨⟨r1, _, _⟩, e1⟩ := make_ok hd h1
  obtain ⟨⟨r2, _, _⟩, e2⟩ := make_ok he h2
  dsimp only at *
  have p : 0 < d * e := Int.mul_pos (by omega) (by omega)
  refine (mul_le_iff p).1 ?_
  have x1 : d * e * (a' * b) = (a' * e) * (d * b) := by simp only [Int.mul_comm, Int.mul_left_comm, Int.mul_assoc]
  have x2 : d * e * (a * b') = (a * d) * (e * b') := by simp only [Int.mul_comm, Int.mul_left_comm, Int.mul_assoc]
  rw [x1, x2, e1, e2]
  have x3 : m * b' * (d * b) = m * d * (b * b') := by simp only [Int.mul_comm, Int.mul_left_comm, Int.mul_assoc]
  have x4 : n * b * (e * b') = n * e * (b * b') := by simp only [Int.mul_comm, Int.mul_left_comm, Int.mul_assoc]
  rw [x3, x4]
  exact Int.mul_le_mul_of_nonneg_right h (Int.mul_nonneg (by omega) (by omega))

/-- The value of prices is at most the cost of amounts. -/
theorem dot_mul (f : Cem → Int) (cs : List Cem) (x : List Int) (m : Int) : ∀ k : Nat, dotTo (fun c => m * f c) cs x k = m * dotTo f cs x k
  | 0 => by simp [dotTo]
  | k + 1 => by
    show dotTo _ cs x k + _ = m * (dotTo f cs x k + _)
    rw [dot_mul f cs x m k, Int.mul_add, Int.mul_assoc]
theorem dot_add (f g : Cem → Int) (cs : List Cem) (x : List Int) : ∀ k : Nat, dotTo (fun c => f c + g c) cs x k = dotTo f cs x k + dotTo g cs x k
  | 0 => by simp [dotTo]
  | k + 1 => by
    show dotTo _ cs x k + _ = dotTo f cs x k + _ + (dotTo g cs x k + _)
    rw [dot_add f g cs x k, Int.add_mul]
    omega
theorem dot_const (m : Int) (cs : List Cem) (x : List Int) : ∀ k : Nat, dotTo (fun _ => m) cs x k = m * sumX x k
  | 0 => by simp [dotTo, sumX]
  | k + 1 => by
    show dotTo _ cs x k + _ = m * (sumX x k + _)
    rw [dot_const m cs x k, Int.mul_add]
theorem weak_val {b : Blend} {x : Amts} {p : Pr} (hu : ∀ n ∈ p.u, 0 ≤ n) (hv : ∀ n ∈ p.v, 0 ≤ n) (hs : sumX x.x b.cs.length = b.tot * x.den) (hk : keptB b x.x x.den = true) :
    ∀ k : Nat, k ≤ b.lo.length → x.den * valTo b p k ≤ dotTo (fun c => gainTo p.y c.ps p.u p.v k) b.cs x.x b.cs.length
  | 0, _ => by
    show x.den * (p.y * b.tot) ≤ dotTo (fun _ => p.y) b.cs x.x b.cs.length
    rw [dot_const, hs, Int.mul_left_comm, Int.mul_comm x.den]
    exact Int.le_refl _
  | k + 1, h => by
    have ih := weak_val hu hv hs hk k (by omega)
    have e1 : dotTo (fun c => gainTo p.y c.ps p.u p.v (k + 1)) b.cs x.x b.cs.length = dotTo (fun c => gainTo p.y c.ps p.u p.v k) b.cs x.x b.cs.length + (p.u.getD k 0 - p.v.getD k 0) * propM b x.x k := by
      unfold propM
      rw [← dot_mul, ← dot_add]
      congr 1
      funext c
      show _ + _ = _ + _
      rw [Int.mul_comm]
    have e2 : x.den * valTo b p (k + 1) = x.den * valTo b p k + (p.u.getD k 0 * (b.lo.getD k 0 * (b.tot * x.den)) - p.v.getD k 0 * (b.hi.getD k 0 * (b.tot * x.den))) := by
      show x.den * (_ + _) = _
      rw [Int.mul_add, Int.mul_sub, Int.mul_sub]
      have f1 : x.den * (b.tot * (b.lo.getD k 0 * p.u.getD k 0)) = p.u.getD k 0 * (b.lo.getD k 0 * (b.tot * x.den)) := by simp only [Int.mul_comm, Int.mul_left_comm, Int.mul_assoc]
      have f2 : x.den * (b.tot * (b.hi.getD k 0 * p.v.getD k 0)) = p.v.getD k 0 * (b.hi.getD k 0 * (b.tot * x.den)) := by simp only [Int.mul_comm, Int.mul_left_comm, Int.mul_assoc]
      rw [f1, f2]
    have nn : ∀ l : List Int, (∀ n ∈ l, 0 ≤ n) → 0 ≤ l.getD k 0 := by
      intro l hl
      rw [List.getD_eq_getElem?_getD]
      cases hkl : l[k]? with
      | none => exact Int.le_refl 0
      | some n => exact hl n (List.mem_of_getElem? hkl)
    have a1 := inBounds_iff.1 (kept_iff.1 hk k (by omega))
    have c1 := Int.mul_le_mul_of_nonneg_left a1.1 (nn p.u hu)
    have c2 := Int.mul_le_mul_of_nonneg_left a1.2 (nn p.v hv)
    rw [e1, e2, Int.sub_mul]
    omega
theorem weak_less {b : Blend} {x : Amts} {p : Pr} {d : Int} (hx : ∀ n ∈ x.x, 0 ≤ n) (hw : ∀ n ∈ p.w, 0 ≤ n) (hst : Stocked b x) (hg : ∀ i, i < b.cs.length → gainAt b p i ≤ d * coAt b i) (v0 : Int) :
    ∀ k : Nat, k ≤ b.cs.length → x.den * lessTo b p v0 k + dotTo (fun c => gainM c.ps p) b.cs x.x k ≤ x.den * v0 + d * dotTo (·.co) b.cs x.x k
  | 0, _ => by simp [lessTo, dotTo]
  | k + 1, h => by
    have ih := weak_less hx hw hst hg v0 k (by omega)
    have nn : ∀ l : List Int, (∀ n ∈ l, 0 ≤ n) → 0 ≤ l.getD k 0 := by
      intro l hl
      rw [List.getD_eq_getElem?_getD]
      cases hkl : l[k]? with
      | none => exact Int.le_refl 0
      | some n => exact hl n (List.mem_of_getElem? hkl)
    have x0 := nn x.x hx
    have w0 := nn p.w hw
    have s0 := hst k (by omega)
    have g0 := hg k (by omega)
    have c1 := Int.mul_le_mul_of_nonneg_left (show x.x.getD k 0 ≤ stAt b k * x.den by omega) w0
    have c2 := Int.mul_le_mul_of_nonneg_right g0 x0
    show x.den * (lessTo b p v0 k - stAt b k * p.w.getD k 0) + (dotTo (fun c => gainM c.ps p) b.cs x.x k + gainM (psAt b k) p * x.x.getD k 0) ≤ x.den * v0 + d * (dotTo (·.co) b.cs x.x k + coAt b k * x.x.getD k 0)
    unfold gainAt at c2
    rw [Int.mul_sub, Int.mul_add, ← Int.mul_assoc d]
    rw [Int.sub_mul] at c2
    have f1 : x.den * (stAt b k * p.w.getD k 0) = p.w.getD k 0 * (stAt b k * x.den) := by simp only [Int.mul_comm, Int.mul_left_comm, Int.mul_assoc]
    rw [f1]
    omega
theorem weak_all {b : Blend} {x : Amts} {p : Pr} {d : Int} (hb : Valid b) (hu : ∀ n ∈ p.u, 0 ≤ n) (hv : ∀ n ∈ p.v, 0 ≤ n) (hw : ∀ n ∈ p.w, 0 ≤ n) (hx : checkE b x = 0) (hg : ∀ i, i < b.cs.length → gainAt b p i ≤ d * coAt b i) :
    x.den * valueM b p ≤ d * costM b x.x := by
  obtain ⟨_, rx, bx⟩ := checkE_zero hx
  obtain ⟨sx, tx, kx⟩ := brokenE_zero bx
  have h1 := weak_val hu hv tx kx b.lo.length (Nat.le_refl _)
  have h2 := weak_less (fun n hn => (rx.2.2 n hn).1) hw sx hg (valTo b p b.lo.length) b.cs.length (Nat.le_refl _)
  have e1 : ∀ k, k ≤ b.cs.length → dotTo (fun c => gainTo p.y c.ps p.u p.v b.lo.length) b.cs x.x k = dotTo (fun c => gainM c.ps p) b.cs x.x k := by
    intro k
    induction k with
    | zero => intro _; rfl
    | succ k ih =>
      intro hk
      have hc : b.cs[k]? = some b.cs[k] := List.getElem?_eq_getElem (by omega)
      have hl := (cemOk_iff.1 (hb.2.2.2.2.2.2.2 _ (List.mem_of_getElem? hc))).2.2.1
      show dotTo _ b.cs x.x k + gainTo p.y (b.cs.getD k cem0).ps p.u p.v b.lo.length * _ = dotTo _ b.cs x.x k + gainM (b.cs.getD k cem0).ps p * _
      rw [ih (by omega)]
      unfold gainM
      rw [show (b.cs.getD k cem0).ps.length = b.lo.length by rw [List.getD_eq_getElem?_getD, hc]; exact hl]
  rw [e1 _ (Nat.le_refl _)] at h1
  unfold valueM costM
  omega
end Go.AM.E
