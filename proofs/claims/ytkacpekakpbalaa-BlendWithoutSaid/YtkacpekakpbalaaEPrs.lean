/-
Prices of weights (blend).
-/
import Derived.Test.YtkacpekakpbalaaEBs
import Derived.Test.YtkacpekakpbalaaEPrimP
import Derived.Test.YtkacpekakpbalaaAmBad
set_option linter.unusedVariables false
set_option linter.unusedSimpArgs false
set_option maxRecDepth 20000

namespace Go.AM.E
open Go Go.AM Go.Proofs

def fnL (f : Nat → Int) (n : Nat) : List V := (List.range n).map fun i => .int .i64 (f i)
theorem fn_len (f : Nat → Int) (n : Nat) : (fnL f n).length = n := by simp [fnL]
theorem fn_get {f : Nat → Int} {n i : Nat} (h : i < n) : (fnL f n)[i]? = some (.int .i64 (f i)) := by
  unfold fnL; rw [List.getElem?_map, List.getElem?_range h]; rfl
theorem fn_set {f : Nat → Int} {n i : Nat} {x : Int} (_ : i < n) : (fnL f n).set i (.int .i64 x) = fnL (updF f i x) n := by
  apply List.ext_getElem?
  intro j
  unfold fnL updF
  rw [List.getElem?_set]
  by_cases hj : i = j
  · subst hj
    rw [if_pos rfl]
    by_cases hn : i < n
    · simp [hn]
    · simp [hn]
  · rw [if_neg hj]
    by_cases hn : j < n
    · simp [hn]
      intro e
      exact absurd e.symm hj
    · simp [hn]
theorem fn_take {f : Nat → Int} {n : Nat} : (fnL f n).take n = fnL f n := List.take_of_length_le (by rw [fn_len]; exact Nat.le_refl _)
theorem fn_zero (n : Nat) : List.replicate n (V.int .i64 0) = fnL (fun _ => 0) n := by
  unfold fnL; rw [List.map_const']; simp
theorem fn_congr {f g : Nat → Int} {n : Nat} (h : ∀ i, i < n → f i = g i) : fnL f n = fnL g n := by
  unfold fnL
  exact List.map_congr_left fun i hi => by rw [h i (List.mem_range.1 hi)]
theorem map_vI (f : Nat → Int) (n : Nat) : ((List.range n).map f).map vI = fnL f n := by unfold fnL; rw [List.map_map]; rfl
def encPrT (p : Pr) : V := .agg [.int .i64 p.den, .int .i64 p.y, .sl true (p.u.map vI), .sl true (p.v.map vI), .sl true (p.w.map vI)]
def arrO (f : Nat → Int) (n : Nat) : Ob := { es := 1, flat := true, t := true, app := true, elems := fnL f n }
def part0 (f : Nat → Int) (i k : Nat) : Int := if k < i then f k else 0
theorem part_upd (f : Nat → Int) (i : Nat) : updF (part0 f i) i (f i) = part0 f (i + 1) := by
  funext k; unfold updF part0
  by_cases h : k = i
  · rw [if_pos h, if_pos (by omega), h]
  · rw [if_neg h]
    by_cases h2 : k < i
    · rw [if_pos h2, if_pos (by omega)]
    · rw [if_neg h2, if_neg (by omega)]
theorem part_skip {f : Nat → Int} {i : Nat} (h : f i = 0) : part0 f (i + 1) = part0 f i := by
  funext k; unfold part0
  by_cases h1 : k = i
  · rw [if_pos (by omega), if_neg (by omega), h1, h]
  · by_cases h2 : k < i
    · rw [if_pos (by omega), if_pos h2]
    · rw [if_neg (by omega), if_neg h2]
theorem part_zero (f : Nat → Int) : part0 f 0 = fun _ => 0 := by funext k; unfold part0; rw [if_neg (by omega)]
theorem part_all (f : Nat → Int) (n : Nat) : fnL (part0 f n) n = fnL f n := fn_congr fun i hi => by unfold part0; rw [if_pos hi]
theorem inf90 : (drawn (Try.f90.body.getD .skip)).map infosOf = [[([], false), ([], false), ([], false), ([], false), ([], false), ([], false), ([], false), ([2, 3], false), ([], false), ([7], false), ([], false), ([2, 3, 5, 7], false), ([], false), ([7, 11], false), ([], false), ([2, 3, 5, 7, 9, 11], false), ([], false), ([2, 3, 5, 7, 9, 11, 13, 15], false), ([], true)], [([], false), ([], false), ([], false), ([], false), ([], false), ([], false), ([], false), ([], false), ([], false), ([], false), ([], false), ([], false), ([], false), ([], false), ([], false), ([], false), ([], false), ([], false), ([], false), ([], false), ([4], false), ([], true), ([], true)], [([], false), ([], false), ([], false), ([], false), ([], false), ([], false), ([], false), ([], false), ([], false), ([], true), ([], true)]] := by decide +kernel
theorem okD90 : (drawn (Try.f90.body.getD .skip)).all okBad = true := by decide +kernel
set_option maxRecDepth 20000 in
set_option maxHeartbeats 16000000 in
theorem c90 (b : Blend) (hb : Valid b) (w : Nat → Int) (den : Int) (c : Bool) (hd : 1 ≤ den ∧ den ≤ 1048576) (hw : ∀ r, -1099511627776 ≤ w r ∧ w r ≤ 1099511627776) :
    (orcω E XS).call 90 [encBlend b, .sl false (fnL w (b.lo.length + 1)), .int .i64 den, .bool c] = some (encPrT (pricesM b w den c)) := by
  refine call_of rfl fn90 rfl ?_
  have hi := inf90
  have ho := okD90
  simp only [Try.f90, Option.getD_some, drawn, List.map_cons, List.map_nil, List.nil_append, List.append_nil, List.cons_append, List.cons.injEq, and_true] at hi
  simp only [Try.f90, Option.getD_some, drawn, List.nil_append, List.append_nil, List.cons_append, List.all_cons, List.all_nil, Bool.and_true, Bool.and_eq_true] at ho
  obtain ⟨hi1, hi2, hi3⟩ := hi
  obtain ⟨ho1, ho2, ho3⟩ := ho
  have hn := hb.2.1.2
  have hm := hb.2.2.1
  have hT := hb.1
  have g0 : (fnL w (b.lo.length + 1))[0]? = some (.int .i64 (w 0)) := fn_get (by omega)
  have gk : ∀ k, k < b.lo.length → (fnL w (b.lo.length + 1))[k + 1]? = some (.int .i64 (w (k + 1))) := fun k hk => fn_get (by omega)
  have lw : (fnL w (b.lo.length + 1)).length = b.lo.length + 1 := fn_len _ _
  have ro1 : roomy b.lo.length 8 = true := by simp [roomy]; omega
  have ro2 : roomy b.cs.length 8 = true := by simp [roomy]; omega
  -- the gain at a cement, by prices whose last list is not filled yet
  have hgain : ∀ (i : Nat) (c1 : Cem) (l : List Int), b.cs[i]? = some c1 → (orcω E XS).call 68 [encCem c1, encPr ⟨den, w 0, (List.range b.lo.length).map fun k => max 0 (w (k + 1)), (List.range b.lo.length).map fun k => max 0 (-w (k + 1)), l⟩] = some (.int .i64 (dotI w b i)) ∧ c1.co = coAt b i ∧ (0 ≤ c1.co ∧ c1.co ≤ 1000) ∧ -70000000000000 ≤ dotI w b i ∧ dotI w b i ≤ 70000000000000 := by
    intro i c1 l hc1
    have hi := (List.getElem?_eq_some_iff.1 hc1).1
    have hok := cem_at hb hi
    have ep := psAt_some hc1
    have ec := coAt_some hc1
    have hu : ∀ n ∈ (List.range b.lo.length).map fun k => max 0 (w (k + 1)), 0 ≤ n ∧ n ≤ 1099511627776 := by
      intro n hn
      obtain ⟨k, _, rfl⟩ := List.mem_map.1 hn
      have := hw (k + 1)
      omega
    have hv : ∀ n ∈ (List.range b.lo.length).map fun k => max 0 (-w (k + 1)), 0 ≤ n ∧ n ≤ 1099511627776 := by
      intro n hn
      obtain ⟨k, _, rfl⟩ := List.mem_map.1 hn
      have := hw (k + 1)
      omega
    have hp : ∀ n ∈ c1.ps, 0 ≤ n ∧ n ≤ 20 := by rw [← ep]; exact hok.2.2.2
    have hl : c1.ps.length = b.lo.length := by rw [← ep]; exact hok.2.2.1
    have h0 := hw 0
    have h1 := c68 c1 ⟨den, w 0, (List.range b.lo.length).map fun k => max 0 (w (k + 1)), (List.range b.lo.length).map fun k => max 0 (-w (k + 1)), l⟩ (by dsimp only; omega) hp (by omega) hu hv (by simp [hl]) (by simp [hl])
    have h2 := gain_pr hb w den c hi
    rw [ep] at h2
    have h3 : gainM c1.ps ⟨den, w 0, (List.range b.lo.length).map fun k => max 0 (w (k + 1)), (List.range b.lo.length).map fun k => max 0 (-w (k + 1)), l⟩ = dotI w b i := h2
    rw [h3] at h1
    have h4 := gain_in (y0 := w 0) (by omega) hp hu hv (by simp [hl]) (by simp [hl]) c1.ps.length (Nat.le_refl _)
    have h5 : gainTo (w 0) c1.ps ((List.range b.lo.length).map fun k => max 0 (w (k + 1))) ((List.range b.lo.length).map fun k => max 0 (-w (k + 1))) c1.ps.length = dotI w b i := h2
    rw [h5] at h4
    exact ⟨h1, ec.symm, by rw [← ec]; exact hok.2.1, by omega, by omega⟩
  have hres : encPrT (pricesM b w den c) = .agg [.int .i64 den, .int .i64 (w 0), .sl true (fnL (fun k => max 0 (w (k + 1))) b.lo.length), .sl true (fnL (fun k => max 0 (-w (k + 1))) b.lo.length), .sl true (fnL (fun i => max 0 (dotI w b i - if c = true then den * coAt b i else 0)) b.cs.length)] := by
    unfold encPrT pricesM
    rw [map_vI, map_vI, map_vI]
  rw [hres]
  unfold encPr at hgain
  simp only [map_vI] at hgain
  generalize fnL w (b.lo.length + 1) = W at *
  generalize coAt b = cA at *
  generalize dotI w b = dW at *
  obtain ⟨tot, cs, lo, up⟩ := b
  unfold encBlend
  dsimp only at *
  have p1 : (0 : Int) < ((lo.length + 1 : Nat) : Int) := by omega
  have p2 : (lo.length : Int) ≤ 4294967296 := by omega
  have p3 : (cs.length : Int) ≤ 4294967296 := by omega
  have z0 : part0 (fun k => max 0 (w (k + 1))) 0 = fun _ => 0 := part_zero _
  have z1 : part0 (fun k => max 0 (-w (k + 1))) 0 = fun _ => 0 := part_zero _
  have a1 := part_all (fun k => max 0 (w (k + 1))) lo.length
  have a2 := part_all (fun k => max 0 (-w (k + 1))) lo.length
  have u1 : ∀ i, i < lo.length → (fnL (part0 (fun k => max 0 (w (k + 1))) i) lo.length).set i (.int .i64 (max 0 (w (i + 1)))) = fnL (part0 (fun k => max 0 (w (k + 1))) (i + 1)) lo.length := fun i hi => by rw [fn_set hi, ← part_upd]
  have u2 : ∀ i, i < lo.length → (fnL (part0 (fun k => max 0 (-w (k + 1))) i) lo.length).set i (.int .i64 (max 0 (-w (i + 1)))) = fnL (part0 (fun k => max 0 (-w (k + 1))) (i + 1)) lo.length := fun i hi => by rw [fn_set hi, ← part_upd]
  generalize part0 (fun k => max 0 (w (k + 1))) = pu at *
  generalize part0 (fun k => max 0 (-w (k + 1))) = pv at *
  simp (maxSteps := 1000000) (implicitDefEqProofs := false) only [Try.ntmps90, Try.results90, efc90, fc90, g0, lw, p1, p2, p3, ro1, ro2, regT ho1 hi1, evBT_nil, evBT_cons, effT_true, effT_false, effT2_some, effT2_none, calmT, free, Eff.writes, supp, isBar, Option.toList_some, Option.toList_none, fn_zero, Int.le_refl, Int.toNat_zero, Int.natCast_nonneg, Int.toNat_natCast, List.length_map, ss, sd, zI, qG, zG, zH, St.get, qE, qF, qB, zD, norm, look, zF, qA, qI, St.alloc, St.drop, zA, part, zC, depth, qD, ↓reduceIte, Nat.reduceBEq, Nat.reduceAdd, Nat.reduceSub, Nat.reduceMul, Nat.reduceEqDiff, Nat.reduceLeDiff, Nat.reduceLT, qJ, qK, qL, qM, qN, qO, qP, qQ, qR, zJ, qS, qC, qT, evSlice0, qV, qW, qX, qY, qZ, zK, fixed, zL, wit, Option.isSome_some, qH, evSliceP, evPre, St.with, zE, Array.size, te, einl, inls, efr]
  generalize hr : loopAt _ _ _ _ _ _ = r; revert r
  refine loop_nat lo.length (fun i _ => [(34, .int .i64 (i : Nat))]) (fun i _ => [(21, arrO (pu i) lo.length), (25, arrO (pv i) lo.length)]) (fun _ (_ : Unit) => True) () (by omega) (by simp (maxSteps := 1000000) (implicitDefEqProofs := false) only [z0, z1, arrO, Int.natCast_zero, ss, sd, zI, qG, zG, zH, St.get, qE, qF, qB, zD, norm, look, zF, qA, qI, St.alloc, St.drop, zA, part, zC, depth, qD, ↓reduceIte, Nat.reduceBEq, Nat.reduceAdd, Nat.reduceSub, Nat.reduceMul, Nat.reduceEqDiff, Nat.reduceLeDiff, Nat.reduceLT, qJ, qK, qL, qM, qN, qO, qP, qQ, qR, zJ, qS, qC, qT, evSlice0, qV, qW, qX, qY, qZ, zK, fixed, zL, wit, Option.isSome_some, qH, evSliceP, evPre, St.with, zE, Array.size, te, einl, inls, efr]) trivial (fun _ _ => ?_) (fun i _ _ b1 b2 b3 => ?_)
  · have z2 := part_zero (fun i => max 0 (dW i - if c = true then den * cA i else 0))
    have a4 := part_all (fun i => max 0 (dW i - if c = true then den * cA i else 0)) cs.length
    have u3 : ∀ i, i < cs.length → (fnL (part0 (fun i => max 0 (dW i - if c = true then den * cA i else 0)) i) cs.length).set i (.int .i64 (max 0 (dW i - if c = true then den * cA i else 0))) = fnL (part0 (fun i => max 0 (dW i - if c = true then den * cA i else 0)) (i + 1)) cs.length := fun i hi => by rw [fn_set hi, ← part_upd]
    generalize part0 (fun i => max 0 (dW i - if c = true then den * cA i else 0)) = pw at *
    have tk : ∀ (f : Nat → Int) (n : Nat), (fnL f n).take n = fnL f n := fun f n => fn_take
    have lu : ∀ (f : Nat → Int) (n : Nat), (fnL f n).length = n := fun f n => fn_len f n
    simp (maxSteps := 1000000) (implicitDefEqProofs := false) only [Int.lt_irrefl, arrO, a1, a2, List.length_map, ss, sd, zI, qG, zG, zH, St.get, qE, qF, qB, zD, norm, look, zF, qA, qI, St.alloc, St.drop, zA, part, zC, depth, qD, ↓reduceIte, Nat.reduceBEq, Nat.reduceAdd, Nat.reduceSub, Nat.reduceMul, Nat.reduceEqDiff, Nat.reduceLeDiff, Nat.reduceLT, qJ, qK, qL, qM, qN, qO, qP, qQ, qR, zJ, qS, qC, qT, evSlice0, qV, qW, qX, qY, qZ, zK, fixed, zL, wit, Option.isSome_some, qH, evSliceP, evPre, St.with, zE, Array.size, te, einl, inls, efr]
    generalize hr : loopAt _ _ _ _ _ _ = r; revert r
    refine loop_nat cs.length (fun i _ => [(62, .int .i64 (i : Nat))]) (fun i _ => [(29, arrO (pw i) cs.length)]) (fun _ (_ : Unit) => True) () (by omega) (by simp (maxSteps := 1000000) (implicitDefEqProofs := false) only [z2, arrO, Int.natCast_zero, ss, sd, zI, qG, zG, zH, St.get, qE, qF, qB, zD, norm, look, zF, qA, qI, St.alloc, St.drop, zA, part, zC, depth, qD, ↓reduceIte, Nat.reduceBEq, Nat.reduceAdd, Nat.reduceSub, Nat.reduceMul, Nat.reduceEqDiff, Nat.reduceLeDiff, Nat.reduceLT, qJ, qK, qL, qM, qN, qO, qP, qQ, qR, zJ, qS, qC, qT, evSlice0, qV, qW, qX, qY, qZ, zK, fixed, zL, wit, Option.isSome_some, qH, evSliceP, evPre, St.with, zE, Array.size, te, einl, inls, efr]) trivial (fun _ _ => ?_) (fun i _ _ b1 b2 b3 => ?_)
    · simp (maxSteps := 1000000) (implicitDefEqProofs := false) only [Int.lt_irrefl, arrO, a4, tk, lu, List.length_map, Try.ntmps90, Try.results90, efc90, fc90, ss, sd, zI, qG, zG, zH, St.get, qE, qF, qB, zD, norm, look, zF, qA, qI, St.alloc, St.drop, zA, part, zC, depth, qD, ↓reduceIte, Nat.reduceBEq, Nat.reduceAdd, Nat.reduceSub, Nat.reduceMul, Nat.reduceEqDiff, Nat.reduceLeDiff, Nat.reduceLT, qJ, qK, qL, qM, qN, qO, qP, qQ, qR, zJ, qS, qC, qT, evSlice0, qV, qW, qX, qY, qZ, zK, fixed, zL, wit, Option.isSome_some, qH, evSliceP, evPre, St.with, zE, Array.size, te, einl, inls, efr]
    · have gi : cs[i]? = some cs[i] := List.getElem?_eq_getElem b1
      obtain ⟨k68, eco, hco, hdw⟩ := hgain i _ ((List.range cs.length).map (pw i)) gi
      rw [map_vI] at k68
      have e3 := u3 i b1
      have gw : (fnL (pw i) cs.length)[i]? = some (.int .i64 (pw i i)) := fn_get b1
      have hm2 := mul_in (show 0 ≤ den ∧ den ≤ 1048576 by omega) hco
      generalize cs[i] = c1 at *
      obtain ⟨st, co, ps⟩ := c1
      simp only [encCem] at k68
      dsimp only at *
      subst eco
      cases c with
      | true =>
        have w1 : IntKind.i64.wrap (den * cA i) = den * cA i := wrap_in (by omega)
        have w2 : IntKind.i64.wrap (dW i - den * cA i) = dW i - den * cA i := wrap_in (by omega)
        simp only [if_true] at e3
        simp (maxSteps := 1000000) (implicitDefEqProofs := false) only [b1, b2, b3, gi, gw, k68, w1, w2, tk, lu, e3, arrO, encCem, regT ho3 hi3, evBT_nil, evBT_cons, effT_true, effT_false, effT2_some, effT2_none, calmT, free, Eff.writes, supp, isBar, Option.toList_some, Option.toList_none, Int.natCast_nonneg, Int.toNat_natCast, List.getElem?_map, List.length_map, ss, sd, zI, qG, zG, zH, St.get, qE, qF, qB, zD, norm, look, zF, qA, qI, St.alloc, St.drop, zA, part, zC, depth, qD, ↓reduceIte, Nat.reduceBEq, Nat.reduceAdd, Nat.reduceSub, Nat.reduceMul, Nat.reduceEqDiff, Nat.reduceLeDiff, Nat.reduceLT, qJ, qK, qL, qM, qN, qO, qP, qQ, qR, zJ, qS, qC, qT, evSlice0, qV, qW, qX, qY, qZ, zK, fixed, zL, wit, Option.isSome_some, qH, evSliceP, evPre, St.with, zE, Array.size, te, einl, inls, efr]
        (first | exact ⟨(), trivial⟩ | refine ⟨(), ?_, trivial⟩ | skip)
      | false =>
        have w2 : IntKind.i64.wrap (dW i - 0) = dW i - 0 := wrap_in (by omega)
        simp only [Bool.false_eq_true, if_false] at e3
        simp (maxSteps := 1000000) (implicitDefEqProofs := false) only [b1, b2, b3, gi, gw, k68, w2, tk, lu, e3, arrO, encCem, regT ho3 hi3, evBT_nil, evBT_cons, effT_true, effT_false, effT2_some, effT2_none, calmT, free, Eff.writes, supp, isBar, Option.toList_some, Option.toList_none, Int.natCast_nonneg, Int.toNat_natCast, List.getElem?_map, List.length_map, ss, sd, zI, qG, zG, zH, St.get, qE, qF, qB, zD, norm, look, zF, qA, qI, St.alloc, St.drop, zA, part, zC, depth, qD, ↓reduceIte, Nat.reduceBEq, Nat.reduceAdd, Nat.reduceSub, Nat.reduceMul, Nat.reduceEqDiff, Nat.reduceLeDiff, Nat.reduceLT, qJ, qK, qL, qM, qN, qO, qP, qQ, qR, zJ, qS, qC, qT, evSlice0, qV, qW, qX, qY, qZ, zK, fixed, zL, wit, Option.isSome_some, qH, evSliceP, evPre, St.with, zE, Array.size, te, einl, inls, efr]
        (first | exact ⟨(), trivial⟩ | refine ⟨(), ?_, trivial⟩ | skip)
  · have gi := gk i b1
    have e1 := u1 i b1
    have e2 := u2 i b1
    have gu : (fnL (pu i) lo.length)[i]? = some (.int .i64 (pu i i)) := fn_get b1
    have gv : (fnL (pv i) lo.length)[i]? = some (.int .i64 (pv i i)) := fn_get b1
    have hwi := hw (i + 1)
    have w1 : IntKind.i64.wrap (0 - w (i + 1)) = -w (i + 1) := by rw [wrap_in (by omega)]; omega
    have p4 : ((i + 1 : Nat) : Int) < ((lo.length + 1 : Nat) : Int) := by omega
    have lu : ∀ f, (fnL f lo.length).length = lo.length := fun f => fn_len _ _
    simp (maxSteps := 1000000) (implicitDefEqProofs := false) only [b1, b2, b3, gi, gu, gv, w1, p4, lw, lu, e1, e2, arrO, regT ho2 hi2, evBT_nil, evBT_cons, effT_true, effT_false, effT2_some, effT2_none, calmT, free, Eff.writes, supp, isBar, Option.toList_some, Option.toList_none, Int.natCast_nonneg, Int.toNat_natCast, List.getElem?_map, List.length_map, ss, sd, zI, qG, zG, zH, St.get, qE, qF, qB, zD, norm, look, zF, qA, qI, St.alloc, St.drop, zA, part, zC, depth, qD, ↓reduceIte, Nat.reduceBEq, Nat.reduceAdd, Nat.reduceSub, Nat.reduceMul, Nat.reduceEqDiff, Nat.reduceLeDiff, Nat.reduceLT, qJ, qK, qL, qM, qN, qO, qP, qQ, qR, zJ, qS, qC, qT, evSlice0, qV, qW, qX, qY, qZ, zK, fixed, zL, wit, Option.isSome_some, qH, evSliceP, evPre, St.with, zE, Array.size, te, einl, inls, efr]
    (first | exact ⟨(), trivial⟩ | refine ⟨(), ?_, trivial⟩ | skip)
end Go.AM.E

