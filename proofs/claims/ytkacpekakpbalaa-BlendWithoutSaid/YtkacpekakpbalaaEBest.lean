/-
The best amounts of a basis (blend).
-/
import Derived.Test.YtkacpekakpbalaaEPrim
set_option linter.unusedVariables false
set_option linter.unusedSimpArgs false
set_option maxRecDepth 20000

namespace Go.AM.E
open Go Go.AM Go.Proofs

theorem fs_succ {α : Type} (F : Nat → Option α) (n : Nat) : (List.range (n + 1)).findSome? F = ((List.range n).findSome? F).or (F n) := by
  rw [List.range_succ, List.findSome?_append]
  congr 1
  rw [List.findSome?_cons]
  cases F n <;> rfl
theorem fs_none {α : Type} {F : Nat → Option α} : ∀ {n : Nat}, (∀ j, j < n → F j = none) → (List.range n).findSome? F = none
  | 0, _ => rfl
  | n + 1, h => by rw [fs_succ, fs_none fun j hj => h j (by omega), h n (by omega)]; rfl
theorem fs_some {α : Type} {F : Nat → Option α} {i : Nat} {a : α} (h : ∀ j, j < i → F j = none) (hi : F i = some a) : ∀ {n : Nat}, i < n → (List.range n).findSome? F = some a
  | 0, h0 => by omega
  | n + 1, hn => by
    rw [fs_succ]
    by_cases e : i = n
    · subst e; rw [fs_none h, hi]; rfl
    · rw [fs_some h hi (n := n) (by omega)]; rfl
theorem high_facts : ((List.range 16).all fun h => (List.range 16).all fun rs => decide (okHigh ⟨rs, 0⟩ h = (!(bitsI .andNot .i64 (h : Nat) (rs : Nat) != 0) && !(bitsI .and .i64 (h : Nat) 1 == 1)))) = true := by decide +kernel
theorem high_ok {x : Bs} {h : Nat} (h1 : h < 16) (h2 : x.rs < 16) : okHigh x h = (!(bitsI .andNot .i64 (h : Nat) (x.rs : Nat) != 0) && !(bitsI .and .i64 (h : Nat) 1 == 1)) := by
  have h := List.all_eq_true.1 (List.all_eq_true.1 high_facts h (List.mem_range.2 h1)) x.rs (List.mem_range.2 h2)
  exact decide_eq_true_eq.mp h
theorem full_facts : ((List.range 32).all fun f => (List.range 32).all fun cs => decide (okFull ⟨0, cs⟩ f = !(bitsI .and .i64 (f : Nat) (cs : Nat) != 0))) = true := by decide +kernel
theorem full_ok {x : Bs} {f : Nat} (h1 : f < 32) (h2 : x.cs < 32) : okFull x f = !(bitsI .and .i64 (f : Nat) (x.cs : Nat) != 0) := by
  have h := List.all_eq_true.1 (List.all_eq_true.1 full_facts f (List.mem_range.2 h1)) x.cs (List.mem_range.2 h2)
  exact decide_eq_true_eq.mp h
def rowBest (b : Blend) (x : Bs) (v : Int) (high full : Nat) : Option Amts := if okFull x full = true ∧ goodM b x v (amtsM b x high full) = true then some (amtsM b x high full) else none
def highBest (b : Blend) (x : Bs) (v : Int) (high : Nat) : Option Amts := if okHigh x high = true then (List.range (2 ^ b.cs.length)).findSome? (rowBest b x v high) else none
theorem best_eq (b : Blend) (x : Bs) (v : Int) : bestM b x v = (List.range (2 ^ (b.lo.length + 1))).findSome? (highBest b x v) := rfl
theorem amts_right {b : Blend} {x : Bs} (hb : Valid b) (hx : IsBase b x) {high full : Nat} (h : fitM (amtsM b x high full) = true) : RightA b (amtsM b x high full) := by
  have hd := denB_small hb hx
  refine ⟨by show 1 ≤ denB b x ∧ denB b x ≤ 1048576; omega, by simp [amtsM], fun n hn => ?_⟩
  unfold fitM at h
  have := List.all_eq_true.1 h n hn
  simpa using this
theorem okT57 : okCode (Try.f57.body.getD .skip) = true := by decide +kernel
set_option maxRecDepth 20000 in
set_option maxHeartbeats 32000000 in
theorem c57 (b : Blend) (hb : Valid b) (x : Bs) (hx : IsBase b x) (p : Pr) (hp : Fine b p) : (orcω E XS).call 57 [encBasisA b x, encPr p] = some (encAmO (bestM b x (valueM b p))) := by
  refine call_of rfl fn57 rfl ?_
  have hok := okT57
  simp only [Try.f57, Option.getD_some, okCode, Bool.and_eq_true, Bool.and_true, Bool.true_and] at hok
  have hm := hb.2.2.1
  have hn := hb.2.1.2
  have hp16 : 2 ^ (b.lo.length + 1) ≤ 2 ^ 4 := Nat.pow_le_pow_right (by decide) (by omega)
  have hp32 : 2 ^ b.cs.length ≤ 2 ^ 5 := Nat.pow_le_pow_right (by decide) hn
  have hrs : x.rs < 16 := by have := hx.1; omega
  have hcs : x.cs < 32 := by have := hx.2.1; omega
  have k91 := c91 x.rs (by omega)
  have k91' := c91 x.cs hcs
  have k69 := c69 b p hb hp
  have k92 := fun h f hh hf => c92 b hb x hx h f hh hf
  have k64 := fun a ha => c64 b a hb ha
  have k66 := fun a ha => c66 b a hb ha
  have hokh := fun h hh => high_ok (x := x) (h := h) hh hrs
  have fok := fun f hf => full_ok (x := x) (f := f) hf hcs
  have har := fun h f hf => amts_right hb hx (high := h) (full := f) hf
  have s1 := shl_one (show b.lo.length + 1 ≤ 5 by omega)
  have s2 := shl_one hn
  have w0 : IntKind.i64.wrap ((b.lo.length : Int) + 1) = ((b.lo.length + 1 : Nat) : Int) := by rw [wrap_in (by omega)]; omega
  have hbe := best_eq b x (valueM b p)
  have hhb : ∀ h, highBest b x (valueM b p) h = if okHigh x h = true then (List.range (2 ^ b.cs.length)).findSome? (rowBest b x (valueM b p) h) else none := fun _ => rfl
  have hrb : ∀ h f, rowBest b x (valueM b p) h f = if okFull x f = true ∧ goodM b x (valueM b p) (amtsM b x h f) = true then some (amtsM b x h f) else none := fun _ _ => rfl
  have hgm : ∀ a, goodM b x (valueM b p) a = (fitM a && decide (brokenE b a = 0) && decide (costM b a.x = valueM b p)) := fun _ => rfl
  have hpm : ∀ h f, primalM b x h f = if fitM (amtsM b x h f) = true then some (amtsM b x h f) else none := fun _ _ => rfl
  generalize bestM b x (valueM b p) = bm at *
  generalize highBest b x (valueM b p) = hB at *
  generalize rowBest b x (valueM b p) = rB at *
  generalize goodM b x (valueM b p) = gM at *
  generalize primalM b x = pM at *
  generalize amtsM b x = aM at *
  generalize valueM b p = v at *
  generalize brokenE b = bE at *
  generalize costM b = cM at *
  generalize okHigh x = oH at *
  generalize okFull x = oF at *
  unfold encBasisA at k92 ⊢
  generalize detB b x = d at *
  generalize matB b x = mt at *
  generalize memI x.rs = Rs at *
  generalize memI x.cs = Cs at *
  generalize x.rs = rs at *
  generalize x.cs = sc at *
  clear hx
  obtain ⟨tot, cs, lo, up⟩ := b
  obtain ⟨den, y, u, pv, w⟩ := p
  clear hb hp
  simp only [encBlend, encPr, encAmts] at k69 k64 k66 ⊢
  dsimp only at *
  generalize hN1 : 2 ^ (lo.length + 1) = N1 at *
  generalize hN2 : 2 ^ cs.length = N2 at *
  simp (maxSteps := 1000000) (implicitDefEqProofs := false) only [Try.ntmps57, Try.results57, efc57, fc57, k91, k91', k69, w0, s1, evRegion_st hok, Int.natCast_nonneg, Int.toNat_natCast, List.length_map, ss, sd, zI, qG, zG, zH, St.get, qE, qF, qB, zD, norm, look, zF, qA, qI, St.alloc, St.drop, zA, part, zC, depth, qD, ↓reduceIte, Nat.reduceBEq, Nat.reduceAdd, Nat.reduceSub, Nat.reduceMul, Nat.reduceEqDiff, Nat.reduceLeDiff, Nat.reduceLT, qJ, qK, qL, qM, qN, qO, qP, qQ, qR, zJ, qS, qC, qT, evSlice0, qV, qW, qX, qY, qZ, zK, fixed, zL, wit, Option.isSome_some, qH, evSliceP, evPre, St.with, zE, Array.size, te, einl, inls, efr]
  generalize hr : loopAt _ _ _ _ _ _ = r; revert r
  refine loop_nat N1 (fun h _ => [(29, .int .i64 (h : Nat))]) (fun _ _ => []) (fun h (_ : Unit) => ∀ j, j < h → hB j = none) () (by omega) (by simp (maxSteps := 1000000) (implicitDefEqProofs := false) only [Int.natCast_zero, ss, sd, zI, qG, zG, zH, St.get, qE, qF, qB, zD, norm, look, zF, qA, qI, St.alloc, St.drop, zA, part, zC, depth, qD, ↓reduceIte, Nat.reduceBEq, Nat.reduceAdd, Nat.reduceSub, Nat.reduceMul, Nat.reduceEqDiff, Nat.reduceLeDiff, Nat.reduceLT, qJ, qK, qL, qM, qN, qO, qP, qQ, qR, zJ, qS, qC, qT, evSlice0, qV, qW, qX, qY, qZ, zK, fixed, zL, wit, Option.isSome_some, qH, evSliceP, evPre, St.with, zE, Array.size, te, einl, inls, efr]) (fun _ h => by omega) (fun _ hI => ?_) (fun h _ hI b1 b2 b3 => ?_)
  · rw [hbe, fs_none hI]
    simp (maxSteps := 1000000) (implicitDefEqProofs := false) only [Int.lt_irrefl, encAmO, Try.ntmps57, Try.results57, efc57, fc57, ss, sd, zI, qG, zG, zH, St.get, qE, qF, qB, zD, norm, look, zF, qA, qI, St.alloc, St.drop, zA, part, zC, depth, qD, ↓reduceIte, Nat.reduceBEq, Nat.reduceAdd, Nat.reduceSub, Nat.reduceMul, Nat.reduceEqDiff, Nat.reduceLeDiff, Nat.reduceLT, qJ, qK, qL, qM, qN, qO, qP, qQ, qR, zJ, qS, qC, qT, evSlice0, qV, qW, qX, qY, qZ, zK, fixed, zL, wit, Option.isSome_some, qH, evSliceP, evPre, St.with, zE, Array.size, te, einl, inls, efr]
  · have hoh := hokh h (by omega)
    have hhbh := hhb h
    cases hc : oH h with
    | false =>
      rw [hc, if_neg (by decide)] at hhbh
      have hI' : ∀ j, j < h + 1 → hB j = none := fun j hj => by
        by_cases e : j = h
        · subst e; exact hhbh
        · exact hI j (by omega)
      cases q1 : (bitsI .andNot .i64 (h : Nat) (rs : Nat) != 0) with
      | true =>
        simp (maxSteps := 1000000) (implicitDefEqProofs := false) only [b1, b2, b3, q1, Int.natCast_nonneg, Int.toNat_natCast, List.length_map, ss, sd, zI, qG, zG, zH, St.get, qE, qF, qB, zD, norm, look, zF, qA, qI, St.alloc, St.drop, zA, part, zC, depth, qD, ↓reduceIte, Nat.reduceBEq, Nat.reduceAdd, Nat.reduceSub, Nat.reduceMul, Nat.reduceEqDiff, Nat.reduceLeDiff, Nat.reduceLT, qJ, qK, qL, qM, qN, qO, qP, qQ, qR, zJ, qS, qC, qT, evSlice0, qV, qW, qX, qY, qZ, zK, fixed, zL, wit, Option.isSome_some, qH, evSliceP, evPre, St.with, zE, Array.size, te, einl, inls, efr]
        exact ⟨(), hI'⟩
      | false =>
        have q2 : (bitsI .and .i64 (h : Nat) 1 == 1) = true := by
          rw [hc, q1] at hoh
          simpa using hoh
        simp (maxSteps := 1000000) (implicitDefEqProofs := false) only [b1, b2, b3, q1, q2, Int.natCast_nonneg, Int.toNat_natCast, List.length_map, ss, sd, zI, qG, zG, zH, St.get, qE, qF, qB, zD, norm, look, zF, qA, qI, St.alloc, St.drop, zA, part, zC, depth, qD, ↓reduceIte, Nat.reduceBEq, Nat.reduceAdd, Nat.reduceSub, Nat.reduceMul, Nat.reduceEqDiff, Nat.reduceLeDiff, Nat.reduceLT, qJ, qK, qL, qM, qN, qO, qP, qQ, qR, zJ, qS, qC, qT, evSlice0, qV, qW, qX, qY, qZ, zK, fixed, zL, wit, Option.isSome_some, qH, evSliceP, evPre, St.with, zE, Array.size, te, einl, inls, efr]
        exact ⟨(), hI'⟩
    | true =>
      rw [hc, if_pos rfl] at hhbh
      rw [hc] at hoh
      have q1 : (bitsI .andNot .i64 (h : Nat) (rs : Nat) != 0) = false := by
        cases q1 : (bitsI .andNot .i64 (h : Nat) (rs : Nat) != 0) with
        | true => rw [q1] at hoh; simp at hoh
        | false => rfl
      have q2 : (bitsI .and .i64 (h : Nat) 1 == 1) = false := by
        cases q2 : (bitsI .and .i64 (h : Nat) 1 == 1) with
        | true => rw [q2] at hoh; simp at hoh
        | false => rfl
      simp (maxSteps := 1000000) (implicitDefEqProofs := false) only [b1, b2, b3, q1, q2, s2, Int.natCast_nonneg, Int.toNat_natCast, List.length_map, ss, sd, zI, qG, zG, zH, St.get, qE, qF, qB, zD, norm, look, zF, qA, qI, St.alloc, St.drop, zA, part, zC, depth, qD, ↓reduceIte, Nat.reduceBEq, Nat.reduceAdd, Nat.reduceSub, Nat.reduceMul, Nat.reduceEqDiff, Nat.reduceLeDiff, Nat.reduceLT, qJ, qK, qL, qM, qN, qO, qP, qQ, qR, zJ, qS, qC, qT, evSlice0, qV, qW, qX, qY, qZ, zK, fixed, zL, wit, Option.isSome_some, qH, evSliceP, evPre, St.with, zE, Array.size, te, einl, inls, efr]
      generalize hr : loopAt _ _ _ _ _ _ = r; revert r
      refine loop_nat N2 (fun f _ => [(46, .int .i64 (f : Nat))]) (fun _ _ => []) (fun f (_ : Unit) => ∀ j, j < f → rB h j = none) () (by omega) (by simp (maxSteps := 1000000) (implicitDefEqProofs := false) only [Int.natCast_zero, ss, sd, zI, qG, zG, zH, St.get, qE, qF, qB, zD, norm, look, zF, qA, qI, St.alloc, St.drop, zA, part, zC, depth, qD, ↓reduceIte, Nat.reduceBEq, Nat.reduceAdd, Nat.reduceSub, Nat.reduceMul, Nat.reduceEqDiff, Nat.reduceLeDiff, Nat.reduceLT, qJ, qK, qL, qM, qN, qO, qP, qQ, qR, zJ, qS, qC, qT, evSlice0, qV, qW, qX, qY, qZ, zK, fixed, zL, wit, Option.isSome_some, qH, evSliceP, evPre, St.with, zE, Array.size, te, einl, inls, efr]) (fun _ h => by omega) (fun _ hJ => ?_) (fun f _ hJ d1 d2 d3 => ?_)
      · rw [fs_none hJ] at hhbh
        simp (maxSteps := 1000000) (implicitDefEqProofs := false) only [Int.lt_irrefl, b3, ss, sd, zI, qG, zG, zH, St.get, qE, qF, qB, zD, norm, look, zF, qA, qI, St.alloc, St.drop, zA, part, zC, depth, qD, ↓reduceIte, Nat.reduceBEq, Nat.reduceAdd, Nat.reduceSub, Nat.reduceMul, Nat.reduceEqDiff, Nat.reduceLeDiff, Nat.reduceLT, qJ, qK, qL, qM, qN, qO, qP, qQ, qR, zJ, qS, qC, qT, evSlice0, qV, qW, qX, qY, qZ, zK, fixed, zL, wit, Option.isSome_some, qH, evSliceP, evPre, St.with, zE, Array.size, te, einl, inls, efr]
        refine ⟨(), fun j hj => ?_⟩
        by_cases e : j = h
        · subst e; exact hhbh
        · exact hI j (by omega)
      · have hof := fok f (by omega)
        have hrbf := hrb h f
        have hno : rB h f = none → ∀ j, j < f + 1 → rB h j = none := fun e j hj => by
          by_cases e2 : j = f
          · subst e2; exact e
          · exact hJ j (by omega)
        cases hcf : oF f with
        | false =>
          rw [hcf] at hof hrbf
          have q3 : (bitsI .and .i64 (f : Nat) (sc : Nat) != 0) = true := by
            cases q3 : (bitsI .and .i64 (f : Nat) (sc : Nat) != 0) with
            | true => rfl
            | false => rw [q3] at hof; cases hof
          have hn' := hno (by rw [hrbf, if_neg (fun h => by cases h.1)])
          simp (maxSteps := 1000000) (implicitDefEqProofs := false) only [d1, d2, d3, q3, Int.natCast_nonneg, Int.toNat_natCast, List.length_map, ss, sd, zI, qG, zG, zH, St.get, qE, qF, qB, zD, norm, look, zF, qA, qI, St.alloc, St.drop, zA, part, zC, depth, qD, ↓reduceIte, Nat.reduceBEq, Nat.reduceAdd, Nat.reduceSub, Nat.reduceMul, Nat.reduceEqDiff, Nat.reduceLeDiff, Nat.reduceLT, qJ, qK, qL, qM, qN, qO, qP, qQ, qR, zJ, qS, qC, qT, evSlice0, qV, qW, qX, qY, qZ, zK, fixed, zL, wit, Option.isSome_some, qH, evSliceP, evPre, St.with, zE, Array.size, te, einl, inls, efr]
          exact ⟨(), hn'⟩
        | true =>
          rw [hcf] at hof hrbf
          have q3 : (bitsI .and .i64 (f : Nat) (sc : Nat) != 0) = false := by
            cases q3 : (bitsI .and .i64 (f : Nat) (sc : Nat) != 0) with
            | false => rfl
            | true => rw [q3] at hof; cases hof
          have k9 := k92 h f (by omega) (by omega)
          have hpf := hpm h f
          have hgf := hgm (aM h f)
          have hra := har h f
          rw [hpf] at k9
          cases hfit : fitM (aM h f) with
          | false =>
            rw [hfit] at k9 hgf
            rw [if_neg (by decide)] at k9
            have hn' := hno (by rw [hrbf, hgf, if_neg (fun h => by cases h.2)])
            simp only [encAmO] at k9
            simp (maxSteps := 1000000) (implicitDefEqProofs := false) only [d1, d2, d3, q3, k9, Int.natCast_nonneg, Int.toNat_natCast, List.length_map, ss, sd, zI, qG, zG, zH, St.get, qE, qF, qB, zD, norm, look, zF, qA, qI, St.alloc, St.drop, zA, part, zC, depth, qD, ↓reduceIte, Nat.reduceBEq, Nat.reduceAdd, Nat.reduceSub, Nat.reduceMul, Nat.reduceEqDiff, Nat.reduceLeDiff, Nat.reduceLT, qJ, qK, qL, qM, qN, qO, qP, qQ, qR, zJ, qS, qC, qT, evSlice0, qV, qW, qX, qY, qZ, zK, fixed, zL, wit, Option.isSome_some, qH, evSliceP, evPre, St.with, zE, Array.size, te, einl, inls, efr]
            exact ⟨(), hn'⟩
          | true =>
            rw [hfit] at k9 hgf
            rw [if_pos rfl] at k9
            have k64 := k64 _ (hra hfit)
            have k66 := k66 _ (hra hfit)
            simp only [encAmO] at k9
            generalize hA : aM h f = A at *
            generalize bE A = be at *
            generalize cM A.x = cc at *
            by_cases hb0 : be = 0
            rotate_left
            · have q4 : (be == 0) = false := by simpa using hb0
              have hn' := hno (by rw [hrbf, hgf, if_neg (fun h => by simp [hb0] at h)])
              simp (maxSteps := 1000000) (implicitDefEqProofs := false) only [d1, d2, d3, q3, q4, k9, k64, Int.natCast_nonneg, Int.toNat_natCast, List.length_map, ss, sd, zI, qG, zG, zH, St.get, qE, qF, qB, zD, norm, look, zF, qA, qI, St.alloc, St.drop, zA, part, zC, depth, qD, ↓reduceIte, Nat.reduceBEq, Nat.reduceAdd, Nat.reduceSub, Nat.reduceMul, Nat.reduceEqDiff, Nat.reduceLeDiff, Nat.reduceLT, qJ, qK, qL, qM, qN, qO, qP, qQ, qR, zJ, qS, qC, qT, evSlice0, qV, qW, qX, qY, qZ, zK, fixed, zL, wit, Option.isSome_some, qH, evSliceP, evPre, St.with, zE, Array.size, te, einl, inls, efr]
              exact ⟨(), hn'⟩
            subst hb0
            by_cases hv0 : cc = v
            rotate_left
            · have q5 : (cc == v) = false := by simpa using hv0
              have hn' := hno (by rw [hrbf, hgf, if_neg (fun h => by simp [hv0] at h)])
              simp (maxSteps := 1000000) (implicitDefEqProofs := false) only [d1, d2, d3, q3, q5, k9, k64, k66, beq_self_eq_true, Int.natCast_nonneg, Int.toNat_natCast, List.length_map, ss, sd, zI, qG, zG, zH, St.get, qE, qF, qB, zD, norm, look, zF, qA, qI, St.alloc, St.drop, zA, part, zC, depth, qD, ↓reduceIte, Nat.reduceBEq, Nat.reduceAdd, Nat.reduceSub, Nat.reduceMul, Nat.reduceEqDiff, Nat.reduceLeDiff, Nat.reduceLT, qJ, qK, qL, qM, qN, qO, qP, qQ, qR, zJ, qS, qC, qT, evSlice0, qV, qW, qX, qY, qZ, zK, fixed, zL, wit, Option.isSome_some, qH, evSliceP, evPre, St.with, zE, Array.size, te, einl, inls, efr]
              exact ⟨(), hn'⟩
            subst hv0
            have hy : rB h f = some A := by rw [hrbf, hgf, if_pos (by simp)]
            have hz : hB h = some A := by rw [hhbh]; exact fs_some hJ hy d1
            have hw : bm = some A := by rw [hbe]; exact fs_some hI hz b1
            rw [hw]
            obtain ⟨ad, ax⟩ := A
            dsimp only at k9 k64 k66
            simp (maxSteps := 1000000) (implicitDefEqProofs := false) only [d1, d2, d3, q3, k9, k64, k66, encAmO, beq_self_eq_true, Int.natCast_nonneg, Int.toNat_natCast, List.length_map, Try.ntmps57, Try.results57, efc57, fc57, ss, sd, zI, qG, zG, zH, St.get, qE, qF, qB, zD, norm, look, zF, qA, qI, St.alloc, St.drop, zA, part, zC, depth, qD, ↓reduceIte, Nat.reduceBEq, Nat.reduceAdd, Nat.reduceSub, Nat.reduceMul, Nat.reduceEqDiff, Nat.reduceLeDiff, Nat.reduceLT, qJ, qK, qL, qM, qN, qO, qP, qQ, qR, zJ, qS, qC, qT, evSlice0, qV, qW, qX, qY, qZ, zK, fixed, zL, wit, Option.isSome_some, qH, evSliceP, evPre, St.with, zE, Array.size, te, einl, inls, efr]
end Go.AM.E

