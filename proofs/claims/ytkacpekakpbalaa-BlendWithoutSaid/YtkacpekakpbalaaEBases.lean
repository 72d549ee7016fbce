/-
All bases (blend).
-/
import Derived.Test.YtkacpekakpbalaaEBs
import Derived.Test.YtkacpekakpbalaaEOptQ
import Derived.Test.YtkacpekakpbalaaAmBad
set_option linter.unusedVariables false
set_option linter.unusedSimpArgs false
set_option maxRecDepth 20000

namespace Go.AM.E
open Go Go.AM Go.Proofs

theorem shl_one {n : Nat} (h : n ≤ 5) : IntKind.i64.wrap (1 * 2 ^ (min n (IntKind.bits .i64))) = ((2 ^ n : Nat) : Int) := by
  have : n = 0 ∨ n = 1 ∨ n = 2 ∨ n = 3 ∨ n = 4 ∨ n = 5 := by omega
  rcases this with rfl | rfl | rfl | rfl | rfl | rfl <;> decide
def encBasis (b : Blend) (x : Bs) : V :=
  .agg [.int .i64 b.tot, .sl false (b.cs.map encCem), .sl false (b.lo.map vI), .sl false (b.hi.map vI), .sl false ((memI x.rs).map vI), .sl false ((memI x.cs).map vI), .int .i64 (detB b x), .clo 89 [.sl true ((matB b x).map encI)] []]
def innerL (b : Blend) (rs c : Nat) : List Bs := ((List.range c).filter fun cs => decide ((memM cs).length = (memM rs).length) && decide (detB b ⟨rs, cs⟩ ≠ 0)).map fun cs => ⟨rs, cs⟩
def outerL (b : Blend) (r : Nat) : List Bs := (List.range r).flatMap fun rs => innerL b rs (2 ^ b.cs.length)
theorem outer_all (b : Blend) : outerL b (2 ^ (b.lo.length + 1)) = basesM b := rfl
theorem outer_succ (b : Blend) (r : Nat) : outerL b (r + 1) = outerL b r ++ innerL b r (2 ^ b.cs.length) := by unfold outerL; rw [List.range_succ, List.flatMap_append]; simp
theorem inner_zero (b : Blend) (rs : Nat) : innerL b rs 0 = [] := rfl
theorem inner_yes {b : Blend} {rs c : Nat} (h1 : (memM c).length = (memM rs).length) (h2 : detB b ⟨rs, c⟩ ≠ 0) : innerL b rs (c + 1) = innerL b rs c ++ [⟨rs, c⟩] := by
  unfold innerL; rw [List.range_succ, List.filter_append, List.map_append, List.filter_cons, if_pos (by simp [h1, h2])]; simp
theorem inner_no {b : Blend} {rs c : Nat} (h : ¬ ((memM c).length = (memM rs).length ∧ detB b ⟨rs, c⟩ ≠ 0)) : innerL b rs (c + 1) = innerL b rs c := by
  unfold innerL; rw [List.range_succ, List.filter_append, List.map_append, List.filter_cons, if_neg (by simpa using h)]; simp
theorem inner_len (b : Blend) (rs c : Nat) : (innerL b rs c).length ≤ c := by
  unfold innerL
  rw [List.length_map]
  have := List.length_filter_le (fun cs => decide ((memM cs).length = (memM rs).length) && decide (detB b ⟨rs, cs⟩ ≠ 0)) (List.range c)
  simpa using this
theorem outer_len {b : Blend} (hn : b.cs.length ≤ 5) : ∀ r, (outerL b r).length ≤ r * 32
  | 0 => by simp [outerL]
  | r + 1 => by
    rw [outer_succ, List.length_append]
    have := outer_len hn r
    have := inner_len b r (2 ^ b.cs.length)
    have : 2 ^ b.cs.length ≤ 2 ^ 5 := Nat.pow_le_pow_right (by decide) hn
    omega
def rowI (b : Blend) (r : Nat) (l : List Nat) : List Int := l.map fun c => coefB b r c
def matTo (b : Blend) (i c t : Nat) : List (List Int) := ((memM i).take t).map fun r => rowI b r (memM c)
def basesOb (l : List V) : Ob := { es := 8, flat := true, t := l.isEmpty, app := true, elems := l }
theorem matTo_succ {b : Blend} {i c t : Nat} (h : t < (memM i).length) : matTo b i c (t + 1) = matTo b i c t ++ [rowI b ((memM i).getD t 0) (memM c)] := by
  unfold matTo
  rw [List.take_add_one, List.getElem?_eq_getElem h, getD_in h, List.map_append]; rfl
theorem matTo_len {b : Blend} {i c t : Nat} : (matTo b i c t).length ≤ (memM i).length := by unfold matTo; simp; omega
theorem matTo_all (b : Blend) (i c : Nat) : matTo b i c (memM i).length = matB b ⟨i, c⟩ := by unfold matTo matB matRC; rw [List.take_length]; rfl
def lineC (b : Blend) (r : Nat) (C : List Nat) (s : Nat) : List Int := (C.take s).map fun c => coefB b r c
theorem lineC_zero (b : Blend) (r : Nat) (C : List Nat) : lineC b r C 0 = [] := rfl
theorem lineC_succ {b : Blend} {r : Nat} {C : List Nat} {s : Nat} (h : s < C.length) : lineC b r C (s + 1) = lineC b r C s ++ [coefB b r (C.getD s 0)] := by
  unfold lineC
  rw [List.take_add_one, List.getElem?_eq_getElem h, getD_in h, List.map_append]; rfl
theorem lineC_len {b : Blend} {r : Nat} {C : List Nat} {s : Nat} : (lineC b r C s).length ≤ s := by unfold lineC; simp; omega
theorem lineC_all (b : Blend) (r : Nat) (C : List Nat) : lineC b r C C.length = rowI b r C := by unfold lineC rowI; rw [List.take_length]
theorem memI_get {s t : Nat} (h : t < (memM s).length) : (memI s)[t]? = some ((((memM s).getD t 0 : Nat)) : Int) := by
  unfold memI
  rw [List.getElem?_map, List.getElem?_eq_getElem h, getD_in h]; rfl
theorem memI_len (s : Nat) : (memI s).length = (memM s).length := by unfold memI; simp
theorem memM_small (s : Nat) : (memM s).length ≤ 5 := by
  unfold memM
  have := List.length_filter_le (fun i => s / 2 ^ i % 2 == 1) (List.range 5)
  simpa using this
theorem memI_small (s : Nat) : (memI s).length ≤ 5 := by rw [memI_len]; exact memM_small s
theorem inf55 : (drawn (Try.f55.body.getD .skip)).map infosOf = [[([], false), ([], false), ([], false), ([], false), ([], false), ([], false), ([0, 2, 4], false), ([], true)]] := by decide +kernel
theorem okD55 : (drawn (Try.f55.body.getD .skip)).all okBad = true := by decide +kernel
set_option maxRecDepth 20000 in
set_option maxHeartbeats 16000000 in
theorem c55 (b : Blend) (hb : Valid b) : (orcω E XS).call 55 [encBlend b] = some (.sl false ((basesM b).map (encBasis b))) := by
  refine call_of rfl fn55 rfl ?_
  have hi := inf55
  have ho := okD55
  simp only [Try.f55, Option.getD_some, drawn, List.map_cons, List.map_nil, List.nil_append, List.append_nil, List.cons_append, List.cons.injEq, and_true] at hi
  simp only [Try.f55, Option.getD_some, drawn, List.nil_append, List.append_nil, List.cons_append, List.all_cons, List.all_nil, Bool.and_true, Bool.and_eq_true] at ho
  have hn := hb.2.1.2
  have hm := hb.2.2.1
  have hk4 : ∀ rs, rs < 16 → (memM rs).length ≤ 4 := by decide
  have hall := outer_all b
  have hs := outer_succ b
  have hol := outer_len hn
  have k86 := c86
  have k87 := fun r c => c87 b r c
  have s1 := shl_one (show b.lo.length + 1 ≤ 5 by omega)
  have s2 := shl_one hn
  have w0 : IntKind.i64.wrap ((b.lo.length : Int) + 1) = ((b.lo.length + 1 : Nat) : Int) := by rw [wrap_in (by omega)]; omega
  have o0 : outerL b 0 = [] := rfl
  generalize outerL b = ol at *
  obtain ⟨tot, cs, lo, up⟩ := b
  unfold encBlend at *
  dsimp only at *
  simp (maxSteps := 1000000) (implicitDefEqProofs := false) only [Try.ntmps55, Try.results55, efc55, fc55, w0, s1, Int.toNat_natCast, Int.natCast_nonneg, List.length_map, ss, sd, zI, qG, zG, zH, St.get, qE, qF, qB, zD, norm, look, zF, qA, qI, St.alloc, St.drop, zA, part, zC, depth, qD, ↓reduceIte, Nat.reduceBEq, Nat.reduceAdd, Nat.reduceSub, Nat.reduceMul, Nat.reduceEqDiff, Nat.reduceLeDiff, Nat.reduceLT, qJ, qK, qL, qM, qN, qO, qP, qQ, qR, zJ, qS, qC, qT, evSlice0, qV, qW, qX, qY, qZ, zK, fixed, zL, wit, Option.isSome_some, qH, evSliceP, evPre, St.with, zE, Array.size, te, einl, inls, efr]
  generalize hr : loopAt _ _ _ _ _ _ = r; revert r
  refine loop_nat (2 ^ (lo.length + 1)) (fun i _ => [(3, .own 3 0 (ol i).length), (18, .int .i64 (i : Nat))]) (fun i _ => [(3, basesOb ((ol i).map (encBasis ⟨tot, cs, lo, up⟩)))]) (fun _ (_ : Unit) => True) () (by have : 2 ^ (lo.length + 1) ≤ 2 ^ 5 := Nat.pow_le_pow_right (by decide) (by omega); omega) (by simp (maxSteps := 1000000) (implicitDefEqProofs := false) only [o0, basesOb, List.isEmpty_nil, Int.natCast_zero, List.map_nil, List.length_nil, ss, sd, zI, qG, zG, zH, St.get, qE, qF, qB, zD, norm, look, zF, qA, qI, St.alloc, St.drop, zA, part, zC, depth, qD, ↓reduceIte, Nat.reduceBEq, Nat.reduceAdd, Nat.reduceSub, Nat.reduceMul, Nat.reduceEqDiff, Nat.reduceLeDiff, Nat.reduceLT, qJ, qK, qL, qM, qN, qO, qP, qQ, qR, zJ, qS, qC, qT, evSlice0, qV, qW, qX, qY, qZ, zK, fixed, zL, wit, Option.isSome_some, qH, evSliceP, evPre, St.with, zE, Array.size, te, einl, inls, efr]) trivial (fun _ _ => ?_) (fun i _ _ a1 a2 a3 => ?_)
  · rw [hall]
    have t1 : ((basesM ⟨tot, cs, lo, up⟩).map (encBasis ⟨tot, cs, lo, up⟩)).take (basesM ⟨tot, cs, lo, up⟩).length = (basesM ⟨tot, cs, lo, up⟩).map (encBasis ⟨tot, cs, lo, up⟩) := List.take_of_length_le (by simp)
    have t2 : ((basesM ⟨tot, cs, lo, up⟩).map (encBasis ⟨tot, cs, lo, up⟩)).isEmpty = false := by
      have h0 : (⟨0, 0⟩ : Bs) ∈ basesM ⟨tot, cs, lo, up⟩ := mem_bases.2 ⟨Nat.two_pow_pos _, Nat.two_pow_pos _, rfl, by show (1 : Int) ≠ 0; decide⟩
      cases hbm : basesM ⟨tot, cs, lo, up⟩ with
      | nil => rw [hbm] at h0; cases h0
      | cons y l => rfl
    simp (maxSteps := 1000000) (implicitDefEqProofs := false) only [Int.lt_irrefl, basesOb, t1, t2, List.length_map, Try.ntmps55, Try.results55, efc55, fc55, ss, sd, zI, qG, zG, zH, St.get, qE, qF, qB, zD, norm, look, zF, qA, qI, St.alloc, St.drop, zA, part, zC, depth, qD, ↓reduceIte, Nat.reduceBEq, Nat.reduceAdd, Nat.reduceSub, Nat.reduceMul, Nat.reduceEqDiff, Nat.reduceLeDiff, Nat.reduceLT, qJ, qK, qL, qM, qN, qO, qP, qQ, qR, zJ, qS, qC, qT, evSlice0, qV, qW, qX, qY, qZ, zK, fixed, zL, wit, Option.isSome_some, qH, evSliceP, evPre, St.with, zE, Array.size, te, einl, inls, efr]
  · have hs := hs i
    have hol := hol i
    have h2m : 2 ^ (lo.length + 1) ≤ 2 ^ 4 := Nat.pow_le_pow_right (by decide) (by omega)
    have h2n : 2 ^ cs.length ≤ 2 ^ 5 := Nat.pow_le_pow_right (by decide) hn
    have k86i := k86 i (by omega)
    have iz := inner_zero ⟨tot, cs, lo, up⟩ i
    have iy := fun c => inner_yes (b := ⟨tot, cs, lo, up⟩) (rs := i) (c := c)
    have ino := fun c => inner_no (b := ⟨tot, cs, lo, up⟩) (rs := i) (c := c)
    have il := fun c => inner_len ⟨tot, cs, lo, up⟩ i c
    generalize innerL ⟨tot, cs, lo, up⟩ i = ir at *
    generalize ol (i + 1) = o1 at *
    generalize ol i = o at *
    simp (maxSteps := 1000000) (implicitDefEqProofs := false) only [a1, a2, a3, s2, basesOb, Int.natCast_nonneg, Int.toNat_natCast, List.length_map, ss, sd, zI, qG, zG, zH, St.get, qE, qF, qB, zD, norm, look, zF, qA, qI, St.alloc, St.drop, zA, part, zC, depth, qD, ↓reduceIte, Nat.reduceBEq, Nat.reduceAdd, Nat.reduceSub, Nat.reduceMul, Nat.reduceEqDiff, Nat.reduceLeDiff, Nat.reduceLT, qJ, qK, qL, qM, qN, qO, qP, qQ, qR, zJ, qS, qC, qT, evSlice0, qV, qW, qX, qY, qZ, zK, fixed, zL, wit, Option.isSome_some, qH, evSliceP, evPre, St.with, zE, Array.size, te, einl, inls, efr]
    generalize hr : loopAt _ _ _ _ _ _ = r; revert r
    refine loop_nat (2 ^ cs.length) (fun c _ => [(3, .own 3 0 (o ++ ir c).length), (25, .int .i64 (c : Nat))]) (fun c _ => [(3, basesOb ((o ++ ir c).map (encBasis ⟨tot, cs, lo, up⟩)))]) (fun _ (_ : Unit) => True) () (by omega) (by simp (maxSteps := 1000000) (implicitDefEqProofs := false) only [iz, basesOb, List.append_nil, Int.natCast_zero, ss, sd, zI, qG, zG, zH, St.get, qE, qF, qB, zD, norm, look, zF, qA, qI, St.alloc, St.drop, zA, part, zC, depth, qD, ↓reduceIte, Nat.reduceBEq, Nat.reduceAdd, Nat.reduceSub, Nat.reduceMul, Nat.reduceEqDiff, Nat.reduceLeDiff, Nat.reduceLT, qJ, qK, qL, qM, qN, qO, qP, qQ, qR, zJ, qS, qC, qT, evSlice0, qV, qW, qX, qY, qZ, zK, fixed, zL, wit, Option.isSome_some, qH, evSliceP, evPre, St.with, zE, Array.size, te, einl, inls, efr]) trivial (fun _ _ => ?_) (fun c _ _ b1 b2 b3 => ?_)
    · rw [← hs]
      simp (maxSteps := 1000000) (implicitDefEqProofs := false) only [Int.lt_irrefl, a3, basesOb, List.length_map, ss, sd, zI, qG, zG, zH, St.get, qE, qF, qB, zD, norm, look, zF, qA, qI, St.alloc, St.drop, zA, part, zC, depth, qD, ↓reduceIte, Nat.reduceBEq, Nat.reduceAdd, Nat.reduceSub, Nat.reduceMul, Nat.reduceEqDiff, Nat.reduceLeDiff, Nat.reduceLT, qJ, qK, qL, qM, qN, qO, qP, qQ, qR, zJ, qS, qC, qT, evSlice0, qV, qW, qX, qY, qZ, zK, fixed, zL, wit, Option.isSome_some, qH, evSliceP, evPre, St.with, zE, Array.size, te, einl, inls, efr]
      (first | exact ⟨(), trivial⟩ | refine ⟨(), ?_, trivial⟩ | skip)
    · have k86c := k86 c (by omega)
      have lI := memI_len i
      have lC := memI_len c
      by_cases hlen : (memM c).length = (memM i).length
      rotate_left
      · have e1 := ino c (fun h => hlen h.1)
        have q1 : (((memI i).length : Int) != ((memI c).length : Int)) = true := cast_ne (by omega)
        rw [e1]
        generalize memI i = Ri at *
        generalize memI c = Ci at *
        simp (maxSteps := 1000000) (implicitDefEqProofs := false) only [b1, b2, b3, k86i, k86c, q1, basesOb, regT ho hi, evBT_nil, evBT_cons, effT_true, effT_false, effT2_some, effT2_none, calmT, free, Eff.writes, supp, isBar, Option.toList_some, Option.toList_none, Int.natCast_nonneg, Int.toNat_natCast, List.length_map, ss, sd, zI, qG, zG, zH, St.get, qE, qF, qB, zD, norm, look, zF, qA, qI, St.alloc, St.drop, zA, part, zC, depth, qD, ↓reduceIte, Nat.reduceBEq, Nat.reduceAdd, Nat.reduceSub, Nat.reduceMul, Nat.reduceEqDiff, Nat.reduceLeDiff, Nat.reduceLT, qJ, qK, qL, qM, qN, qO, qP, qQ, qR, zJ, qS, qC, qT, evSlice0, qV, qW, qX, qY, qZ, zK, fixed, zL, wit, Option.isSome_some, qH, evSliceP, evPre, St.with, zE, Array.size, te, einl, inls, efr]
        (first | exact ⟨(), trivial⟩ | refine ⟨(), ?_, trivial⟩ | skip)
      · have q1 : (((memI i).length : Int) != ((memI c).length : Int)) = false := cast_eq (by omega)
        have gR : ∀ t, t < (memM i).length → (memI i)[t]? = some (((memM i).getD t 0 : Nat) : Int) := fun t ht => memI_get ht
        have gC : ∀ t, t < (memM c).length → (memI c)[t]? = some (((memM c).getD t 0 : Nat) : Int) := fun t ht => memI_get ht
        have hm0 : matTo ⟨tot, cs, lo, up⟩ i c 0 = [] := rfl
        have hms := fun t => matTo_succ (b := ⟨tot, cs, lo, up⟩) (i := i) (c := c) (t := t)
        have hml := fun t => matTo_len (b := ⟨tot, cs, lo, up⟩) (i := i) (c := c) (t := t)
        have hma := matTo_all ⟨tot, cs, lo, up⟩ i c
        generalize matTo ⟨tot, cs, lo, up⟩ i c = mt at *
        generalize hRi : memI i = Ri at *
        generalize hCi : memI c = Ci at *
        simp (maxSteps := 1000000) (implicitDefEqProofs := false) only [b1, b2, b3, k86i, k86c, q1, basesOb, regT ho hi, evBT_nil, evBT_cons, effT_true, effT_false, effT2_some, effT2_none, calmT, free, Eff.writes, supp, isBar, Option.toList_some, Option.toList_none, Int.natCast_nonneg, Int.toNat_natCast, List.length_map, ss, sd, zI, qG, zG, zH, St.get, qE, qF, qB, zD, norm, look, zF, qA, qI, St.alloc, St.drop, zA, part, zC, depth, qD, ↓reduceIte, Nat.reduceBEq, Nat.reduceAdd, Nat.reduceSub, Nat.reduceMul, Nat.reduceEqDiff, Nat.reduceLeDiff, Nat.reduceLT, qJ, qK, qL, qM, qN, qO, qP, qQ, qR, zJ, qS, qC, qT, evSlice0, qV, qW, qX, qY, qZ, zK, fixed, zL, wit, Option.isSome_some, qH, evSliceP, evPre, St.with, zE, Array.size, te, einl, inls, efr]
        generalize hr : loopAt _ _ _ _ _ _ = r; revert r
        have hR5 := memI_small i
        rw [hRi] at hR5
        refine loop_nat Ri.length (fun t _ => [(7, .own 7 0 (mt t).length), (44, .int .i64 (t : Nat))]) (fun t _ => [(7, grow 1 ((mt t).map encI))]) (fun _ (_ : Unit) => True) () (by omega) (by simp (maxSteps := 1000000) (implicitDefEqProofs := false) only [hm0, grow, List.map_nil, List.length_nil, Int.natCast_zero, ss, sd, zI, qG, zG, zH, St.get, qE, qF, qB, zD, norm, look, zF, qA, qI, St.alloc, St.drop, zA, part, zC, depth, qD, ↓reduceIte, Nat.reduceBEq, Nat.reduceAdd, Nat.reduceSub, Nat.reduceMul, Nat.reduceEqDiff, Nat.reduceLeDiff, Nat.reduceLT, qJ, qK, qL, qM, qN, qO, qP, qQ, qR, zJ, qS, qC, qT, evSlice0, qV, qW, qX, qY, qZ, zK, fixed, zL, wit, Option.isSome_some, qH, evSliceP, evPre, St.with, zE, Array.size, te, einl, inls, efr]) trivial (fun _ _ => ?_) (fun t _ _ d1 d2 d3 => ?_)
        · have ema : mt Ri.length = matB ⟨tot, cs, lo, up⟩ ⟨i, c⟩ := by rw [lI, hma]
          rw [ema]
          have k88 := c88 (memM i).length (matB ⟨tot, cs, lo, up⟩ ⟨i, c⟩) (hk4 i (by omega)) (by unfold matB matRC; rw [List.length_map]; rfl) (fun l hl => by
            obtain ⟨r, _, rfl⟩ := List.mem_map.1 hl
            rw [List.length_map]; exact hlen) (fun l hl v hv => by
            obtain ⟨r, _, rfl⟩ := List.mem_map.1 hl
            obtain ⟨c', hc', rfl⟩ := List.mem_map.1 hv
            have := coef_in hb (r := r) (memM_bound b1 hc')
            omega)
          have hdet : detF (memM i).length (matB ⟨tot, cs, lo, up⟩ ⟨i, c⟩) = detB ⟨tot, cs, lo, up⟩ ⟨i, c⟩ := rfl
          rw [hdet] at k88
          unfold encM at k88
          have iyc := iy c hlen
          have inc := ino c
          have hMl : (matB ⟨tot, cs, lo, up⟩ ⟨i, c⟩).length ≤ 5 := by unfold matB matRC; rw [List.length_map]; exact memM_small i
          have eb : ∀ y : Bs, encBasis ⟨tot, cs, lo, up⟩ y = .agg [.int .i64 tot, .sl false (cs.map encCem), .sl false (lo.map vI), .sl false (up.map vI), .sl false ((memI y.rs).map vI), .sl false ((memI y.cs).map vI), .int .i64 (detB ⟨tot, cs, lo, up⟩ y), .clo 89 [.sl true ((matB ⟨tot, cs, lo, up⟩ y).map encI)] []] := fun _ => rfl
          generalize hdd : detB ⟨tot, cs, lo, up⟩ ⟨i, c⟩ = d at *
          generalize hMM : matB ⟨tot, cs, lo, up⟩ ⟨i, c⟩ = M at *
          have t1 : (M.map encI).take M.length = M.map encI := List.take_of_length_le (by simp)
          by_cases hd0 : d = 0
          · have e1 := inc (fun h => h.2 hd0)
            rw [e1]
            subst hd0
            simp (maxSteps := 1000000) (implicitDefEqProofs := false) only [Int.lt_irrefl, b3, k88, t1, basesOb, grow, beq_self_eq_true, Int.natCast_nonneg, Int.toNat_natCast, List.length_map, ss, sd, zI, qG, zG, zH, St.get, qE, qF, qB, zD, norm, look, zF, qA, qI, St.alloc, St.drop, zA, part, zC, depth, qD, ↓reduceIte, Nat.reduceBEq, Nat.reduceAdd, Nat.reduceSub, Nat.reduceMul, Nat.reduceEqDiff, Nat.reduceLeDiff, Nat.reduceLT, qJ, qK, qL, qM, qN, qO, qP, qQ, qR, zJ, qS, qC, qT, evSlice0, qV, qW, qX, qY, qZ, zK, fixed, zL, wit, Option.isSome_some, qH, evSliceP, evPre, St.with, zE, Array.size, te, einl, inls, efr]
            (first | exact ⟨(), trivial⟩ | refine ⟨(), ?_, trivial⟩ | skip)
          · have e1 := iyc hd0
            have q2 : (d == 0) = false := by simpa using hd0
            have e5 := eb ⟨i, c⟩
            rw [hdd, hMM, hRi, hCi] at e5
            have hil := il c
            have hol2 := hol
            have hroom : roomy ((o ++ ir c).length + 1) 144 = true := by simp [roomy]; omega
            have hbig : (o ++ ir c).length ≤ 4294967295 := by rw [List.length_append]; omega
            have e6 : (o ++ ir c).map (encBasis ⟨tot, cs, lo, up⟩) ++ [.agg [.int .i64 tot, .sl false (cs.map encCem), .sl false (lo.map vI), .sl false (up.map vI), .sl false (Ri.map vI), .sl false (Ci.map vI), .int .i64 d, .clo 89 [.sl true (M.map encI)] []]] = (o ++ ir (c + 1)).map (encBasis ⟨tot, cs, lo, up⟩) := by
              rw [e1, ← List.append_assoc, List.map_append (l₁ := o ++ ir c), List.map_cons, List.map_nil, e5]
            have e7 : (o ++ ir (c + 1)).length = (o ++ ir c).length + 1 := by rw [e1]; simp; omega
            have e8 : ((o ++ ir (c + 1)).map (encBasis ⟨tot, cs, lo, up⟩)).isEmpty = false := by rw [e1]; simp
            simp (maxSteps := 1000000) (implicitDefEqProofs := false) only [Int.lt_irrefl, b3, k88, q2, t1, hroom, hbig, e6, e7, e8, basesOb, grow, Int.natCast_nonneg, Int.toNat_natCast, List.length_map, ss, sd, zI, qG, zG, zH, St.get, qE, qF, qB, zD, norm, look, zF, qA, qI, St.alloc, St.drop, zA, part, zC, depth, qD, ↓reduceIte, Nat.reduceBEq, Nat.reduceAdd, Nat.reduceSub, Nat.reduceMul, Nat.reduceEqDiff, Nat.reduceLeDiff, Nat.reduceLT, qJ, qK, qL, qM, qN, qO, qP, qQ, qR, zJ, qS, qC, qT, evSlice0, qV, qW, qX, qY, qZ, zK, fixed, zL, wit, Option.isSome_some, qH, evSliceP, evPre, St.with, zE, Array.size, te, einl, inls, efr]
            (first | exact ⟨(), trivial⟩ | refine ⟨(), ?_, trivial⟩ | skip)
        · have tR : t < (memM i).length := by omega
          have gr := gR t tR
          have ems := hms t tR
          have hrm : (memM i).getD t 0 ≤ lo.length := by
            rw [getD_in tR]
            have := memM_bound a1 (List.getElem_mem tR)
            omega
          have hmlt := hml t
          generalize (memM i).getD t 0 = r at *
          have hl0 := lineC_zero ⟨tot, cs, lo, up⟩ r (memM c)
          have hls := fun s => lineC_succ (b := ⟨tot, cs, lo, up⟩) (r := r) (C := memM c) (s := s)
          have hll := fun s => lineC_len (b := ⟨tot, cs, lo, up⟩) (r := r) (C := memM c) (s := s)
          have hla := lineC_all ⟨tot, cs, lo, up⟩ r (memM c)
          have k87r := fun c' h1 h2 => k87 r c' h1 h2 (by omega)
          have hcin : ∀ s, s < (memM c).length → (memM c).getD s 0 < cs.length := fun s hs => by rw [getD_in hs]; exact memM_bound b1 (List.getElem_mem hs)
          have hps : ∀ c', c' < cs.length → (psAt ⟨tot, cs, lo, up⟩ c').length = lo.length := fun c' h => (cem_at hb h).2.2.1
          have hC5 := memI_small c
          rw [hCi] at hC5
          generalize lineC ⟨tot, cs, lo, up⟩ r (memM c) = lt at *
          generalize mt (t + 1) = m1 at *
          generalize mt t = m0 at *
          generalize rowI ⟨tot, cs, lo, up⟩ r (memM c) = rI at *
          simp (maxSteps := 1000000) (implicitDefEqProofs := false) only [d1, d2, d3, gr, vI, basesOb, grow, Int.natCast_nonneg, Int.toNat_natCast, List.getElem?_map, List.length_map, ss, sd, zI, qG, zG, zH, St.get, qE, qF, qB, zD, norm, look, zF, qA, qI, St.alloc, St.drop, zA, part, zC, depth, qD, ↓reduceIte, Nat.reduceBEq, Nat.reduceAdd, Nat.reduceSub, Nat.reduceMul, Nat.reduceEqDiff, Nat.reduceLeDiff, Nat.reduceLT, qJ, qK, qL, qM, qN, qO, qP, qQ, qR, zJ, qS, qC, qT, evSlice0, qV, qW, qX, qY, qZ, zK, fixed, zL, wit, Option.isSome_some, qH, evSliceP, evPre, St.with, zE, Array.size, te, einl, inls, efr]
          generalize hr : loopAt _ _ _ _ _ _ = r; revert r
          refine loop_nat Ci.length (fun s _ => [(10, .own 10 0 (lt s).length), (51, .int .i64 (s : Nat))]) (fun s _ => [(10, grow 1 ((lt s).map vI))]) (fun _ (_ : Unit) => True) () (by omega) (by simp (maxSteps := 1000000) (implicitDefEqProofs := false) only [hl0, grow, List.map_nil, List.length_nil, Int.natCast_zero, ss, sd, zI, qG, zG, zH, St.get, qE, qF, qB, zD, norm, look, zF, qA, qI, St.alloc, St.drop, zA, part, zC, depth, qD, ↓reduceIte, Nat.reduceBEq, Nat.reduceAdd, Nat.reduceSub, Nat.reduceMul, Nat.reduceEqDiff, Nat.reduceLeDiff, Nat.reduceLT, qJ, qK, qL, qM, qN, qO, qP, qQ, qR, zJ, qS, qC, qT, evSlice0, qV, qW, qX, qY, qZ, zK, fixed, zL, wit, Option.isSome_some, qH, evSliceP, evPre, St.with, zE, Array.size, te, einl, inls, efr]) trivial (fun _ _ => ?_) (fun s _ _ f1 f2 f3 => ?_)
          · have ela : lt Ci.length = rI := by rw [lC, hla]
            rw [ela]
            have t1 : (rI.map vI).take rI.length = rI.map vI := List.take_of_length_le (by simp)
            have hroom : roomy (m0.length + 1) 24 = true := by simp [roomy]; omega
            have hbig : m0.length + 1 ≤ 4294967296 := by omega
            have z1 := sized_encI m0
            have e3 : m0.map encI ++ [.sl true (rI.map vI)] = m1.map encI := by rw [ems]; simp [encI]
            have e4 : m1.length = m0.length + 1 := by rw [ems]; simp
            simp (maxSteps := 1000000) (implicitDefEqProofs := false) only [Int.lt_irrefl, d3, t1, hroom, hbig, z1, e3, e4, basesOb, grow, List.length_map, ss, sd, zI, qG, zG, zH, St.get, qE, qF, qB, zD, norm, look, zF, qA, qI, St.alloc, St.drop, zA, part, zC, depth, qD, ↓reduceIte, Nat.reduceBEq, Nat.reduceAdd, Nat.reduceSub, Nat.reduceMul, Nat.reduceEqDiff, Nat.reduceLeDiff, Nat.reduceLT, qJ, qK, qL, qM, qN, qO, qP, qQ, qR, zJ, qS, qC, qT, evSlice0, qV, qW, qX, qY, qZ, zK, fixed, zL, wit, Option.isSome_some, qH, evSliceP, evPre, St.with, zE, Array.size, te, einl, inls, efr]
            (first | exact ⟨(), trivial⟩ | refine ⟨(), ?_, trivial⟩ | skip)
          · have sC : s < (memM c).length := by omega
            have gc := gC s sC
            have hc1 := hcin s sC
            have els := hls s sC
            have hlls := hll s
            have k87s := k87r _ hc1 (by rw [hps _ hc1]; omega)
            generalize (memM c).getD s 0 = c' at *
            generalize lt (s + 1) = l1 at *
            generalize lt s = l0 at *
            generalize coefB ⟨tot, cs, lo, up⟩ r c' = cf at *
            have hroom : roomy (l0.length + 1) 8 = true := by simp [roomy]; omega
            have hbig : l0.length + 1 ≤ 4294967296 := by omega
            have z1 : sized 1 (l0.map vI) = true := sized_vI _
            have e3 : l0.map vI ++ [.int .i64 cf] = l1.map vI := by rw [els]; simp [vI]
            have e4 : l1.length = l0.length + 1 := by rw [els]; simp
            simp (maxSteps := 1000000) (implicitDefEqProofs := false) only [f1, f2, f3, gc, k87s, hroom, hbig, z1, e3, e4, vI, basesOb, grow, Int.natCast_nonneg, Int.toNat_natCast, List.getElem?_map, List.length_map, ss, sd, zI, qG, zG, zH, St.get, qE, qF, qB, zD, norm, look, zF, qA, qI, St.alloc, St.drop, zA, part, zC, depth, qD, ↓reduceIte, Nat.reduceBEq, Nat.reduceAdd, Nat.reduceSub, Nat.reduceMul, Nat.reduceEqDiff, Nat.reduceLeDiff, Nat.reduceLT, qJ, qK, qL, qM, qN, qO, qP, qQ, qR, zJ, qS, qC, qT, evSlice0, qV, qW, qX, qY, qZ, zK, fixed, zL, wit, Option.isSome_some, qH, evSliceP, evPre, St.with, zE, Array.size, te, einl, inls, efr]
            (first | exact ⟨(), trivial⟩ | refine ⟨(), ?_, trivial⟩ | skip)
end Go.AM.E

