/-
The amounts of a choice (the document).
-/
import Derived.Test.YtkacpekakpbalaaEAmtP
import Derived.Test.YtkacpekakpbalaaECheckB
set_option linter.unusedVariables false
set_option linter.unusedSimpArgs false
set_option maxRecDepth 20000

namespace Go.AM.E
open Go Go.AM Go.Proofs

theorem encP_true (L : List (List Int)) : L.map encI = (L.map fun l => ((true, l) : Bool × List Int)).map encP := by
  rw [List.map_map]; rfl
theorem okT51 : okCode (Try.f51.body.getD .skip) = true := by decide +kernel
set_option maxRecDepth 20000 in
set_option maxHeartbeats 16000000 in
theorem c51 (b : Blend) (vc vp : List Int) (hb : Valid b) (hc : vc.length = b.cs.length) (hp : vp.length = b.lo.length) (hv : ∀ v ∈ vc, v = 0 ∨ v = 1 ∨ v = 2)
    (hd : (eqRows b vc vp b.lo.length).length = (eqOnes vc b.cs.length).length → -192000 ≤ detF (eqRows b vc vp b.lo.length).length (eqRows b vc vp b.lo.length) ∧ detF (eqRows b vc vp b.lo.length).length (eqRows b vc vp b.lo.length) ≤ 192000) :
    (orcω E XS).call 51 [encBlend b, encV vc vp] = some (encAm3 b (amRef b vc vp)) := by
  refine call_of rfl fn51 rfl ?_
  have hok := okT51
  simp only [Try.f51, Option.getD_some, okCode, Bool.and_eq_true, Bool.and_true, Bool.true_and] at hok
  have k81 := c81 b vc vp hb hc hp
  obtain ⟨rest, hrows⟩ := eqRows_head b vc vp b.lo.length
  have hall := eqRows_all b vc vp b.lo.length
  have hlen := eqRows_len b vc vp b.lo.length
  have hri := eqRight_len b vc vp b.lo.length
  have hom := fun i (h : i ≤ b.cs.length) => eqOnes_mono vc h
  have hst : ∀ c ∈ b.cs, 0 ≤ c.st ∧ c.st ≤ 1000 := fun c h => (cemOk_iff.1 (hb.2.2.2.2.2.2.2 c h)).1
  obtain ⟨hn1, hn2⟩ := hb.2.1
  have hl3 := hb.2.2.1
  unfold amRef
  dsimp only
  generalize hRR : eqRows b vc vp b.lo.length = R at *
  generalize eqRight b vc vp b.lo.length = RI at *
  have k62 := fun (x : List Int) (dn : Int) (h : RightA b ⟨dn, x⟩) => c62 b ⟨dn, x⟩ hb h
  have ln0 : (eqOnes vc b.cs.length).length ≤ 1000 := by have := eqOnes_len vc b.cs.length; omega
  unfold encV at k81 ⊢
  unfold encM at k81
  by_cases h1 : R.length = (eqOnes vc b.cs.length).length
  · rw [if_neg (by simpa using h1)]
    have hd := hd h1
    have ln1 : R.length ≤ 4 := by omega
    have k82 := c82 R.length (R.map fun l => (true, l)) ln1 (by simp) (fun l h => by
      obtain ⟨l0, h0, rfl⟩ := List.mem_map.1 h
      show l0.length = _
      rw [hall l0 h0, h1])
    have e0 : (R.map fun l => ((true, l) : Bool × List Int)).map (·.2) = R := by simp [List.map_map, Function.comp_def]
    rw [e0, ← encP_true] at k82
    have k83 := fun (j : Nat) (hj : j < R.length) => c83 (R.map fun l => (true, l)) j RI (by simp; omega) (by simp; omega) (fun l h => by
      obtain ⟨l0, h0, rfl⟩ := List.mem_map.1 h
      have := hall l0 h0
      show j < l0.length ∧ l0.length ≤ 1000
      omega)
    have k82' := fun (j : Nat) => c82 R.length ((replM (R.map fun l => (true, l)) j RI).map fun l => (true, l)) ln1 (by rw [List.length_map, replM_len (by simp; omega), List.length_map]) (fun l h => by
      obtain ⟨l0, h0, rfl⟩ := List.mem_map.1 h
      refine replM_all (M := R.map fun l => (true, l)) (fun p hp => ?_) l0 h0
      obtain ⟨l1, h2, rfl⟩ := List.mem_map.1 hp
      show l1.length = _
      rw [hall l1 h2, h1])
    have e1 : ∀ L : List (List Int), (L.map fun l => ((true, l) : Bool × List Int)).map (·.2) = L := fun L => by simp [List.map_map, Function.comp_def]
    simp only [e1, ← encP_true] at k82' k83
    have wd : IntKind.i64.wrap (detF R.length R) = detF R.length R := wrap_in (by omega)
    rw [wd] at k82
    have q1 : (((rest.length + 1 : Nat) : Int) != ((eqOnes vc b.cs.length).length : Int)) = false := by
      rw [hrows] at h1
      simp only [List.length_cons] at h1
      simp
      omega
    have hRL : R.length = rest.length + 1 := by rw [hrows]; rfl
    have fx := fun (sg dn : Int) (i : Nat) => (show xRef b.cs R.length R RI sg dn vc i = if vc.getD i 0 = 0 then 0 else if vc.getD i 0 = 1 then (b.cs.getD i cem0).st * dn else IntKind.i64.wrap (sg * IntKind.i64.wrap (detF R.length (replM (R.map fun l => (true, l)) (eqOnes vc i).length RI))) from rfl)
    have on1 : ∀ i, (eqOnes vc (i + 1)).length = if vc.getD i 0 = 2 then (eqOnes vc i).length + 1 else (eqOnes vc i).length := fun i => by
      show (if vc.getD i 0 = 2 then eqOnes vc i ++ [1] else eqOnes vc i).length = _
      split <;> simp
    have on0 : (eqOnes vc 0).length = 0 := rfl
    generalize xRef b.cs R.length R RI = f at *
    generalize hdd : detF R.length R = d at *
    have q2 := q1
    rw [← h1, hRL] at q2
    rw [hrows, List.map_cons] at k81
    have hRm : R.map encI = encI (eqOnes vc b.cs.length) :: rest.map encI := by rw [hrows]; rfl
    have hlo : (eqOnes vc b.cs.length).length = rest.length + 1 := by omega
    by_cases hd0 : d = 0
    · rw [if_pos hd0]
      have q3 : (d == 0) = true := by simpa using hd0
      rw [hRm] at k82
      clear k62 hom hall fx k83 k82' on1 on0
      generalize eqOnes vc b.cs.length = on at *
      obtain ⟨tot, cs, lo, hi⟩ := b
      unfold encBlend at k81 ⊢
      dsimp only at *
      simp only [encI] at k81 k82
      simp (maxSteps := 1000000) (implicitDefEqProofs := false) only [Try.ntmps51, Try.results51, efc51, fc51, k81, q1, k82, q3, encAm3, Int.le_refl, Int.toNat_zero, List.getElem?_cons_zero, List.length_cons, List.length_map, List.map_nil, ss, sd, zI, qG, zG, zH, St.get, qE, qF, qB, zD, norm, look, zF, qA, qI, St.alloc, St.drop, zA, part, zC, depth, qD, ↓reduceIte, Nat.reduceBEq, Nat.reduceAdd, Nat.reduceSub, Nat.reduceMul, Nat.reduceEqDiff, Nat.reduceLeDiff, Nat.reduceLT, qJ, qK, qL, qM, qN, qO, qP, qQ, qR, zJ, qS, qC, qT, qU, qV, qW, qX, qY, qZ, zK, fixed, zL, wit, Option.isSome_some, qH, St.with, zE, Array.size, te, einl, inls, efr]
    · rw [if_neg hd0]
      have q3 : (d == 0) = false := by simpa using hd0
      have fx := fx (sgD d) (sgD d * d)
      generalize f (sgD d) (sgD d * d) vc = g at *
      have hdn : 1 ≤ sgD d * d ∧ sgD d * d ≤ 192000 := by unfold sgD; split <;> omega
      have hsg : sgD d = 1 ∨ sgD d = -1 := by unfold sgD; split <;> simp
      have hcase : (d < 0 ∧ sgD d = -1) ∨ (¬ d < 0 ∧ sgD d = 1) := by
        by_cases h : d < 0
        · exact .inl ⟨h, by unfold sgD; rw [if_pos h]⟩
        · exact .inr ⟨h, by unfold sgD; rw [if_neg h]⟩
      have w3 : IntKind.i64.wrap (d * sgD d) = sgD d * d := by rw [Int.mul_comm]; exact wrap_in (by omega)
      generalize sgD d = sg at *
      generalize hdnn : sg * d = dn at *
      have c0 : okRef b.cs dn g 0 = true := rfl
      have cs1 := okRef_succ b.cs dn g
      have cno := fun i (h : okRef b.cs dn g i = false) => okRef_no (m := b.cs.length) h
      have cat := fun i (h : i < b.cs.length) (h2 : okRef b.cs dn g b.cs.length = true) => okRef_at h2 h
      have xs0 : xsRef g 0 = [] := rfl
      have xs1 := xsRef_succ g
      have xsl := xsRef_len g
      have hfin : okRef b.cs dn g b.cs.length = true → RightA b ⟨dn, xsRef g b.cs.length⟩ := fun h => by
        refine ⟨by show 1 ≤ dn ∧ dn ≤ 1048576; omega, xsl _, fun n hn => ?_⟩
        obtain ⟨i, hi, rfl⟩ := List.mem_map.1 hn
        have hi := List.mem_range.1 hi
        have h4 := inB_iff.1 (cat i hi h)
        have h5 : b.cs.getD i cem0 = b.cs[i] := by rw [List.getD_eq_getElem?_getD, List.getElem?_eq_getElem hi]; rfl
        have h6 := hst b.cs[i] (List.getElem_mem _)
        have h7 := mul_in h6 (show 0 ≤ dn ∧ dn ≤ 192000 by omega)
        rw [h5] at h4
        omega
      have k62 := fun h => k62 _ _ (hfin h)
      rw [hRm] at k82 k83
      clear hall hrows
      generalize eqOnes vc b.cs.length = on at *
      obtain ⟨tot, cs, lo, hi⟩ := b
      unfold encBlend at k81 k62 ⊢
      dsimp only at *
      simp only [encI] at k81 k82 k83
      apply shareE hcase
      · rintro ⟨hneg, hs1⟩ main
        have w3' := w3
        rw [hs1] at w3'
        simp (maxSteps := 1000000) (implicitDefEqProofs := false) only [Try.ntmps51, Try.results51, efc51, fc51, k81, q1, k82, q3, hneg, w3', Int.le_refl, Int.toNat_zero, List.getElem?_cons_zero, List.length_cons, List.length_map, List.map_nil, ss, sd, zI, qG, zG, zH, St.get, qE, qF, qB, zD, norm, look, zF, qA, qI, St.alloc, St.drop, zA, part, zC, depth, qD, ↓reduceIte, Nat.reduceBEq, Nat.reduceAdd, Nat.reduceSub, Nat.reduceMul, Nat.reduceEqDiff, Nat.reduceLeDiff, Nat.reduceLT, qJ, qK, qL, qM, qN, qO, qP, qQ, qR, zJ, qS, qC, qT, qU, qV, qW, qX, qY, qZ, zK, fixed, zL, wit, Option.isSome_some, qH, St.with, zE, Array.size, te, einl, inls, efr]
        generalize hv : V.int IntKind.i64 (-1) = vv
        have hv' : vv = V.int IntKind.i64 sg := by rw [← hv, hs1]
        clear hv
        revert hv'
        revert vv
        exact main
      · rintro ⟨hneg, hs1⟩ main
        have w3' := w3
        rw [hs1] at w3'
        simp (maxSteps := 1000000) (implicitDefEqProofs := false) only [Try.ntmps51, Try.results51, efc51, fc51, k81, q1, k82, q3, hneg, w3', Int.le_refl, Int.toNat_zero, List.getElem?_cons_zero, List.length_cons, List.length_map, List.map_nil, ss, sd, zI, qG, zG, zH, St.get, qE, qF, qB, zD, norm, look, zF, qA, qI, St.alloc, St.drop, zA, part, zC, depth, qD, ↓reduceIte, Nat.reduceBEq, Nat.reduceAdd, Nat.reduceSub, Nat.reduceMul, Nat.reduceEqDiff, Nat.reduceLeDiff, Nat.reduceLT, qJ, qK, qL, qM, qN, qO, qP, qQ, qR, zJ, qS, qC, qT, qU, qV, qW, qX, qY, qZ, zK, fixed, zL, wit, Option.isSome_some, qH, St.with, zE, Array.size, te, einl, inls, efr]
        generalize hv : V.int IntKind.i64 1 = vv
        have hv' : vv = V.int IntKind.i64 sg := by rw [← hv, hs1]
        clear hv
        revert hv'
        revert vv
        exact main
      intro vv hv
      subst hv
      generalize hr : loopAt _ _ _ _ _ _ = r; revert r
      refine loop_nat cs.length (fun i _ => [(11, .own 11 0 i), (12, .int .i64 ((eqOnes vc i).length : Nat)), (13, .int .i64 (i : Nat))]) (fun i _ => [(11, grow 1 ((xsRef g i).map vI))]) (fun i (_ : Unit) => okRef cs dn g i = true) () (by omega) (by simp (maxSteps := 1000000) (implicitDefEqProofs := false) only [xs0, on0, grow, List.map_nil, Int.natCast_zero, ss, sd, zI, qG, zG, zH, St.get, qE, qF, qB, zD, norm, look, zF, qA, qI, St.alloc, St.drop, zA, part, zC, depth, qD, ↓reduceIte, Nat.reduceBEq, Nat.reduceAdd, Nat.reduceSub, Nat.reduceMul, Nat.reduceEqDiff, Nat.reduceLeDiff, Nat.reduceLT, qJ, qK, qL, qM, qN, qO, qP, qQ, qR, zJ, qS, qC, qT, qU, qV, qW, qX, qY, qZ, zK, fixed, zL, wit, Option.isSome_some, qH, St.with, zE, Array.size, te, einl, inls, efr]) c0 (fun _ hI => ?_) (fun i _ hI a1 a2 a3 => ?_)
      · have t1 : ((xsRef g cs.length).map vI).take cs.length = (xsRef g cs.length).map vI := List.take_of_length_le (by simp [xsl])
        have l1 : cs.length ≤ (xsRef g cs.length).length := by rw [xsl]; exact Nat.le_refl _
        have k62 := k62 hI
        rw [if_pos hI]
        generalize xsRef g cs.length = xx at *
        simp (maxSteps := 1000000) (implicitDefEqProofs := false) only [Int.lt_irrefl, grow, t1, l1, k62, encAm3, List.length_map, Try.ntmps51, Try.results51, efc51, fc51, ss, sd, zI, qG, zG, zH, St.get, qE, qF, qB, zD, norm, look, zF, qA, qI, St.alloc, St.drop, zA, part, zC, depth, qD, ↓reduceIte, Nat.reduceBEq, Nat.reduceAdd, Nat.reduceSub, Nat.reduceMul, Nat.reduceEqDiff, Nat.reduceLeDiff, Nat.reduceLT, qJ, qK, qL, qM, qN, qO, qP, qQ, qR, zJ, qS, qC, qT, qU, qV, qW, qX, qY, qZ, zK, fixed, zL, wit, Option.isSome_some, qH, St.with, zE, Array.size, te, einl, inls, efr]
      · have g1 : cs[i]? = some cs[i] := List.getElem?_eq_getElem a1
        have g2 : vc[i]? = some vc[i] := List.getElem?_eq_getElem (by omega)
        have a4 : (i : Int) < vc.length := by omega
        have e1 : vc.getD i 0 = vc[i] := by rw [List.getD_eq_getElem?_getD, g2]; rfl
        have e2 : cs.getD i cem0 = cs[i] := by rw [List.getD_eq_getElem?_getD, g1]; rfl
        have fx := fx i
        have on1 := on1 i
        have hvi := hv vc[i] (List.getElem_mem _)
        have hsi := hst cs[i] (List.getElem_mem _)
        have k49 := c49 (g i) 0 (cs[i].st * dn)
        have c1' := cs1 i
        have cno := cno (i + 1)
        have xs1 := xs1 i
        have xsli := xsl i
        rw [hI, Bool.true_and] at c1'
        rw [e1, e2] at fx
        rw [e1] at on1
        rw [e2] at c1'
        have hmi := hom i (by omega)
        have hmi1 := hom (i + 1) (by omega)
        have mm := mul_in hsi (show 0 ≤ dn ∧ dn ≤ 192000 by omega)
        have w5 : IntKind.i64.wrap (cs[i].st * dn) = cs[i].st * dn := wrap_in (by omega)
        clear e1 e2 hom xsl cs1 hv cat
        have k83 := k83 (eqOnes vc i).length
        have k82' := k82' (eqOnes vc i).length
        generalize cs[i] = c at *
        generalize vc[i] = v at *
        generalize (eqOnes vc (i + 1)).length = j1 at *
        generalize (eqOnes vc i).length = j0 at *
        generalize xsRef g (i + 1) = x1 at *
        generalize xsRef g i = x0 at *
        generalize okRef cs dn g (i + 1) = ok1 at *
        generalize g i = gi at *
        subst xs1
        subst ok1
        have ro : roomy (i + 1) 8 = true := by simp [roomy]; omega
        have bi : i + 1 ≤ 4294967296 := by omega
        have z1 : sized 1 (x0.map vI) = true := sized_vI _
        have e3 : x0.map vI ++ [.int .i64 gi] = (x0 ++ [gi]).map vI := by simp [vI]
        have gx : (x0 ++ [gi])[i]? = some gi := by rw [List.getElem?_append_right (by omega), xsli, Nat.sub_self]; rfl
        have a5 : (i : Int) < ((i + 1 : Nat) : Int) := by omega
        have q2' : ((2 : Int) == 0) = false := by decide
        have q21 : ((2 : Int) == 1) = false := by decide
        have q10 : ((1 : Int) == 0) = false := by decide
        have q11 : ((1 : Int) == 1) = true := by decide
        have q00 : ((0 : Int) == 0) = true := by decide
        have n10 : ¬ (1 : Int) = 0 := by decide
        have n20 : ¬ (2 : Int) = 0 := by decide
        have n21 : ¬ (2 : Int) = 1 := by decide
        have n02 : ¬ (0 : Int) = 2 := by decide
        have n12 : ¬ (1 : Int) = 2 := by decide
        cases hb : inB gi 0 (c.st * dn) with
        | false =>
          rw [hb] at k49
          have cF := cno hb (by omega)
          rw [if_neg (by rw [cF]; decide)]
          rcases hvi with h | h | h
          · subst h
            rw [if_pos rfl] at fx
            rw [if_neg n02] at on1
            subst fx
            subst on1
            simp (maxSteps := 1000000) (implicitDefEqProofs := false) only [q00, a1, a2, a3, a4, a5, g1, g2, gx, w5, k49, evRegion_st hok, ro, bi, z1, xsli, e3, grow, encCem, encAm3, vI, Int.natCast_nonneg, Int.toNat_natCast, List.getElem?_map, List.length_map, List.length_append, List.length_singleton, Bool.not_true, Bool.not_false, Try.ntmps51, Try.results51, efc51, fc51, ss, sd, zI, qG, zG, zH, St.get, qE, qF, qB, zD, norm, look, zF, qA, qI, St.alloc, St.drop, zA, part, zC, depth, qD, ↓reduceIte, Nat.reduceBEq, Nat.reduceAdd, Nat.reduceSub, Nat.reduceMul, Nat.reduceEqDiff, Nat.reduceLeDiff, Nat.reduceLT, qJ, qK, qL, qM, qN, qO, qP, qQ, qR, zJ, qS, qC, qT, qU, qV, qW, qX, qY, qZ, zK, fixed, zL, wit, Option.isSome_some, qH, St.with, zE, Array.size, te, einl, inls, efr]
          · subst h
            rw [if_neg n10, if_pos rfl] at fx
            rw [if_neg n12] at on1
            subst on1
            subst fx
            simp (maxSteps := 1000000) (implicitDefEqProofs := false) only [q10, q11, a1, a2, a3, a4, a5, g1, g2, gx, w5, k49, evRegion_st hok, ro, bi, z1, xsli, e3, grow, encCem, encAm3, vI, Int.natCast_nonneg, Int.toNat_natCast, List.getElem?_map, List.length_map, List.length_append, List.length_singleton, Bool.not_true, Bool.not_false, Try.ntmps51, Try.results51, efc51, fc51, ss, sd, zI, qG, zG, zH, St.get, qE, qF, qB, zD, norm, look, zF, qA, qI, St.alloc, St.drop, zA, part, zC, depth, qD, ↓reduceIte, Nat.reduceBEq, Nat.reduceAdd, Nat.reduceSub, Nat.reduceMul, Nat.reduceEqDiff, Nat.reduceLeDiff, Nat.reduceLT, qJ, qK, qL, qM, qN, qO, qP, qQ, qR, zJ, qS, qC, qT, qU, qV, qW, qX, qY, qZ, zK, fixed, zL, wit, Option.isSome_some, qH, St.with, zE, Array.size, te, einl, inls, efr]
          · subst h
            rw [if_neg n20, if_neg n21] at fx
            rw [if_pos rfl] at on1
            have k83 := k83 (by omega)
            have w6 : IntKind.i64.wrap ((j0 : Int) + 1) = ((j1 : Nat) : Int) := by rw [wrap_in (by omega)]; omega
            unfold encM at k83
            simp (maxSteps := 1000000) (implicitDefEqProofs := false) only [q2', q21, k83, k82', ← fx, w6, a1, a2, a3, a4, a5, g1, g2, gx, w5, k49, evRegion_st hok, ro, bi, z1, xsli, e3, grow, encCem, encAm3, vI, Int.natCast_nonneg, Int.toNat_natCast, List.getElem?_map, List.length_map, List.length_append, List.length_singleton, Bool.not_true, Bool.not_false, Try.ntmps51, Try.results51, efc51, fc51, ss, sd, zI, qG, zG, zH, St.get, qE, qF, qB, zD, norm, look, zF, qA, qI, St.alloc, St.drop, zA, part, zC, depth, qD, ↓reduceIte, Nat.reduceBEq, Nat.reduceAdd, Nat.reduceSub, Nat.reduceMul, Nat.reduceEqDiff, Nat.reduceLeDiff, Nat.reduceLT, qJ, qK, qL, qM, qN, qO, qP, qQ, qR, zJ, qS, qC, qT, qU, qV, qW, qX, qY, qZ, zK, fixed, zL, wit, Option.isSome_some, qH, St.with, zE, Array.size, te, einl, inls, efr]
        | true =>
          rw [hb] at k49
          rcases hvi with h | h | h
          · subst h
            rw [if_pos rfl] at fx
            rw [if_neg n02] at on1
            subst fx
            subst on1
            simp (maxSteps := 1000000) (implicitDefEqProofs := false) only [q00, a1, a2, a3, a4, a5, g1, g2, gx, w5, k49, evRegion_st hok, ro, bi, z1, xsli, e3, grow, encCem, encAm3, vI, Int.natCast_nonneg, Int.toNat_natCast, List.getElem?_map, List.length_map, List.length_append, List.length_singleton, Bool.not_true, Bool.not_false, Try.ntmps51, Try.results51, efc51, fc51, ss, sd, zI, qG, zG, zH, St.get, qE, qF, qB, zD, norm, look, zF, qA, qI, St.alloc, St.drop, zA, part, zC, depth, qD, ↓reduceIte, Nat.reduceBEq, Nat.reduceAdd, Nat.reduceSub, Nat.reduceMul, Nat.reduceEqDiff, Nat.reduceLeDiff, Nat.reduceLT, qJ, qK, qL, qM, qN, qO, qP, qQ, qR, zJ, qS, qC, qT, qU, qV, qW, qX, qY, qZ, zK, fixed, zL, wit, Option.isSome_some, qH, St.with, zE, Array.size, te, einl, inls, efr]
            (first | exact ⟨(), trivial⟩ | refine ⟨(), ?_, trivial⟩ | skip)
          · subst h
            rw [if_neg n10, if_pos rfl] at fx
            rw [if_neg n12] at on1
            subst on1
            subst fx
            simp (maxSteps := 1000000) (implicitDefEqProofs := false) only [q10, q11, a1, a2, a3, a4, a5, g1, g2, gx, w5, k49, evRegion_st hok, ro, bi, z1, xsli, e3, grow, encCem, encAm3, vI, Int.natCast_nonneg, Int.toNat_natCast, List.getElem?_map, List.length_map, List.length_append, List.length_singleton, Bool.not_true, Bool.not_false, Try.ntmps51, Try.results51, efc51, fc51, ss, sd, zI, qG, zG, zH, St.get, qE, qF, qB, zD, norm, look, zF, qA, qI, St.alloc, St.drop, zA, part, zC, depth, qD, ↓reduceIte, Nat.reduceBEq, Nat.reduceAdd, Nat.reduceSub, Nat.reduceMul, Nat.reduceEqDiff, Nat.reduceLeDiff, Nat.reduceLT, qJ, qK, qL, qM, qN, qO, qP, qQ, qR, zJ, qS, qC, qT, qU, qV, qW, qX, qY, qZ, zK, fixed, zL, wit, Option.isSome_some, qH, St.with, zE, Array.size, te, einl, inls, efr]
            (first | exact ⟨(), trivial⟩ | refine ⟨(), ?_, trivial⟩ | skip)
          · subst h
            rw [if_neg n20, if_neg n21] at fx
            rw [if_pos rfl] at on1
            have k83 := k83 (by omega)
            have w6 : IntKind.i64.wrap ((j0 : Int) + 1) = ((j1 : Nat) : Int) := by rw [wrap_in (by omega)]; omega
            unfold encM at k83
            simp (maxSteps := 1000000) (implicitDefEqProofs := false) only [q2', q21, k83, k82', ← fx, w6, a1, a2, a3, a4, a5, g1, g2, gx, w5, k49, evRegion_st hok, ro, bi, z1, xsli, e3, grow, encCem, encAm3, vI, Int.natCast_nonneg, Int.toNat_natCast, List.getElem?_map, List.length_map, List.length_append, List.length_singleton, Bool.not_true, Bool.not_false, Try.ntmps51, Try.results51, efc51, fc51, ss, sd, zI, qG, zG, zH, St.get, qE, qF, qB, zD, norm, look, zF, qA, qI, St.alloc, St.drop, zA, part, zC, depth, qD, ↓reduceIte, Nat.reduceBEq, Nat.reduceAdd, Nat.reduceSub, Nat.reduceMul, Nat.reduceEqDiff, Nat.reduceLeDiff, Nat.reduceLT, qJ, qK, qL, qM, qN, qO, qP, qQ, qR, zJ, qS, qC, qT, qU, qV, qW, qX, qY, qZ, zK, fixed, zL, wit, Option.isSome_some, qH, St.with, zE, Array.size, te, einl, inls, efr]
            (first | exact ⟨(), trivial⟩ | refine ⟨(), ?_, trivial⟩ | skip)
  · rw [if_pos h1]
    have q1 : (((rest.length + 1 : Nat) : Int) != ((eqOnes vc b.cs.length).length : Int)) = true := by
      rw [hrows] at h1
      simp only [List.length_cons] at h1
      simp
      omega
    rw [hrows] at k81
    simp only [List.map_cons, encI] at k81
    clear k62 hom hall
    generalize eqOnes vc b.cs.length = on at *
    obtain ⟨tot, cs, lo, hi⟩ := b
    unfold encBlend at k81 ⊢
    dsimp only at *
    simp (maxSteps := 1000000) (implicitDefEqProofs := false) only [Try.ntmps51, Try.results51, efc51, fc51, k81, q1, encAm3, Int.le_refl, Int.toNat_zero, List.getElem?_cons_zero, List.length_cons, List.length_map, List.map_nil, ss, sd, zI, qG, zG, zH, St.get, qE, qF, qB, zD, norm, look, zF, qA, qI, St.alloc, St.drop, zA, part, zC, depth, qD, ↓reduceIte, Nat.reduceBEq, Nat.reduceAdd, Nat.reduceSub, Nat.reduceMul, Nat.reduceEqDiff, Nat.reduceLeDiff, Nat.reduceLT, qJ, qK, qL, qM, qN, qO, qP, qQ, qR, zJ, qS, qC, qT, qU, qV, qW, qX, qY, qZ, zK, fixed, zL, wit, Option.isSome_some, qH, St.with, zE, Array.size, te, einl, inls, efr]
end Go.AM.E

