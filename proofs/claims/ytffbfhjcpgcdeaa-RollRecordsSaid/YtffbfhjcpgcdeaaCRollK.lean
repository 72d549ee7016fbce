import Derived.Test.YtffbfhjcpgcdeaaCRollJ
set_option linter.unusedVariables false
set_option linter.unusedSimpArgs false
set_option maxRecDepth 20000

namespace Go.AM.C
open Go Go.Proofs

theorem okT32 : okCode (Try.f32.body.getD .skip) = true := by decide +kernel

set_option maxHeartbeats 8000000 in
theorem c32 (xs : List Run) (l : List Art) (us : List Int) (hx : xs.length ≤ 100000) (hl : l.length ≤ 100000) (hn : us.length ≤ 1000000) :
    (orcω E X0).call 32 [.sl false (xs.map encRun), .sl false (l.map encArt), .sl false (us.map vI)] = some (encLen (boundR xs l us)) := by
  refine call_of rfl fn32 rfl ?_
  have hok := okT32
  simp only [Try.f32, Option.getD_some, okCode, Bool.and_eq_true, Bool.and_true, Bool.true_and] at hok
  try simp only [and_assoc] at hok
  obtain ⟨hk1, hk2⟩ := hok
  have k1 := c52 xs l hx hl
  unfold marksM at k1
  by_cases he : errM xs l = 0
  · rw [if_pos he] at k1
    simp only [encMks] at k1
    unfold boundR
    rw [if_pos he]
    obtain ⟨e1, e2, e3⟩ := errM_zero he
    have e4 := expand_len (valid_okay e1).1
    have w0 : IntKind.i64.wrap (((expand xs).length : Int) + 1) = (expand xs).length + 1 := wrap_in (by omega)
    by_cases h1 : us.length = (expand xs).length + 1
    · have b1 : ((us.length : Int) != ((expand xs).length : Int) + 1) = false := by simp; omega
      have g1 : us[0]? = some (at0 us 0) := at0_get (by omega)
      have g3 : (0 : Int) < us.length := by omega
      by_cases h2 : at0 us 0 = 0
      · have b2 : (at0 us 0 != 0) = false := by simp [h2]
        simp (maxSteps := 1000000) (implicitDefEqProofs := false) only [Try.ntmps32, Try.results32, efc32, fc32, k1, w0, b1, b2, g1, g3, vI, List.getElem?_map, Int.toNat_zero, Int.le_refl, bne_self_eq_false, encLen, evRegion_st hk1, evRegion_st hk2, ss, sd, zH, qG, zF, zG, St.get, qE, qF, qB, zC, norm, look, zE, qA, qI, St.alloc, St.drop, zA, part, zB, depth, qD, ↓reduceIte, Nat.reduceBEq, Nat.reduceAdd, Nat.reduceSub, Nat.reduceMul, Nat.reduceEqDiff, Nat.reduceLeDiff, Nat.reduceLT, qJ, qK, qL, qM, qN, qO, qP, qQ, qR, zI, qS, qC, qT, evSlice0, qV, qW, qX, qY, qZ, zJ, zK, zL, wit, Option.isSome_some, qH, xJ, evPre, St.with, zD, Array.size, evLitX, evAppX, evCold, nameT, te, einl, inls, efr]
        generalize hr : loopAt _ _ _ _ _ _ = r; revert r
        refine loop_inv (ι := { i : Nat // 1 ≤ i ∧ i ≤ us.length ∧ ∀ j : Nat, j + 1 < i → at0 us j ≤ at0 us (j + 1) ∧ at0 us (j + 1) ≤ 1099511627776 }) (fun i => [(10, .int .i64 i.1)]) (fun i => []) (fun i => us.length - i.1) ⟨1, by omega, by omega, fun j h => by omega⟩ (by simp (maxSteps := 1000000) (implicitDefEqProofs := false) only [Int.natCast_one, ss, sd, zH, qG, zF, zG, St.get, qE, qF, qB, zC, norm, look, zE, qA, qI, St.alloc, St.drop, zA, part, zB, depth, qD, ↓reduceIte, Nat.reduceBEq, Nat.reduceAdd, Nat.reduceSub, Nat.reduceMul, Nat.reduceEqDiff, Nat.reduceLeDiff, Nat.reduceLT, qJ, qK, qL, qM, qN, qO, qP, qQ, qR, zI, qS, qC, qT, evSlice0, qV, qW, qX, qY, qZ, zJ, zK, zL, wit, Option.isSome_some, qH, xJ, evPre, St.with, zD, Array.size, evLitX, evAppX, evCold, nameT, te, einl, inls, efr]; try rfl) ?_
        rintro ⟨i, hi1, hi2, hi3⟩
        dsimp only
        have w1 : IntKind.i64.wrap ((i : Int) + 1) = ((i + 1 : Nat) : Int) := by rw [wrap_in (by omega)]; omega
        by_cases hlt : (i : Int) < (us.length : Int)
        · have d1 : us[i]? = some (at0 us i) := at0_get (by omega)
          have d2 : us[((i : Int) - 1).toNat]? = some (at0 us (i - 1)) := by rw [show ((i : Int) - 1).toNat = i - 1 by omega]; exact at0_get (by omega)
          have w2 : IntKind.i64.wrap ((i : Int) - 1) = (i : Int) - 1 := wrap_in (by omega)
          have d3 : 0 ≤ (i : Int) - 1 := by omega
          have d4 : (i : Int) - 1 < (us.length : Int) := by omega
          by_cases c1 : at0 us i < at0 us (i - 1)
          · have : ¬ rightB us (expand xs).length = true := by
              intro h
              have := sortB_iff.1 (right_iff.1 h).2.2.1 (i - 1) (by omega)
              rw [show i - 1 + 1 = i by omega] at this
              omega
            rw [if_neg this]
            simp (maxSteps := 1000000) (implicitDefEqProofs := false) only [hlt, w1, w2, d1, d2, d3, d4, c1, vI, List.getElem?_map, Int.natCast_nonneg, Int.toNat_natCast, evRegion_st hk1, evRegion_st hk2, Try.ntmps32, Try.results32, efc32, fc32, ss, sd, zH, qG, zF, zG, St.get, qE, qF, qB, zC, norm, look, zE, qA, qI, St.alloc, St.drop, zA, part, zB, depth, qD, ↓reduceIte, Nat.reduceBEq, Nat.reduceAdd, Nat.reduceSub, Nat.reduceMul, Nat.reduceEqDiff, Nat.reduceLeDiff, Nat.reduceLT, qJ, qK, qL, qM, qN, qO, qP, qQ, qR, zI, qS, qC, qT, evSlice0, qV, qW, qX, qY, qZ, zJ, zK, zL, wit, Option.isSome_some, qH, xJ, evPre, St.with, zD, Array.size, evLitX, evAppX, evCold, nameT, te, einl, inls, efr]
          · by_cases c2 : 1099511627776 < at0 us i
            · have : ¬ rightB us (expand xs).length = true := by
                intro h
                have := right_in h (i := i) (by omega)
                omega
              rw [if_neg this]
              simp (maxSteps := 1000000) (implicitDefEqProofs := false) only [hlt, w1, w2, d1, d2, d3, d4, c1, c2, vI, List.getElem?_map, Int.natCast_nonneg, Int.toNat_natCast, evRegion_st hk1, evRegion_st hk2, Try.ntmps32, Try.results32, efc32, fc32, ss, sd, zH, qG, zF, zG, St.get, qE, qF, qB, zC, norm, look, zE, qA, qI, St.alloc, St.drop, zA, part, zB, depth, qD, ↓reduceIte, Nat.reduceBEq, Nat.reduceAdd, Nat.reduceSub, Nat.reduceMul, Nat.reduceEqDiff, Nat.reduceLeDiff, Nat.reduceLT, qJ, qK, qL, qM, qN, qO, qP, qQ, qR, zI, qS, qC, qT, evSlice0, qV, qW, qX, qY, qZ, zJ, zK, zL, wit, Option.isSome_some, qH, xJ, evPre, St.with, zD, Array.size, evLitX, evAppX, evCold, nameT, te, einl, inls, efr]
            · simp (maxSteps := 1000000) (implicitDefEqProofs := false) only [hlt, w1, w2, d1, d2, d3, d4, c1, c2, vI, List.getElem?_map, Int.natCast_nonneg, Int.toNat_natCast, evRegion_st hk1, evRegion_st hk2, ss, sd, zH, qG, zF, zG, St.get, qE, qF, qB, zC, norm, look, zE, qA, qI, St.alloc, St.drop, zA, part, zB, depth, qD, ↓reduceIte, Nat.reduceBEq, Nat.reduceAdd, Nat.reduceSub, Nat.reduceMul, Nat.reduceEqDiff, Nat.reduceLeDiff, Nat.reduceLT, qJ, qK, qL, qM, qN, qO, qP, qQ, qR, zI, qS, qC, qT, evSlice0, qV, qW, qX, qY, qZ, zJ, zK, zL, wit, Option.isSome_some, qH, xJ, evPre, St.with, zD, Array.size, evLitX, evAppX, evCold, nameT, te, einl, inls, efr]
              refine ⟨⟨i + 1, by omega, by omega, fun j hj => ?_⟩, rfl, by dsimp only; omega⟩
              by_cases e : j + 1 < i
              · exact hi3 j e
              · rw [show j + 1 = i by omega, show j = i - 1 by omega]; omega
        · have hr : rightB us (expand xs).length = true := by
            refine right_iff.2 ⟨h1, h2, sortB_iff.2 fun j hj => (hi3 j (by omega)).1, ?_⟩
            by_cases hz : (expand xs).length = 0
            · rw [hz, h2]; decide
            · have := (hi3 ((expand xs).length - 1) (by omega)).2
              rw [show (expand xs).length - 1 + 1 = (expand xs).length by omega] at this
              exact this
          rw [if_pos hr]
          simp (maxSteps := 1000000) (implicitDefEqProofs := false) only [hlt, evRegion_st hk1, evRegion_st hk2, ss, sd, zH, qG, zF, zG, St.get, qE, qF, qB, zC, norm, look, zE, qA, qI, St.alloc, St.drop, zA, part, zB, depth, qD, ↓reduceIte, Nat.reduceBEq, Nat.reduceAdd, Nat.reduceSub, Nat.reduceMul, Nat.reduceEqDiff, Nat.reduceLeDiff, Nat.reduceLT, qJ, qK, qL, qM, qN, qO, qP, qQ, qR, zI, qS, qC, qT, evSlice0, qV, qW, qX, qY, qZ, zJ, zK, zL, wit, Option.isSome_some, qH, xJ, evPre, St.with, zD, Array.size, evLitX, evAppX, evCold, nameT, te, einl, inls, efr]
          generalize hr : loopAt _ _ _ _ _ _ = r; revert r
          refine loop_inv (ι := { f : Nat // f ≤ (expand xs).length ∧ ∀ a ∈ l, ∀ j : Nat, j < f → coverI (expand xs) a us j = true }) (fun f => [(11, .int .i64 f.1)]) (fun f => []) (fun f => (expand xs).length - f.1) ⟨0, by omega, fun a _ j h => by omega⟩ (by simp (maxSteps := 1000000) (implicitDefEqProofs := false) only [ss, sd, zH, qG, zF, zG, St.get, qE, qF, qB, zC, norm, look, zE, qA, qI, St.alloc, St.drop, zA, part, zB, depth, qD, ↓reduceIte, Nat.reduceBEq, Nat.reduceAdd, Nat.reduceSub, Nat.reduceMul, Nat.reduceEqDiff, Nat.reduceLeDiff, Nat.reduceLT, qJ, qK, qL, qM, qN, qO, qP, qQ, qR, zI, qS, qC, qT, evSlice0, qV, qW, qX, qY, qZ, zJ, zK, zL, wit, Option.isSome_some, qH, xJ, evPre, St.with, zD, Array.size, evLitX, evAppX, evCold, nameT, te, einl, inls, efr]) ?_
          rintro ⟨f, hf, hin⟩
          dsimp only
          have w2 : IntKind.i64.wrap ((f : Int) + 1) = ((f + 1 : Nat) : Int) := by rw [wrap_in (by omega)]; omega
          by_cases hft : (f : Int) < ((expand xs).length : Int)
          · simp (maxSteps := 1000000) (implicitDefEqProofs := false) only [hft, evRegion_st hk1, evRegion_st hk2, ss, sd, zH, qG, zF, zG, St.get, qE, qF, qB, zC, norm, look, zE, qA, qI, St.alloc, St.drop, zA, part, zB, depth, qD, ↓reduceIte, Nat.reduceBEq, Nat.reduceAdd, Nat.reduceSub, Nat.reduceMul, Nat.reduceEqDiff, Nat.reduceLeDiff, Nat.reduceLT, qJ, qK, qL, qM, qN, qO, qP, qQ, qR, zI, qS, qC, qT, evSlice0, qV, qW, qX, qY, qZ, zJ, zK, zL, wit, Option.isSome_some, qH, xJ, evPre, St.with, zD, Array.size, evLitX, evAppX, evCold, nameT, te, einl, inls, efr]
            generalize hr : loopAt _ _ _ _ _ _ = r; revert r
            refine loop_list l (fun pre _ => [(12, .int .i64 pre.length)]) (fun pre _ => []) (fun pre (_ : Unit) => ∀ a ∈ pre, coverI (expand xs) a us f = true) () (by omega) (by simp (maxSteps := 1000000) (implicitDefEqProofs := false) only [ss, sd, zH, qG, zF, zG, St.get, qE, qF, qB, zC, norm, look, zE, qA, qI, St.alloc, St.drop, zA, part, zB, depth, qD, ↓reduceIte, Nat.reduceBEq, Nat.reduceAdd, Nat.reduceSub, Nat.reduceMul, Nat.reduceEqDiff, Nat.reduceLeDiff, Nat.reduceLT, qJ, qK, qL, qM, qN, qO, qP, qQ, qR, zI, qS, qC, qT, evSlice0, qV, qW, qX, qY, qZ, zJ, zK, zL, wit, Option.isSome_some, qH, xJ, evPre, St.with, zD, Array.size, evLitX, evAppX, evCold, nameT, te, einl, inls, efr]) (fun a h => by cases h) (fun _ hi => ?_) (fun pre a post _ hp hi g1 g2 g3' g4 => ?_)
            · simp (maxSteps := 1000000) (implicitDefEqProofs := false) only [Int.lt_irrefl, w2, ss, sd, zH, qG, zF, zG, St.get, qE, qF, qB, zC, norm, look, zE, qA, qI, St.alloc, St.drop, zA, part, zB, depth, qD, ↓reduceIte, Nat.reduceBEq, Nat.reduceAdd, Nat.reduceSub, Nat.reduceMul, Nat.reduceEqDiff, Nat.reduceLeDiff, Nat.reduceLT, qJ, qK, qL, qM, qN, qO, qP, qQ, qR, zI, qS, qC, qT, evSlice0, qV, qW, qX, qY, qZ, zJ, zK, zL, wit, Option.isSome_some, qH, xJ, evPre, St.with, zD, Array.size, evLitX, evAppX, evCold, nameT, te, einl, inls, efr]
              refine ⟨⟨f + 1, by omega, fun a ha j hj => ?_⟩, rfl, by dsimp only; omega⟩
              by_cases e : j = f
              · subst e; exact hi a ha
              · exact hin a ha j (by omega)
            · have hmem : a ∈ l := by rw [hp]; simp
              have k3 := c53 (expand xs) l f pre.length (by omega) e3
              rw [fitsM_some (by omega) (by rw [Int.toNat_natCast]; exact g3')] at k3
              have a2 := (validA_len e3).2 a hmem
              cases hfit : fitA (expand xs) a f with
              | false =>
                rw [hfit] at k3
                simp (maxSteps := 1000000) (implicitDefEqProofs := false) only [g1, g2, g3', g4, k3, vI, encArt, List.getElem?_map, Int.natCast_nonneg, Int.toNat_natCast, evRegion_st hk1, evRegion_st hk2, ss, sd, zH, qG, zF, zG, St.get, qE, qF, qB, zC, norm, look, zE, qA, qI, St.alloc, St.drop, zA, part, zB, depth, qD, ↓reduceIte, Nat.reduceBEq, Nat.reduceAdd, Nat.reduceSub, Nat.reduceMul, Nat.reduceEqDiff, Nat.reduceLeDiff, Nat.reduceLT, qJ, qK, qL, qM, qN, qO, qP, qQ, qR, zI, qS, qC, qT, evSlice0, qV, qW, qX, qY, qZ, zJ, zK, zL, wit, Option.isSome_some, qH, xJ, evPre, St.with, zD, Array.size, evLitX, evAppX, evCold, nameT, te, einl, inls, efr]
                refine ⟨(), fun b hb => ?_⟩
                rcases List.mem_append.1 hb with hb | hb
                · exact hi b hb
                · simp only [List.mem_singleton] at hb; subst hb; unfold coverI; rw [hfit]; rfl
              | true =>
                rw [hfit] at k3
                have hfe : (f : Int) ≤ ((expand xs).length : Int) - a.len := by
                  have h9 := hfit
                  unfold fitA at h9
                  simp only [Bool.and_eq_true, decide_eq_true_eq] at h9
                  exact h9.2.1
                have d1 : us[f]? = some (at0 us f) := at0_get (by omega)
                have d2 : us[f + a.len.toNat]? = some (at0 us (f + a.len.toNat)) := at0_get (by omega)
                have d3 : ((f : Int) + a.len).toNat = f + a.len.toNat := by omega
                have w3 : IntKind.i64.wrap ((f : Int) + a.len) = (f : Int) + a.len := wrap_in (by omega)
                have d4 : 0 ≤ (f : Int) + a.len := by omega
                have d5 : (f : Int) + a.len < (us.length : Int) := by omega
                have d6 : (f : Int) < (us.length : Int) := by omega
                have q1 := right_in hr (i := f) (by omega)
                have w4 : IntKind.i64.wrap (at0 us f + a.price) = at0 us f + a.price := wrap_in (by omega)
                by_cases hc : at0 us (f + a.len.toNat) < at0 us f + a.price
                · have : ¬ coverB (expand xs) l us = true := by
                    intro h
                    have := coverB_iff.1 h a hmem f (by omega)
                    unfold coverI at this
                    rw [hfit] at this
                    simp at this
                    omega
                  rw [if_neg this]
                  simp (maxSteps := 1000000) (implicitDefEqProofs := false) only [g1, g2, g3', g4, k3, w3, w4, d1, d2, d3, d4, d5, d6, hc, vI, encArt, List.getElem?_map, Int.natCast_nonneg, Int.toNat_natCast, evRegion_st hk1, evRegion_st hk2, Try.ntmps32, Try.results32, efc32, fc32, ss, sd, zH, qG, zF, zG, St.get, qE, qF, qB, zC, norm, look, zE, qA, qI, St.alloc, St.drop, zA, part, zB, depth, qD, ↓reduceIte, Nat.reduceBEq, Nat.reduceAdd, Nat.reduceSub, Nat.reduceMul, Nat.reduceEqDiff, Nat.reduceLeDiff, Nat.reduceLT, qJ, qK, qL, qM, qN, qO, qP, qQ, qR, zI, qS, qC, qT, evSlice0, qV, qW, qX, qY, qZ, zJ, zK, zL, wit, Option.isSome_some, qH, xJ, evPre, St.with, zD, Array.size, evLitX, evAppX, evCold, nameT, te, einl, inls, efr]
                · simp (maxSteps := 1000000) (implicitDefEqProofs := false) only [g1, g2, g3', g4, k3, w3, w4, d1, d2, d3, d4, d5, d6, hc, vI, encArt, List.getElem?_map, Int.natCast_nonneg, Int.toNat_natCast, evRegion_st hk1, evRegion_st hk2, ss, sd, zH, qG, zF, zG, St.get, qE, qF, qB, zC, norm, look, zE, qA, qI, St.alloc, St.drop, zA, part, zB, depth, qD, ↓reduceIte, Nat.reduceBEq, Nat.reduceAdd, Nat.reduceSub, Nat.reduceMul, Nat.reduceEqDiff, Nat.reduceLeDiff, Nat.reduceLT, qJ, qK, qL, qM, qN, qO, qP, qQ, qR, zI, qS, qC, qT, evSlice0, qV, qW, qX, qY, qZ, zJ, zK, zL, wit, Option.isSome_some, qH, xJ, evPre, St.with, zD, Array.size, evLitX, evAppX, evCold, nameT, te, einl, inls, efr]
                  refine ⟨(), fun b hb => ?_⟩
                  rcases List.mem_append.1 hb with hb | hb
                  · exact hi b hb
                  · simp only [List.mem_singleton] at hb; subst hb; unfold coverI; rw [hfit]; simp; omega
          · have hc : coverB (expand xs) l us = true := coverB_iff.2 fun a ha j hj => hin a ha j (by omega)
            rw [if_pos hc]
            have w5 : IntKind.i64.wrap ((us.length : Int) - 1) = ((expand xs).length : Nat) := by rw [wrap_in (by omega)]; omega
            have d1 : us[(expand xs).length]? = some (at0 us (expand xs).length) := at0_get (by omega)
            have d2 : ((expand xs).length : Int) < (us.length : Int) := by omega
            simp (maxSteps := 1000000) (implicitDefEqProofs := false) only [hft, w5, d1, d2, vI, List.getElem?_map, Int.natCast_nonneg, Int.toNat_natCast, Try.ntmps32, Try.results32, efc32, fc32, ss, sd, zH, qG, zF, zG, St.get, qE, qF, qB, zC, norm, look, zE, qA, qI, St.alloc, St.drop, zA, part, zB, depth, qD, ↓reduceIte, Nat.reduceBEq, Nat.reduceAdd, Nat.reduceSub, Nat.reduceMul, Nat.reduceEqDiff, Nat.reduceLeDiff, Nat.reduceLT, qJ, qK, qL, qM, qN, qO, qP, qQ, qR, zI, qS, qC, qT, evSlice0, qV, qW, qX, qY, qZ, zJ, zK, zL, wit, Option.isSome_some, qH, xJ, evPre, St.with, zD, Array.size, evLitX, evAppX, evCold, nameT, te, einl, inls, efr]
      · have b2 : (at0 us 0 != 0) = true := by simp [h2]
        rw [if_neg (fun h => h2 (right_iff.1 h).2.1)]
        simp (maxSteps := 1000000) (implicitDefEqProofs := false) only [Try.ntmps32, Try.results32, efc32, fc32, k1, w0, b1, b2, g1, g3, vI, List.getElem?_map, Int.toNat_zero, Int.le_refl, bne_self_eq_false, encLen, evRegion_st hk1, evRegion_st hk2, ss, sd, zH, qG, zF, zG, St.get, qE, qF, qB, zC, norm, look, zE, qA, qI, St.alloc, St.drop, zA, part, zB, depth, qD, ↓reduceIte, Nat.reduceBEq, Nat.reduceAdd, Nat.reduceSub, Nat.reduceMul, Nat.reduceEqDiff, Nat.reduceLeDiff, Nat.reduceLT, qJ, qK, qL, qM, qN, qO, qP, qQ, qR, zI, qS, qC, qT, evSlice0, qV, qW, qX, qY, qZ, zJ, zK, zL, wit, Option.isSome_some, qH, xJ, evPre, St.with, zD, Array.size, evLitX, evAppX, evCold, nameT, te, einl, inls, efr]
    · have b1 : ((us.length : Int) != ((expand xs).length : Int) + 1) = true := by simp; omega
      rw [if_neg (fun h => h1 (right_iff.1 h).1)]
      simp (maxSteps := 1000000) (implicitDefEqProofs := false) only [Try.ntmps32, Try.results32, efc32, fc32, k1, w0, b1, bne_self_eq_false, encLen, evRegion_st hk1, evRegion_st hk2, ss, sd, zH, qG, zF, zG, St.get, qE, qF, qB, zC, norm, look, zE, qA, qI, St.alloc, St.drop, zA, part, zB, depth, qD, ↓reduceIte, Nat.reduceBEq, Nat.reduceAdd, Nat.reduceSub, Nat.reduceMul, Nat.reduceEqDiff, Nat.reduceLeDiff, Nat.reduceLT, qJ, qK, qL, qM, qN, qO, qP, qQ, qR, zI, qS, qC, qT, evSlice0, qV, qW, qX, qY, qZ, zJ, zK, zL, wit, Option.isSome_some, qH, xJ, evPre, St.with, zD, Array.size, evLitX, evAppX, evCold, nameT, te, einl, inls, efr]
  · rw [if_neg he] at k1
    simp only [encMks] at k1
    unfold boundR
    rw [if_neg he]
    have he' : (errM xs l != 0) = true := by simpa using he
    simp (maxSteps := 1000000) (implicitDefEqProofs := false) only [Try.ntmps32, Try.results32, efc32, fc32, k1, encLen, he', List.map_nil, ss, sd, zH, qG, zF, zG, St.get, qE, qF, qB, zC, norm, look, zE, qA, qI, St.alloc, St.drop, zA, part, zB, depth, qD, ↓reduceIte, Nat.reduceBEq, Nat.reduceAdd, Nat.reduceSub, Nat.reduceMul, Nat.reduceEqDiff, Nat.reduceLeDiff, Nat.reduceLT, qJ, qK, qL, qM, qN, qO, qP, qQ, qR, zI, qS, qC, qT, evSlice0, qV, qW, qX, qY, qZ, zJ, zK, zL, wit, Option.isSome_some, qH, xJ, evPre, St.with, zD, Array.size, evLitX, evAppX, evCold, nameT, te, einl, inls, efr]

theorem c7 (xs : List Run) (l : List Art) (us : List Int) : (orcω E X0).call 7 [.sl false (xs.map encRun), .sl false (l.map encArt), .sl false (us.map vI)] = some (.bool true) := by
  refine call_of rfl fn7 rfl ?_
  have k1 := c16 xs l false []
  cases hlong : long xs l 0 with
  | true =>
    rw [List.length_nil, hlong] at k1
    simp (maxSteps := 1000000) (implicitDefEqProofs := false) only [Try.ntmps7, Try.results7, efc7, k1, c17, ss, sd, zH, qG, zF, zG, St.get, qE, qF, qB, zC, norm, look, zE, qA, qI, St.alloc, St.drop, zA, part, zB, depth, qD, ↓reduceIte, Nat.reduceBEq, Nat.reduceAdd, Nat.reduceSub, Nat.reduceMul, Nat.reduceEqDiff, Nat.reduceLeDiff, Nat.reduceLT, qJ, qK, qL, qM, qN, qO, qP, qQ, qR, zI, qS, qC, qT, evSlice0, qV, qW, qX, qY, qZ, zJ, zK, zL, wit, Option.isSome_some, qH, xJ, evPre, St.with, zD, Array.size, evLitX, evAppX, evCold, nameT, te, einl, inls, efr]
  | false =>
    rw [List.length_nil, hlong] at k1
    by_cases hu : (1000 : Int) < us.length
    · simp (maxSteps := 1000000) (implicitDefEqProofs := false) only [Try.ntmps7, Try.results7, efc7, k1, hu, c17, ss, sd, zH, qG, zF, zG, St.get, qE, qF, qB, zC, norm, look, zE, qA, qI, St.alloc, St.drop, zA, part, zB, depth, qD, ↓reduceIte, Nat.reduceBEq, Nat.reduceAdd, Nat.reduceSub, Nat.reduceMul, Nat.reduceEqDiff, Nat.reduceLeDiff, Nat.reduceLT, qJ, qK, qL, qM, qN, qO, qP, qQ, qR, zI, qS, qC, qT, evSlice0, qV, qW, qX, qY, qZ, zJ, zK, zL, wit, Option.isSome_some, qH, xJ, evPre, St.with, zD, Array.size, evLitX, evAppX, evCold, nameT, te, einl, inls, efr]
    · unfold long at hlong
      simp only [Bool.or_eq_false_iff, decide_eq_false_iff_not] at hlong
      have k2 := c31 xs l us (by omega) (by omega) (by omega)
      have k3 := c32 xs l us (by omega) (by omega) (by omega)
      generalize boundR xs l us = R at *
      obtain ⟨n, e⟩ := R
      simp only [encLen] at k2 k3
      simp (maxSteps := 1000000) (implicitDefEqProofs := false) only [Try.ntmps7, Try.results7, efc7, k1, k2, k3, hu, c17, beq_self_eq_true, ss, sd, zH, qG, zF, zG, St.get, qE, qF, qB, zC, norm, look, zE, qA, qI, St.alloc, St.drop, zA, part, zB, depth, qD, ↓reduceIte, Nat.reduceBEq, Nat.reduceAdd, Nat.reduceSub, Nat.reduceMul, Nat.reduceEqDiff, Nat.reduceLeDiff, Nat.reduceLT, qJ, qK, qL, qM, qN, qO, qP, qQ, qR, zI, qS, qC, qT, evSlice0, qV, qW, qX, qY, qZ, zJ, zK, zL, wit, Option.isSome_some, qH, xJ, evPre, St.with, zD, Array.size, evLitX, evAppX, evCold, nameT, te, einl, inls, efr]

end Go.AM.C

