import Derived.Test.YtffbfhjcpgcdeaaCRollI
set_option linter.unusedVariables false
set_option linter.unusedSimpArgs false
set_option maxRecDepth 20000

namespace Go.AM.C
open Go Go.Proofs

def coverI (ms : List Mk) (a : Art) (us : List Int) (i : Nat) : Bool := !(fitA ms a i) || decide (at0 us i + a.price ≤ at0 us (i + a.len.toNat))
def coverB (ms : List Mk) (l : List Art) (us : List Int) : Bool := l.all fun a => (List.range ms.length).all fun i => coverI ms a us i

theorem coverB_iff {ms : List Mk} {l : List Art} {us : List Int} : coverB ms l us = true ↔ ∀ a ∈ l, ∀ i : Nat, i < ms.length → coverI ms a us i = true := by
  unfold coverB
  simp only [List.all_eq_true, List.mem_range]

def boundR (xs : List Run) (l : List Art) (us : List Int) : Int × Int := if errM xs l = 0 then (if rightB us (expand xs).length = true then (if coverB (expand xs) l us = true then (at0 us (expand xs).length, 0) else (0, 9)) else (0, 1)) else (0, errM xs l)

theorem right_iff {us : List Int} {n : Nat} : rightB us n = true ↔ us.length = n + 1 ∧ at0 us 0 = 0 ∧ sortB us = true ∧ at0 us n ≤ 1099511627776 := by
  unfold rightB
  simp only [Bool.and_eq_true, decide_eq_true_eq]

theorem right_in {us : List Int} {n : Nat} (h : rightB us n = true) {i : Nat} (hi : i ≤ n) : 0 ≤ at0 us i ∧ at0 us i ≤ 1099511627776 := by
  obtain ⟨h1, h2, h3, h4⟩ := right_iff.1 h
  have := sort_le h3 (i := 0) (j := i) (by omega) (by omega)
  have := sort_le h3 (i := i) (j := n) hi (by omega)
  omega

def encOfferF (ms : List Mk) (i : Nat) (a : Art) : V := .agg [.int .i64 a.len, .int .i64 a.q.least, .int .i64 a.q.most, .int .i64 a.q.shade, .int .i64 a.q.flaws, .int .i64 a.price, .int .i64 i, .sl false (encBits ms.length (fitA ms a))]

theorem okT31 : okCode (Try.f31.body.getD .skip) = true := by decide +kernel

set_option maxHeartbeats 8000000 in
theorem c31 (xs : List Run) (l : List Art) (us : List Int) (hx : xs.length ≤ 100000) (hl : l.length ≤ 100000) (hn : us.length ≤ 1000000) :
    (orcω E X0).call 31 [.sl false (xs.map encRun), .sl false (l.map encArt), .sl false (us.map vI)] = some (encLen (boundR xs l us)) := by
  refine call_of rfl fn31 rfl ?_
  have hok := okT31
  simp only [Try.f31, Option.getD_some, okCode, Bool.and_eq_true, Bool.and_true, Bool.true_and] at hok
  have k1 := c50 xs l hx hl
  by_cases he : errM xs l = 0
  · rw [benchV_eq he] at k1
    unfold boundR
    rw [if_pos he]
    obtain ⟨e1, e2, e3⟩ := errM_zero he
    have e4 := expand_len (valid_okay e1).1
    have k2 := c57 us (expand xs).length hn (by omega)
    by_cases hr : rightB us (expand xs).length = true
    · rw [if_pos hr]
      rw [hr] at k2
      obtain ⟨r1, r2, r3, r4⟩ := right_iff.1 hr
      have g4 := offs_len (expand xs) l 0
      simp (maxSteps := 1000000) (implicitDefEqProofs := false) only [Try.ntmps31, Try.results31, efc31, fc31, k1, k2, g4, bne_self_eq_false, encLen, ss, sd, zH, qG, zF, zG, St.get, qE, qF, qB, zC, norm, look, zE, qA, qI, St.alloc, St.drop, zA, part, zB, depth, qD, ↓reduceIte, Nat.reduceBEq, Nat.reduceAdd, Nat.reduceSub, Nat.reduceMul, Nat.reduceEqDiff, Nat.reduceLeDiff, Nat.reduceLT, qJ, qK, qL, qM, qN, qO, qP, qQ, qR, zI, qS, qC, qT, evSlice0, qV, qW, qX, qY, qZ, zJ, zK, zL, wit, Option.isSome_some, qH, xJ, evPre, St.with, zD, Array.size, evLitX, evAppX, evCold, nameT, te, einl, inls, efr]
      generalize hr : loopAt _ _ _ _ _ _ = r; revert r
      refine loop_inv (ι := { i : Nat // i ≤ l.length ∧ ∀ k a, k < i → l[k]? = some a → ∀ j : Nat, j < (expand xs).length → coverI (expand xs) a us j = true }) (fun i => [(31, .int .i64 i.1)]) (fun i => [(8, { es := 3, flat := true, t := false, app := false, elems := [.agg [.sl false (xs.map encRun), .int .i64 ((expand xs).length : Nat), .sl true (offs (expand xs) 0 l)]] })]) (fun i => l.length - i.1) ⟨0, by omega, fun k a h => by omega⟩ (by simp (maxSteps := 1000000) (implicitDefEqProofs := false) only [ss, sd, zH, qG, zF, zG, St.get, qE, qF, qB, zC, norm, look, zE, qA, qI, St.alloc, St.drop, zA, part, zB, depth, qD, ↓reduceIte, Nat.reduceBEq, Nat.reduceAdd, Nat.reduceSub, Nat.reduceMul, Nat.reduceEqDiff, Nat.reduceLeDiff, Nat.reduceLT, qJ, qK, qL, qM, qN, qO, qP, qQ, qR, zI, qS, qC, qT, evSlice0, qV, qW, qX, qY, qZ, zJ, zK, zL, wit, Option.isSome_some, qH, xJ, evPre, St.with, zD, Array.size, evLitX, evAppX, evCold, nameT, te, einl, inls, efr]) ?_
      rintro ⟨i, hi, hall⟩
      dsimp only
      have w1 : IntKind.i64.wrap ((i : Int) + 1) = ((i + 1 : Nat) : Int) := by rw [wrap_in (by omega)]; omega
      by_cases hlt : (i : Int) < (l.length : Int)
      · have g0 : i < l.length := by omega
        have g1 : l[i]? = some l[i] := List.getElem?_eq_getElem g0
        have g2 := (validA_len e3).2 l[i] (List.getElem_mem g0)
        have hmem := List.getElem_mem g0
        generalize l[i] = a at *
        have g3 := offs_get (expand xs) l 0 i
        rw [g1, Option.map_some, Nat.zero_add] at g3
        have b4 := bits_len (expand xs).length (fitA (expand xs) a)
        simp (maxSteps := 1000000) (implicitDefEqProofs := false) only [hlt, g3, g4, b4, encOffer, encOfferF, Int.natCast_nonneg, Int.toNat_natCast, evRegion_st hok, ss, sd, zH, qG, zF, zG, St.get, qE, qF, qB, zC, norm, look, zE, qA, qI, St.alloc, St.drop, zA, part, zB, depth, qD, ↓reduceIte, Nat.reduceBEq, Nat.reduceAdd, Nat.reduceSub, Nat.reduceMul, Nat.reduceEqDiff, Nat.reduceLeDiff, Nat.reduceLT, qJ, qK, qL, qM, qN, qO, qP, qQ, qR, zI, qS, qC, qT, evSlice0, qV, qW, qX, qY, qZ, zJ, zK, zL, wit, Option.isSome_some, qH, xJ, evPre, St.with, zD, Array.size, evLitX, evAppX, evCold, nameT, te, einl, inls, efr]
        generalize hr : loopAt _ _ _ _ _ _ = r; revert r
        refine loop_inv (ι := { f : Nat // f ≤ (expand xs).length + 1 ∧ ∀ j : Nat, j < f → j < (expand xs).length → coverI (expand xs) a us j = true }) (fun f => [(38, .int .i64 f.1)]) (fun f => [(8, { es := 3, flat := true, t := false, app := false, elems := [.agg [.sl false (xs.map encRun), .int .i64 ((expand xs).length : Nat), .sl true (offs (expand xs) 0 l)]] }), (11, { es := 8, flat := true, t := false, app := false, elems := [encOfferF (expand xs) i a] })]) (fun f => (expand xs).length + 1 - f.1) ⟨0, by omega, fun j h => by omega⟩ (by simp (maxSteps := 1000000) (implicitDefEqProofs := false) only [encOffer, encOfferF, ss, sd, zH, qG, zF, zG, St.get, qE, qF, qB, zC, norm, look, zE, qA, qI, St.alloc, St.drop, zA, part, zB, depth, qD, ↓reduceIte, Nat.reduceBEq, Nat.reduceAdd, Nat.reduceSub, Nat.reduceMul, Nat.reduceEqDiff, Nat.reduceLeDiff, Nat.reduceLT, qJ, qK, qL, qM, qN, qO, qP, qQ, qR, zI, qS, qC, qT, evSlice0, qV, qW, qX, qY, qZ, zJ, zK, zL, wit, Option.isSome_some, qH, xJ, evPre, St.with, zD, Array.size, evLitX, evAppX, evCold, nameT, te, einl, inls, efr]) ?_
        rintro ⟨f, hf, hin⟩
        dsimp only
        have w2 : IntKind.i64.wrap ((f : Int) + 1) = ((f + 1 : Nat) : Int) := by rw [wrap_in (by omega)]; omega
        by_cases hft : (f : Int) < (((expand xs).length + 1 : Nat) : Int)
        · have b1 := bits_get (expand xs).length (fitA (expand xs) a) (f := f) (by omega)
          cases hfit : fitA (expand xs) a f with
          | false =>
            rw [hfit] at b1
            simp (maxSteps := 1000000) (implicitDefEqProofs := false) only [hft, w2, b1, b4, encOffer, encOfferF, Int.natCast_nonneg, Int.toNat_natCast, evRegion_st hok, ss, sd, zH, qG, zF, zG, St.get, qE, qF, qB, zC, norm, look, zE, qA, qI, St.alloc, St.drop, zA, part, zB, depth, qD, ↓reduceIte, Nat.reduceBEq, Nat.reduceAdd, Nat.reduceSub, Nat.reduceMul, Nat.reduceEqDiff, Nat.reduceLeDiff, Nat.reduceLT, qJ, qK, qL, qM, qN, qO, qP, qQ, qR, zI, qS, qC, qT, evSlice0, qV, qW, qX, qY, qZ, zJ, zK, zL, wit, Option.isSome_some, qH, xJ, evPre, St.with, zD, Array.size, evLitX, evAppX, evCold, nameT, te, einl, inls, efr]
            refine ⟨⟨f + 1, by omega, fun j hj hj2 => ?_⟩, rfl, by dsimp only; omega⟩
            by_cases e : j = f
            · subst e; unfold coverI; rw [hfit]; rfl
            · exact hin j (by omega) hj2
          | true =>
            rw [hfit] at b1
            have hfe : (f : Int) ≤ ((expand xs).length : Int) - a.len := by
              have h9 := hfit
              unfold fitA at h9
              simp only [Bool.and_eq_true, decide_eq_true_eq] at h9
              exact h9.2.1
            have d1 : us[f]? = some (at0 us f) := at0_get (by omega)
            have d2 : us[f + a.len.toNat]? = some (at0 us (f + a.len.toNat)) := at0_get (by omega)
            have d3 : ((f : Int) + a.len).toNat = f + a.len.toNat := by omega
            have w3 : IntKind.i64.wrap ((f : Int) + a.len) = (f : Int) + a.len := wrap_in (by omega)
            have d4 : 0 ≤ (f : Int) + a.len := by omega
            have d5 : (f : Int) + a.len < (us.length : Int) := by omega
            have d6 : (f : Int) < (us.length : Int) := by omega
            have q1 := right_in hr (i := f) (by omega)
            have w4 : IntKind.i64.wrap (at0 us f + a.price) = at0 us f + a.price := wrap_in (by omega)
            by_cases hc : at0 us (f + a.len.toNat) < at0 us f + a.price
            · have : ¬ coverB (expand xs) l us = true := by
                intro h
                have := coverB_iff.1 h a hmem f (by omega)
                unfold coverI at this
                rw [hfit] at this
                simp at this
                omega
              rw [if_neg this]
              simp (maxSteps := 1000000) (implicitDefEqProofs := false) only [hft, w2, w3, w4, b1, b4, d1, d2, d3, d4, d5, d6, hc, vI, List.getElem?_map, encOffer, encOfferF, Int.natCast_nonneg, Int.toNat_natCast, evRegion_st hok, Try.ntmps31, Try.results31, efc31, fc31, ss, sd, zH, qG, zF, zG, St.get, qE, qF, qB, zC, norm, look, zE, qA, qI, St.alloc, St.drop, zA, part, zB, depth, qD, ↓reduceIte, Nat.reduceBEq, Nat.reduceAdd, Nat.reduceSub, Nat.reduceMul, Nat.reduceEqDiff, Nat.reduceLeDiff, Nat.reduceLT, qJ, qK, qL, qM, qN, qO, qP, qQ, qR, zI, qS, qC, qT, evSlice0, qV, qW, qX, qY, qZ, zJ, zK, zL, wit, Option.isSome_some, qH, xJ, evPre, St.with, zD, Array.size, evLitX, evAppX, evCold, nameT, te, einl, inls, efr]
            · simp (maxSteps := 1000000) (implicitDefEqProofs := false) only [hft, w2, w3, w4, b1, b4, d1, d2, d3, d4, d5, d6, hc, vI, List.getElem?_map, encOffer, encOfferF, Int.natCast_nonneg, Int.toNat_natCast, evRegion_st hok, ss, sd, zH, qG, zF, zG, St.get, qE, qF, qB, zC, norm, look, zE, qA, qI, St.alloc, St.drop, zA, part, zB, depth, qD, ↓reduceIte, Nat.reduceBEq, Nat.reduceAdd, Nat.reduceSub, Nat.reduceMul, Nat.reduceEqDiff, Nat.reduceLeDiff, Nat.reduceLT, qJ, qK, qL, qM, qN, qO, qP, qQ, qR, zI, qS, qC, qT, evSlice0, qV, qW, qX, qY, qZ, zJ, zK, zL, wit, Option.isSome_some, qH, xJ, evPre, St.with, zD, Array.size, evLitX, evAppX, evCold, nameT, te, einl, inls, efr]
              refine ⟨⟨f + 1, by omega, fun j hj hj2 => ?_⟩, rfl, by dsimp only; omega⟩
              by_cases e : j = f
              · subst e; unfold coverI; rw [hfit]; simp; omega
              · exact hin j (by omega) hj2
        · simp (maxSteps := 1000000) (implicitDefEqProofs := false) only [hft, w1, encOffer, encOfferF, evRegion_st hok, ss, sd, zH, qG, zF, zG, St.get, qE, qF, qB, zC, norm, look, zE, qA, qI, St.alloc, St.drop, zA, part, zB, depth, qD, ↓reduceIte, Nat.reduceBEq, Nat.reduceAdd, Nat.reduceSub, Nat.reduceMul, Nat.reduceEqDiff, Nat.reduceLeDiff, Nat.reduceLT, qJ, qK, qL, qM, qN, qO, qP, qQ, qR, zI, qS, qC, qT, evSlice0, qV, qW, qX, qY, qZ, zJ, zK, zL, wit, Option.isSome_some, qH, xJ, evPre, St.with, zD, Array.size, evLitX, evAppX, evCold, nameT, te, einl, inls, efr]
          refine ⟨⟨i + 1, by omega, fun k b hk hb j hj => ?_⟩, rfl, by dsimp only; omega⟩
          by_cases e : k = i
          · subst e
            rw [g1] at hb
            cases hb
            exact hin j (by omega) hj
          · exact hall k b (by omega) hb j hj
      · have hc : coverB (expand xs) l us = true := coverB_iff.2 fun a ha j hj => by
          obtain ⟨k, hk⟩ := List.mem_iff_getElem?.1 ha
          exact hall k a (by have := (List.getElem?_eq_some_iff.1 hk).1; omega) hk j hj
        rw [if_pos hc]
        have d1 : us[(expand xs).length]? = some (at0 us (expand xs).length) := at0_get (by omega)
        have d2 : ((expand xs).length : Int) < (us.length : Int) := by omega
        simp (maxSteps := 1000000) (implicitDefEqProofs := false) only [hlt, d1, d2, vI, List.getElem?_map, Int.natCast_nonneg, Int.toNat_natCast, Try.ntmps31, Try.results31, efc31, fc31, ss, sd, zH, qG, zF, zG, St.get, qE, qF, qB, zC, norm, look, zE, qA, qI, St.alloc, St.drop, zA, part, zB, depth, qD, ↓reduceIte, Nat.reduceBEq, Nat.reduceAdd, Nat.reduceSub, Nat.reduceMul, Nat.reduceEqDiff, Nat.reduceLeDiff, Nat.reduceLT, qJ, qK, qL, qM, qN, qO, qP, qQ, qR, zI, qS, qC, qT, evSlice0, qV, qW, qX, qY, qZ, zJ, zK, zL, wit, Option.isSome_some, qH, xJ, evPre, St.with, zD, Array.size, evLitX, evAppX, evCold, nameT, te, einl, inls, efr]
    · rw [if_neg hr]
      rw [show rightB us (expand xs).length = false by simpa using hr] at k2
      simp (maxSteps := 1000000) (implicitDefEqProofs := false) only [Try.ntmps31, Try.results31, efc31, fc31, k1, k2, bne_self_eq_false, encLen, ss, sd, zH, qG, zF, zG, St.get, qE, qF, qB, zC, norm, look, zE, qA, qI, St.alloc, St.drop, zA, part, zB, depth, qD, ↓reduceIte, Nat.reduceBEq, Nat.reduceAdd, Nat.reduceSub, Nat.reduceMul, Nat.reduceEqDiff, Nat.reduceLeDiff, Nat.reduceLT, qJ, qK, qL, qM, qN, qO, qP, qQ, qR, zI, qS, qC, qT, evSlice0, qV, qW, qX, qY, qZ, zJ, zK, zL, wit, Option.isSome_some, qH, xJ, evPre, St.with, zD, Array.size, evLitX, evAppX, evCold, nameT, te, einl, inls, efr]
  · unfold layV at k1
    rw [if_neg he] at k1
    unfold boundR
    rw [if_neg he]
    have he' : (errM xs l != 0) = true := by simpa using he
    simp (maxSteps := 1000000) (implicitDefEqProofs := false) only [Try.ntmps31, Try.results31, efc31, fc31, k1, bench0, encLen, he', List.map_nil, ss, sd, zH, qG, zF, zG, St.get, qE, qF, qB, zC, norm, look, zE, qA, qI, St.alloc, St.drop, zA, part, zB, depth, qD, ↓reduceIte, Nat.reduceBEq, Nat.reduceAdd, Nat.reduceSub, Nat.reduceMul, Nat.reduceEqDiff, Nat.reduceLeDiff, Nat.reduceLT, qJ, qK, qL, qM, qN, qO, qP, qQ, qR, zI, qS, qC, qT, evSlice0, qV, qW, qX, qY, qZ, zJ, zK, zL, wit, Option.isSome_some, qH, xJ, evPre, St.with, zD, Array.size, evLitX, evAppX, evCold, nameT, te, einl, inls, efr]

end Go.AM.C

