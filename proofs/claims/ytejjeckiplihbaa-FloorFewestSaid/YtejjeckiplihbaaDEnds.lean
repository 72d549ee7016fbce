/-
Packing a roll: the document's ends.
-/
import Derived.Test.YtejjeckiplihbaaDPack
set_option linter.unusedSimpArgs false
set_option maxRecDepth 20000

namespace Go.AM.D
open Go Go.AM Go.Proofs

def negI (x : Int) : Int := if NEV ≤ x then -1 else x
def endR (j : Job) (r : Roll) (q : Nat) : Int := negI (ent j r q).1
theorem arr_snoc (f : Nat → Int) (N : Nat) : arrL f N ++ [.int .i64 (f N)] = arrL f (N + 1) := by
  unfold arrL
  rw [List.range_succ, List.map_append]
  rfl
theorem sized_arr (f : Nat → Int) (N : Nat) : sized 1 (arrL f N) = true := sized_map (f := fun q => V.int .i64 (f q)) (n := 1) (fun _ => ⟨_, rfl, rfl⟩) _
theorem okT127 : okCode (Try.f127.body.getD .skip) = true := by decide +kernel
set_option maxRecDepth 20000 in
set_option maxHeartbeats 16000000 in
theorem c127 (j : Job) (k : Nat) (r : Roll) (hj : Right j) (hr : rollOk r j.rep = true) (hs : ∀ s ∈ j.ss, stripOk s = true) (hk : j.rs[k]? = some r) : (orcω E X0).call 127 [encJob j, .int .i64 (k : Nat)] = some (.sl true (arrL (endR j r) (2 ^ j.ss.length))) := by
  refine call_of rfl fn127 rfl ?_
  have hok := okT127
  simp only [Try.f127, Option.getD_some, okCode, Bool.and_eq_true, Bool.and_true, Bool.true_and] at hok
  have b1 := rollOk_iff.1 hr
  have h6 := hj.nss
  have shl := shl_in h6
  have shi := fun i (h : i < j.ss.length) => shl_in (n := i) (by omega)
  have hN1 : 1 ≤ 2 ^ j.ss.length := Nat.one_le_two_pow
  have hN2 : 2 ^ j.ss.length ≤ 64 := Nat.pow_le_pow_right (n := 2) (by omega) h6
  have hkl : (k : Int) < j.rs.length := by have := (List.getElem?_eq_some_iff.1 hk).1; omega
  generalize hN : 2 ^ j.ss.length = N at shl hN1 hN2 ⊢
  have u0 : IntKind.u64.wrap (j.ss.length : Int) = j.ss.length := IntWalk.u64_in _ (by omega)
  have e0 : arrL (endR j r) 1 = [V.int .i64 0] := rfl
  unfold encJob
  simp (maxSteps := 1000000) (implicitDefEqProofs := false) only [Try.ntmps127, Try.results127, efc127, fc127, hk, hkl, encRoll, Int.natCast_nonneg, Int.toNat_natCast, List.getElem?_map, List.length_map, ss, sd, evOp, evPlain, evVal, evMem, St.get, sliceOf, arrayOf, fieldsOf, normOf, norm, look, evVar, evFieldAddr, nameOf, St.alloc, St.drop, killOb, part, splice, depth, resultsV, ↓reduceIte, Nat.reduceBEq, Nat.reduceAdd, Nat.reduceSub, Nat.reduceMul, Nat.reduceEqDiff, Nat.reduceLeDiff, Nat.reduceLT, effOf, effMem, effVar, effLit, effMake, effApp, lend, evLit, evNil, freeze, evField, evIndexT, orNil, evSlice, placeOf, evMap, mapOf, keyOk, evFrame, closed, fixed, sameEs, wit, Option.isSome_some, St.with, wantedD, Array.size, te, einl, inls, efr]
  generalize hr : loopAt _ _ _ _ _ _ = r; revert r
  refine loop_inv (ι := { q : Nat // 1 ≤ q ∧ q ≤ N }) (fun q => [(6, .own 6 0 q.1), (7, .int .i64 (q.1 : Nat))]) (fun q => [(6, arrOb (endR j r) q.1)]) (fun q => N - q.1) ⟨1, by omega, hN1⟩ (by simp (maxSteps := 1000000) (implicitDefEqProofs := false) only [arrOb, e0, Int.natCast_one, ss, sd, evOp, evPlain, evVal, evMem, St.get, sliceOf, arrayOf, fieldsOf, normOf, norm, look, evVar, evFieldAddr, nameOf, St.alloc, St.drop, killOb, part, splice, depth, resultsV, ↓reduceIte, Nat.reduceBEq, Nat.reduceAdd, Nat.reduceSub, Nat.reduceMul, Nat.reduceEqDiff, Nat.reduceLeDiff, Nat.reduceLT, effOf, effMem, effVar, effLit, effMake, effApp, lend, evLit, evNil, freeze, evField, evIndexT, orNil, evSlice, placeOf, evMap, mapOf, keyOk, evFrame, closed, fixed, sameEs, wit, Option.isSome_some, St.with, wantedD, Array.size, te, einl, inls, efr]) ?_
  rintro ⟨q, q1, q2⟩
  dsimp only
  by_cases hq : q = N
  · subst hq
    have t3 : ∀ f, (arrL f q).take q = arrL f q := fun f => List.take_of_length_le (by rw [arr_len]; exact Nat.le_refl _)
    simp (maxSteps := 1000000) (implicitDefEqProofs := false) only [u0, shl, Int.lt_irrefl, arrOb, t3, arr_len, Int.natCast_nonneg, Int.toNat_natCast, List.length_map, Try.ntmps127, Try.results127, efc127, fc127, ss, sd, evOp, evPlain, evVal, evMem, St.get, sliceOf, arrayOf, fieldsOf, normOf, norm, look, evVar, evFieldAddr, nameOf, St.alloc, St.drop, killOb, part, splice, depth, resultsV, ↓reduceIte, Nat.reduceBEq, Nat.reduceAdd, Nat.reduceSub, Nat.reduceMul, Nat.reduceEqDiff, Nat.reduceLeDiff, Nat.reduceLT, effOf, effMem, effVar, effLit, effMake, effApp, lend, evLit, evNil, freeze, evField, evIndexT, orNil, evSlice, placeOf, evMap, mapOf, keyOk, evFrame, closed, fixed, sameEs, wit, Option.isSome_some, St.with, wantedD, Array.size, te, einl, inls, efr]
  · have qN : q < N := by omega
    have qNi : (q : Int) < N := by omega
    have w1 : IntKind.i64.wrap ((q : Int) + 1) = ((q + 1 : Nat) : Int) := by rw [wrap_in (by omega)]; omega
    simp (maxSteps := 1000000) (implicitDefEqProofs := false) only [u0, shl, qNi, arrOb, Int.natCast_nonneg, Int.toNat_natCast, List.length_map, ss, sd, evOp, evPlain, evVal, evMem, St.get, sliceOf, arrayOf, fieldsOf, normOf, norm, look, evVar, evFieldAddr, nameOf, St.alloc, St.drop, killOb, part, splice, depth, resultsV, ↓reduceIte, Nat.reduceBEq, Nat.reduceAdd, Nat.reduceSub, Nat.reduceMul, Nat.reduceEqDiff, Nat.reduceLeDiff, Nat.reduceLT, effOf, effMem, effVar, effLit, effMake, effApp, lend, evLit, evNil, freeze, evField, evIndexT, orNil, evSlice, placeOf, evMap, mapOf, keyOk, evFrame, closed, fixed, sameEs, wit, Option.isSome_some, St.with, wantedD, Array.size, te, einl, inls, efr]
    generalize hr : loopAt _ _ _ _ _ _ = r; revert r
    refine loop_list j.ss (fun pre _ => [(8, .int .i64 (negI (packTo j r (ent j r) q pre.length).1)), (9, .int .i64 pre.length)]) (fun _ _ => []) (fun _ (_ : Unit) => True) () (by omega) (by simp (maxSteps := 1000000) (implicitDefEqProofs := false) only [packTo, List.range_zero, List.foldl_nil, negI, NEV, Int.le_refl, if_true, ss, sd, evOp, evPlain, evVal, evMem, St.get, sliceOf, arrayOf, fieldsOf, normOf, norm, look, evVar, evFieldAddr, nameOf, St.alloc, St.drop, killOb, part, splice, depth, resultsV, ↓reduceIte, Nat.reduceBEq, Nat.reduceAdd, Nat.reduceSub, Nat.reduceMul, Nat.reduceEqDiff, Nat.reduceLeDiff, Nat.reduceLT, effOf, effMem, effVar, effLit, effMake, effApp, lend, evLit, evNil, freeze, evField, evIndexT, orNil, evSlice, placeOf, evMap, mapOf, keyOk, evFrame, closed, fixed, sameEs, wit, Option.isSome_some, St.with, wantedD, Array.size, te, einl, inls, efr]) trivial (fun _ _ => ?_) (fun pre s post _ hp _ g1 g2 g3 g4 => ?_)
    · have hroom : roomy (q + 1) 8 = true := by simp [roomy]; omega
      have hbig : q + 1 ≤ 4294967296 := by omega
      have z2 := sized_arr (endR j r) q
      have e1 : endR j r q = negI (packTo j r (ent j r) q j.ss.length).1 := by unfold endR; rw [ent_eq q1]
      have e2 := arr_snoc (endR j r) q
      rw [e1] at e2
      simp (maxSteps := 1000000) (implicitDefEqProofs := false) only [Int.lt_irrefl, arrOb, hroom, hbig, z2, e2, arr_len, w1, List.length_map, ss, sd, evOp, evPlain, evVal, evMem, St.get, sliceOf, arrayOf, fieldsOf, normOf, norm, look, evVar, evFieldAddr, nameOf, St.alloc, St.drop, killOb, part, splice, depth, resultsV, ↓reduceIte, Nat.reduceBEq, Nat.reduceAdd, Nat.reduceSub, Nat.reduceMul, Nat.reduceEqDiff, Nat.reduceLeDiff, Nat.reduceLT, effOf, effMem, effVar, effLit, effMake, effApp, lend, evLit, evNil, freeze, evField, evIndexT, orNil, evSlice, placeOf, evMap, mapOf, keyOk, evFrame, closed, fixed, sameEs, wit, Option.isSome_some, St.with, wantedD, Array.size, te, einl, inls, efr]
      exact ⟨⟨q + 1, by omega, by omega⟩, by first | rfl | simp, by dsimp only; omega⟩
    · have hlt : pre.length < j.ss.length := g2
      have gs : j.ss[pre.length]? = some s := g3
      have hst : stripI j pre.length = s := by unfold stripI; exact getD_of gs
      have hi : pre.length < 6 := by omega
      have hq64 : q < 64 := by omega
      have ab := and_bit hq64 hi
      have hps : packTo j r (ent j r) q (pre ++ [s]).length = packStep j r (ent j r) q (packTo j r (ent j r) q pre.length) pre.length := by rw [show (pre ++ [s]).length = pre.length + 1 by simp, packTo_succ]
      have hacc := packTo_in hj hr hs (T := ent j r) (ent_in hj hr hs) (set := q) pre.length (by omega)
      rw [hps]
      unfold packStep
      rw [hst]
      have so := stripOk_iff.1 (hs s (List.mem_of_getElem? gs))
      have sh := shi pre.length hlt
      have u1 : IntKind.u64.wrap (pre.length : Int) = pre.length := IntWalk.u64_in _ (by omega)
      generalize packTo j r (ent j r) q pre.length = acc at *
      have hNEV : NEV = 1048576 := rfl
      cases hb : bitP q pre.length with
      | false =>
        rw [hb] at ab
        have ab : bitsI .and .i64 ((q : Int).fdiv (2 ^ (min pre.length (IntKind.bits .i64)))) 1 = 0 := ab
        rw [if_pos (Or.inl rfl)]
        simp (maxSteps := 1000000) (implicitDefEqProofs := false) only [g1, g2, g3, g4, u1, ab, beq_self_eq_true, arrOb, Int.natCast_nonneg, Int.toNat_natCast, List.getElem?_map, List.length_map, ss, sd, evOp, evPlain, evVal, evMem, St.get, sliceOf, arrayOf, fieldsOf, normOf, norm, look, evVar, evFieldAddr, nameOf, St.alloc, St.drop, killOb, part, splice, depth, resultsV, ↓reduceIte, Nat.reduceBEq, Nat.reduceAdd, Nat.reduceSub, Nat.reduceMul, Nat.reduceEqDiff, Nat.reduceLeDiff, Nat.reduceLT, effOf, effMem, effVar, effLit, effMake, effApp, lend, evLit, evNil, freeze, evField, evIndexT, orNil, evSlice, placeOf, evMap, mapOf, keyOk, evFrame, closed, fixed, sameEs, wit, Option.isSome_some, St.with, wantedD, Array.size, te, einl, inls, efr]
        (first | exact ⟨(), trivial⟩ | refine ⟨(), ?_, trivial⟩ | skip)
      | true =>
        rw [hb] at ab
        have ab : bitsI .and .i64 ((q : Int).fdiv (2 ^ (min pre.length (IntKind.bits .i64)))) 1 = 1 := ab
        have q10 : ((1 : Int) == 0) = false := rfl
        have lt := bit_lt hb
        have le := bit_le hb
        have ltq : ((q - 2 ^ pre.length : Nat) : Int) < q := by omega
        have w3 : IntKind.i64.wrap ((q : Int) - ((2 ^ pre.length : Nat) : Int)) = ((q - 2 ^ pre.length : Nat) : Int) := by rw [wrap_in (by omega)]; omega
        have hin := ent_in hj hr hs (q - 2 ^ pre.length)
        have er : endR j r (q - 2 ^ pre.length) = negI (ent j r (q - 2 ^ pre.length)).1 := rfl
        generalize hx : (ent j r (q - 2 ^ pre.length)).1 = x at *
        have hx0 : 0 ≤ x := by rw [← hx]; exact hin.lo
        have hx1 : x = NEV ∨ x ≤ r.l := by rw [← hx]; exact hin.hi
        by_cases hnev : NEV ≤ x
        · rw [if_pos (Or.inr hnev)]
          have er : endR j r (q - 2 ^ pre.length) = -1 := by rw [er]; exact if_pos hnev
          simp (maxSteps := 1000000) (implicitDefEqProofs := false) only [g1, g2, g3, g4, u1, sh, ab, q10, w3, lt, ltq, er, arr_get, arr_len, arrOb, Int.reduceNeg, Int.reduceLT, decide_true, Int.natCast_nonneg, Int.toNat_natCast, List.getElem?_map, List.length_map, ss, sd, evOp, evPlain, evVal, evMem, St.get, sliceOf, arrayOf, fieldsOf, normOf, norm, look, evVar, evFieldAddr, nameOf, St.alloc, St.drop, killOb, part, splice, depth, resultsV, ↓reduceIte, Nat.reduceBEq, Nat.reduceAdd, Nat.reduceSub, Nat.reduceMul, Nat.reduceEqDiff, Nat.reduceLeDiff, Nat.reduceLT, effOf, effMem, effVar, effLit, effMake, effApp, lend, evLit, evNil, freeze, evField, evIndexT, orNil, evSlice, placeOf, evMap, mapOf, keyOk, evFrame, closed, fixed, sameEs, wit, Option.isSome_some, St.with, wantedD, Array.size, te, einl, inls, efr]
          (first | exact ⟨(), trivial⟩ | refine ⟨(), ?_, trivial⟩ | skip)
        · rw [if_neg (fun h => h.elim (fun h => by cases h) hnev)]
          have er : endR j r (q - 2 ^ pre.length) = x := by rw [er]; exact if_neg hnev
          have xn : ¬ x < 0 := by omega
          have hxl : x ≤ 300 := by
            have := hx1.resolve_left (fun e => hnev (by rw [e]; exact Int.le_refl _))
            omega
          have kn := c68 r j.rep x s hr (hs s (List.mem_of_getElem? gs)) ⟨hx0, by omega⟩
          have ks := c107 s ⟨so.2.1, so.2.2⟩
          have nx := next_in (phase := r.ph) (rep := j.rep) (at' := x) (a := s.a) b1.1.1
          have hsz : sizeM s = s.b - s.a := rfl
          generalize nextM r.ph j.rep x s.a = y at *
          have sz : 1 ≤ sizeM s ∧ sizeM s ≤ 60 := by omega
          generalize sizeM s = z at *
          have w2 : IntKind.i64.wrap (y + z) = y + z := wrap_in (by omega)
          unfold encRoll encStrip at *
          obtain ⟨a1, a2⟩ := acc
          have ha := hacc.hi
          have ha0 := hacc.lo
          dsimp only at ha ha0 ⊢
          by_cases c1 : y + z ≤ r.l
          · by_cases c2 : y + z < a1
            · rw [if_pos ⟨c1, c2⟩]
              have en : negI (y + z) = y + z := if_neg (by omega)
              by_cases c3 : NEV ≤ a1
              · have eo : negI a1 = -1 := if_pos c3
                simp (maxSteps := 1000000) (implicitDefEqProofs := false) only [g1, g2, g3, g4, u1, sh, ab, q10, w3, lt, ltq, er, xn, arr_get, arr_len, kn, ks, w2, c1, en, eo, evRegion_st hok, arrOb, Int.reduceNeg, Int.reduceLT, decide_true, Int.natCast_nonneg, Int.toNat_natCast, List.getElem?_map, List.length_map, ss, sd, evOp, evPlain, evVal, evMem, St.get, sliceOf, arrayOf, fieldsOf, normOf, norm, look, evVar, evFieldAddr, nameOf, St.alloc, St.drop, killOb, part, splice, depth, resultsV, ↓reduceIte, Nat.reduceBEq, Nat.reduceAdd, Nat.reduceSub, Nat.reduceMul, Nat.reduceEqDiff, Nat.reduceLeDiff, Nat.reduceLT, effOf, effMem, effVar, effLit, effMake, effApp, lend, evLit, evNil, freeze, evField, evIndexT, orNil, evSlice, placeOf, evMap, mapOf, keyOk, evFrame, closed, fixed, sameEs, wit, Option.isSome_some, St.with, wantedD, Array.size, te, einl, inls, efr]
                (first | exact ⟨(), trivial⟩ | refine ⟨(), ?_, trivial⟩ | skip)
              · have eo : negI a1 = a1 := if_neg c3
                have an : ¬ a1 < 0 := by omega
                simp (maxSteps := 1000000) (implicitDefEqProofs := false) only [g1, g2, g3, g4, u1, sh, ab, q10, w3, lt, ltq, er, xn, arr_get, arr_len, kn, ks, w2, c1, c2, an, en, eo, evRegion_st hok, arrOb, Int.natCast_nonneg, Int.toNat_natCast, List.getElem?_map, List.length_map, ss, sd, evOp, evPlain, evVal, evMem, St.get, sliceOf, arrayOf, fieldsOf, normOf, norm, look, evVar, evFieldAddr, nameOf, St.alloc, St.drop, killOb, part, splice, depth, resultsV, ↓reduceIte, Nat.reduceBEq, Nat.reduceAdd, Nat.reduceSub, Nat.reduceMul, Nat.reduceEqDiff, Nat.reduceLeDiff, Nat.reduceLT, effOf, effMem, effVar, effLit, effMake, effApp, lend, evLit, evNil, freeze, evField, evIndexT, orNil, evSlice, placeOf, evMap, mapOf, keyOk, evFrame, closed, fixed, sameEs, wit, Option.isSome_some, St.with, wantedD, Array.size, te, einl, inls, efr]
                (first | exact ⟨(), trivial⟩ | refine ⟨(), ?_, trivial⟩ | skip)
            · rw [if_neg (fun h => c2 h.2)]
              have c3 : ¬ NEV ≤ a1 := by omega
              have eo : negI a1 = a1 := if_neg c3
              have an : ¬ a1 < 0 := by omega
              simp (maxSteps := 1000000) (implicitDefEqProofs := false) only [g1, g2, g3, g4, u1, sh, ab, q10, w3, lt, ltq, er, xn, arr_get, arr_len, kn, ks, w2, c1, c2, an, eo, evRegion_st hok, arrOb, Int.natCast_nonneg, Int.toNat_natCast, List.getElem?_map, List.length_map, ss, sd, evOp, evPlain, evVal, evMem, St.get, sliceOf, arrayOf, fieldsOf, normOf, norm, look, evVar, evFieldAddr, nameOf, St.alloc, St.drop, killOb, part, splice, depth, resultsV, ↓reduceIte, Nat.reduceBEq, Nat.reduceAdd, Nat.reduceSub, Nat.reduceMul, Nat.reduceEqDiff, Nat.reduceLeDiff, Nat.reduceLT, effOf, effMem, effVar, effLit, effMake, effApp, lend, evLit, evNil, freeze, evField, evIndexT, orNil, evSlice, placeOf, evMap, mapOf, keyOk, evFrame, closed, fixed, sameEs, wit, Option.isSome_some, St.with, wantedD, Array.size, te, einl, inls, efr]
              (first | exact ⟨(), trivial⟩ | refine ⟨(), ?_, trivial⟩ | skip)
          · rw [if_neg (fun h => c1 h.1)]
            simp (maxSteps := 1000000) (implicitDefEqProofs := false) only [g1, g2, g3, g4, u1, sh, ab, q10, w3, lt, ltq, er, xn, arr_get, arr_len, kn, ks, w2, c1, evRegion_st hok, arrOb, Int.natCast_nonneg, Int.toNat_natCast, List.getElem?_map, List.length_map, ss, sd, evOp, evPlain, evVal, evMem, St.get, sliceOf, arrayOf, fieldsOf, normOf, norm, look, evVar, evFieldAddr, nameOf, St.alloc, St.drop, killOb, part, splice, depth, resultsV, ↓reduceIte, Nat.reduceBEq, Nat.reduceAdd, Nat.reduceSub, Nat.reduceMul, Nat.reduceEqDiff, Nat.reduceLeDiff, Nat.reduceLT, effOf, effMem, effVar, effLit, effMake, effApp, lend, evLit, evNil, freeze, evField, evIndexT, orNil, evSlice, placeOf, evMap, mapOf, keyOk, evFrame, closed, fixed, sameEs, wit, Option.isSome_some, St.with, wantedD, Array.size, te, einl, inls, efr]
            (first | exact ⟨(), trivial⟩ | refine ⟨(), ?_, trivial⟩ | skip)
end Go.AM.D
