/-
The law of plans.
-/
import Derived.Test.YtbfgifolmpmagaaBPlan
import Derived.Test.YtbfgifolmpmagaaBPlanS
import Derived.Test.YtbfgifolmpmagaaBInts
set_option linter.unusedVariables false
set_option linter.unusedSimpArgs false

namespace Go.AM.B
open Go Go.AM Go.Proofs

theorem okT56 : okCode (Try.f56.body.getD .skip) = true := by decide +kernel
set_option maxRecDepth 20000 in
set_option maxHeartbeats 8000000 in
theorem c56 (ts : List TL) (hP : ts.length ≤ 1000000) (hh : ∀ x ∈ ts, x.1.heats.length ≤ 1000000 ∧ x.1.goods.length ≤ 1000000) : (orcω E X0).call 56 [.sl false ((loadsOf ts).map encLd), .sl false (ts.map encTL)] = some (.bool true) := by
  refine call_of rfl fn56 rfl ?_
  have hok := okT56
  simp only [Try.f56, Option.getD_some, okCode, Bool.and_eq_true, Bool.and_true, Bool.true_and] at hok
  have ll := loads_len ts
  simp (maxSteps := 1000000) (implicitDefEqProofs := false) only [Try.ntmps56, Try.results56, efc56, fc56, ll, bne_self_eq_false, List.length_map, ss, List.replicate, zH, qG, zF, zG, St.eval, St.put, St.get, constV, List.set, lenV, qE, qF, qB, zC, norm, xQ, look, xP, xX, zO, zM, zE, zN, qA, qI, St.alloc, St.drop, killL, kill, xU, xV, zA, upd, cells?, part, retag, xT, putIn, refFree, xR, isNew, xS, Ty.isAgg, zB, idsL, ids, idsLL, reach, depth, St.dropL, qD, resultV, ↓reduceIte, Nat.reduceBEq, Nat.reduceAdd, Nat.reduceSub, Nat.reduceMul, Nat.reduceEqDiff, Nat.reduceLeDiff, Nat.reduceLT, qJ, qK, zV, zW, qL, qM, qN, qO, Eff.ap, qP, qQ, xW, qR, zI, onto, dropO, xA, sized, zP, eqT, eqG, minV, evUn, qS, zQ, zR, zS, qC, qT, upO, evSlice0, optInt, xC, qV, xD, del, xB, plain, plainL, zY, zZ, zT, qW, zU, zX, xY, qX, qY, qZ, xE, zJ, zK, zL, xF, xG, wit, xH, Option.isSome_some, xI, qH, xJ, evPre, St.with, xK, xL, zD, xM, xN, xO, Array.size, te, einl, inls, efr]
  generalize hr : loopAt _ _ _ _ _ _ = r; revert r
  refine loop_list ts (fun pre _ => [(5, .int .i64 pre.length)]) (fun _ _ => []) (fun _ (_ : Unit) => True) () (by omega) (by simp (maxSteps := 1000000) (implicitDefEqProofs := false) only [ss, List.replicate, zH, qG, zF, zG, St.eval, St.put, St.get, constV, List.set, lenV, qE, qF, qB, zC, norm, xQ, look, xP, xX, zO, zM, zE, zN, qA, qI, St.alloc, St.drop, killL, kill, xU, xV, zA, upd, cells?, part, retag, xT, putIn, refFree, xR, isNew, xS, Ty.isAgg, zB, idsL, ids, idsLL, reach, depth, St.dropL, qD, resultV, ↓reduceIte, Nat.reduceBEq, Nat.reduceAdd, Nat.reduceSub, Nat.reduceMul, Nat.reduceEqDiff, Nat.reduceLeDiff, Nat.reduceLT, qJ, qK, zV, zW, qL, qM, qN, qO, Eff.ap, qP, qQ, xW, qR, zI, onto, dropO, xA, sized, zP, eqT, eqG, minV, evUn, qS, zQ, zR, zS, qC, qT, upO, evSlice0, optInt, xC, qV, xD, del, xB, plain, plainL, zY, zZ, zT, qW, zU, zX, xY, qX, qY, qZ, xE, zJ, zK, zL, xF, xG, wit, xH, Option.isSome_some, xI, qH, xJ, evPre, St.with, xK, xL, zD, xM, xN, xO, Array.size, te, einl, inls, efr]) trivial (fun _ _ => ?_) (fun pre x post _ hq _ g1 g2 g3 g4 => ?_)
  · simp (maxSteps := 1000000) (implicitDefEqProofs := false) only [Int.lt_irrefl, ll, Try.ntmps56, Try.results56, efc56, fc56, List.length_map, ss, List.replicate, zH, qG, zF, zG, St.eval, St.put, St.get, constV, List.set, lenV, qE, qF, qB, zC, norm, xQ, look, xP, xX, zO, zM, zE, zN, qA, qI, St.alloc, St.drop, killL, kill, xU, xV, zA, upd, cells?, part, retag, xT, putIn, refFree, xR, isNew, xS, Ty.isAgg, zB, idsL, ids, idsLL, reach, depth, St.dropL, qD, resultV, ↓reduceIte, Nat.reduceBEq, Nat.reduceAdd, Nat.reduceSub, Nat.reduceMul, Nat.reduceEqDiff, Nat.reduceLeDiff, Nat.reduceLT, qJ, qK, zV, zW, qL, qM, qN, qO, Eff.ap, qP, qQ, xW, qR, zI, onto, dropO, xA, sized, zP, eqT, eqG, minV, evUn, qS, zQ, zR, zS, qC, qT, upO, evSlice0, optInt, xC, qV, xD, del, xB, plain, plainL, zY, zZ, zT, qW, zU, zX, xY, qX, qY, qZ, xE, zJ, zK, zL, xF, xG, wit, xH, Option.isSome_some, xI, qH, xJ, evPre, St.with, xK, xL, zD, xM, xN, xO, Array.size, te, einl, inls, efr]
  · have hx := hh x (List.mem_of_getElem? g3)
    have g5 := loads_get (ts := ts) rfl g3
    have k1 := c24 x.1.heats x.1.heats (by omega)
    have k2 := c24 x.1.goods x.1.goods (by omega)
    simp only [decide_true] at k1 k2
    simp (maxSteps := 1000000) (implicitDefEqProofs := false) only [g1, g2, g3, g4, g5, ll, k1, k2, encLd, encTL, bne_self_eq_false, Int.natCast_nonneg, Int.toNat_natCast, List.getElem?_map, List.length_map, evRegion_st hok, ss, List.replicate, zH, qG, zF, zG, St.eval, St.put, St.get, constV, List.set, lenV, qE, qF, qB, zC, norm, xQ, look, xP, xX, zO, zM, zE, zN, qA, qI, St.alloc, St.drop, killL, kill, xU, xV, zA, upd, cells?, part, retag, xT, putIn, refFree, xR, isNew, xS, Ty.isAgg, zB, idsL, ids, idsLL, reach, depth, St.dropL, qD, resultV, ↓reduceIte, Nat.reduceBEq, Nat.reduceAdd, Nat.reduceSub, Nat.reduceMul, Nat.reduceEqDiff, Nat.reduceLeDiff, Nat.reduceLT, qJ, qK, zV, zW, qL, qM, qN, qO, Eff.ap, qP, qQ, xW, qR, zI, onto, dropO, xA, sized, zP, eqT, eqG, minV, evUn, qS, zQ, zR, zS, qC, qT, upO, evSlice0, optInt, xC, qV, xD, del, xB, plain, plainL, zY, zZ, zT, qW, zU, zX, xY, qX, qY, qZ, xE, zJ, zK, zL, xF, xG, wit, xH, Option.isSome_some, xI, qH, xJ, evPre, St.with, xK, xL, zD, xM, xN, xO, Array.size, te, einl, inls, efr]
    exact ⟨(), trivial⟩

theorem plan_short {l : List Loft} {gs : List Goods} (hb : bothE l gs = 0) : (planP l gs).1.length ≤ 8 ∧ (planP l gs).2.length ≤ 8 ∧ ∀ x ∈ (planP l gs).1, x.heats.length ≤ 12 ∧ x.goods.length ≤ 8 := by
  obtain ⟨hl, _, hg, _⟩ := both_facts hb
  obtain ⟨_, h2⟩ := bothE_zero hb
  have h8 := (goodsE_zero h2).1
  have hlen := plan_len l gs (orderM gs)
  rw [order_len] at hlen
  have m : Made l gs (orderM gs) (planP l gs).1 (planP l gs).2 := plan_made hl hg (orderM gs) [] (by simp)
  refine ⟨by show (planFrom l gs (orderM gs)).1.length ≤ 8; omega, by show (planFrom l gs (orderM gs)).2.length ≤ 8; omega, fun x hx => ?_⟩
  have s := m.each x hx
  have := (validHs_iff.1 s.heats).1
  have := isSet_len s.set
  omega

set_option maxRecDepth 20000 in
set_option maxHeartbeats 8000000 in
theorem c13 (l : List Loft) (gs : List Goods) : (orcω E X0).call 13 [.agg [.sl false (l.map encL), .sl false (gs.map encG)]] = some (.bool true) := by
  refine call_of rfl fn13 rfl ?_
  have k1 := c40 l gs []
  simp only [List.map_nil] at k1
  cases hl : largeM l gs [] with
  | true =>
    rw [hl] at k1
    simp (maxSteps := 1000000) (implicitDefEqProofs := false) only [Try.ntmps13, Try.results13, efc13, k1, c25, ss, List.replicate, zH, qG, zF, zG, St.eval, St.put, St.get, constV, List.set, lenV, qE, qF, qB, zC, norm, xQ, look, xP, xX, zO, zM, zE, zN, qA, qI, St.alloc, St.drop, killL, kill, xU, xV, zA, upd, cells?, part, retag, xT, putIn, refFree, xR, isNew, xS, Ty.isAgg, zB, idsL, ids, idsLL, reach, depth, St.dropL, qD, resultV, ↓reduceIte, Nat.reduceBEq, Nat.reduceAdd, Nat.reduceSub, Nat.reduceMul, Nat.reduceEqDiff, Nat.reduceLeDiff, Nat.reduceLT, qJ, qK, zV, zW, qL, qM, qN, qO, Eff.ap, qP, qQ, xW, qR, zI, onto, dropO, xA, sized, zP, eqT, eqG, minV, evUn, qS, zQ, zR, zS, qC, qT, upO, evSlice0, optInt, xC, qV, xD, del, xB, plain, plainL, zY, zZ, zT, qW, zU, zX, xY, qX, qY, qZ, xE, zJ, zK, zL, xF, xG, wit, xH, Option.isSome_some, xI, qH, xJ, evPre, St.with, xK, xL, zD, xM, xN, xO, Array.size, te, einl, inls, efr]
  | false =>
    obtain ⟨n1, n2, _, _⟩ := large_no hl
    rw [hl] at k1
    have k54 := c54 l gs (by omega)
    obtain ⟨r, k55, hR⟩ := c55 l gs (by omega)
    unfold planV at k54
    unfold PlanR at hR
    by_cases hb : bothE l gs = 0
    case neg =>
      rw [if_pos hb] at k54 hR
      subst hR
      have k56 := c56 [] (by simp) (by simp)
      have k24 := c24 [] [] (by simp)
      simp only [loadsOf, List.map_nil, decide_true] at k56 k24
      have hb' : (bothE l gs != 0) = true := by simpa using hb
      simp (maxSteps := 1000000) (implicitDefEqProofs := false) only [Try.ntmps13, Try.results13, efc13, k1, k54, k55, k56, k24, c25, hb', bne_self_eq_false, ss, List.replicate, zH, qG, zF, zG, St.eval, St.put, St.get, constV, List.set, lenV, qE, qF, qB, zC, norm, xQ, look, xP, xX, zO, zM, zE, zN, qA, qI, St.alloc, St.drop, killL, kill, xU, xV, zA, upd, cells?, part, retag, xT, putIn, refFree, xR, isNew, xS, Ty.isAgg, zB, idsL, ids, idsLL, reach, depth, St.dropL, qD, resultV, ↓reduceIte, Nat.reduceBEq, Nat.reduceAdd, Nat.reduceSub, Nat.reduceMul, Nat.reduceEqDiff, Nat.reduceLeDiff, Nat.reduceLT, qJ, qK, zV, zW, qL, qM, qN, qO, Eff.ap, qP, qQ, xW, qR, zI, onto, dropO, xA, sized, zP, eqT, eqG, minV, evUn, qS, zQ, zR, zS, qC, qT, upO, evSlice0, optInt, xC, qV, xD, del, xB, plain, plainL, zY, zZ, zT, qW, zU, zX, xY, qX, qY, qZ, xE, zJ, zK, zL, xF, xG, wit, xH, Option.isSome_some, xI, qH, xJ, evPre, St.with, xK, xL, zD, xM, xN, xO, Array.size, te, einl, inls, efr]
    case pos =>
      rw [if_neg (by simpa using hb)] at k54 hR
      obtain ⟨ts, T, T2, hts, rfl⟩ := hR
      obtain ⟨p1, p2, p3⟩ := plan_short hb
      have hacc := plan_acc hb
      have k52 := c52 l gs (planP l gs).1 (by omega) (by omega) (by omega) (fun x hx => by have := p3 x hx; omega) (fun x hx => by have := p3 x hx; omega)
      rw [← hts] at p1 p3
      have tl := loads_len ts
      have k56 := c56 ts (by omega) (fun x hx => by have := p3 x.1 (List.mem_map.2 ⟨x, hx, rfl⟩); omega)
      rw [hts] at k56
      have il := isort_len (lt := ltI) (planP l gs).2
      generalize planP l gs = P at *
      obtain ⟨ks, left⟩ := P
      dsimp only at *
      have k24 := c24 (isort ltI left) (isort ltI left) (by omega)
      simp only [decide_true] at k24
      generalize ks.isEmpty = bT at *
      cases left with
      | nil =>
        have hz : checkM l gs ks = 0 := hacc.2 rfl
        have e0 : isort ltI [] = [] := rfl
        rw [hz] at k52
        rw [e0] at k24 k54 k55
        simp only [List.map_nil] at k24 k54 k55
        cases bT <;> cases T <;> cases T2 <;> simp (maxSteps := 1000000) (implicitDefEqProofs := false) only [Try.ntmps13, Try.results13, efc13, k1, k54, k55, k56, k24, k52, c25, bne_self_eq_false, List.length_nil, Int.lt_irrefl, Int.natCast_zero, ss, List.replicate, zH, qG, zF, zG, St.eval, St.put, St.get, constV, List.set, lenV, qE, qF, qB, zC, norm, xQ, look, xP, xX, zO, zM, zE, zN, qA, qI, St.alloc, St.drop, killL, kill, xU, xV, zA, upd, cells?, part, retag, xT, putIn, refFree, xR, isNew, xS, Ty.isAgg, zB, idsL, ids, idsLL, reach, depth, St.dropL, qD, resultV, ↓reduceIte, Nat.reduceBEq, Nat.reduceAdd, Nat.reduceSub, Nat.reduceMul, Nat.reduceEqDiff, Nat.reduceLeDiff, Nat.reduceLT, qJ, qK, zV, zW, qL, qM, qN, qO, Eff.ap, qP, qQ, xW, qR, zI, onto, dropO, xA, sized, zP, eqT, eqG, minV, evUn, qS, zQ, zR, zS, qC, qT, upO, evSlice0, optInt, xC, qV, xD, del, xB, plain, plainL, zY, zZ, zT, qW, zU, zX, xY, qX, qY, qZ, xE, zJ, zK, zL, xF, xG, wit, xH, Option.isSome_some, xI, qH, xJ, evPre, St.with, xK, xL, zD, xM, xN, xO, Array.size, te, einl, inls, efr]
      | cons x r =>
        have hp : (0 : Int) < ((isort ltI (x :: r)).length : Int) := by rw [il]; simp <;> omega
        generalize isort ltI (x :: r) = L at *
        cases bT <;> cases T <;> cases T2 <;> simp (maxSteps := 1000000) (implicitDefEqProofs := false) only [Try.ntmps13, Try.results13, efc13, k1, k54, k55, k56, k24, c25, hp, bne_self_eq_false, List.length_map, ss, List.replicate, zH, qG, zF, zG, St.eval, St.put, St.get, constV, List.set, lenV, qE, qF, qB, zC, norm, xQ, look, xP, xX, zO, zM, zE, zN, qA, qI, St.alloc, St.drop, killL, kill, xU, xV, zA, upd, cells?, part, retag, xT, putIn, refFree, xR, isNew, xS, Ty.isAgg, zB, idsL, ids, idsLL, reach, depth, St.dropL, qD, resultV, ↓reduceIte, Nat.reduceBEq, Nat.reduceAdd, Nat.reduceSub, Nat.reduceMul, Nat.reduceEqDiff, Nat.reduceLeDiff, Nat.reduceLT, qJ, qK, zV, zW, qL, qM, qN, qO, Eff.ap, qP, qQ, xW, qR, zI, onto, dropO, xA, sized, zP, eqT, eqG, minV, evUn, qS, zQ, zR, zS, qC, qT, upO, evSlice0, optInt, xC, qV, xD, del, xB, plain, plainL, zY, zZ, zT, qW, zU, zX, xY, qX, qY, qZ, xE, zJ, zK, zL, xF, xG, wit, xH, Option.isSome_some, xI, qH, xJ, evPre, St.with, xK, xL, zD, xM, xN, xO, Array.size, te, einl, inls, efr]
end Go.AM.B

