/-
The law that a proof excludes plans.
-/
import Derived.Test.YtbfgifolmpmagaaBLaw13
import Derived.Test.YtbfgifolmpmagaaBExclP
set_option linter.unusedVariables false
set_option linter.unusedSimpArgs false

namespace Go.AM.B
open Go Go.AM Go.Proofs

theorem isPM_facts {l : List Loft} {gs : List Goods} {a b : Int} (h : isPM l gs a b = true) : bothE l gs = 0 ∧ (0 ≤ a ∧ a ≤ b ∧ b ≤ 60) ∧ provM l gs a b = true := by
  unfold isPM at h
  simp only [Bool.and_eq_true, decide_eq_true_eq, inB_iff] at h
  exact ⟨h.1, ⟨h.2.1.1.1, h.2.1.1.2, h.2.1.2⟩, h.2.2⟩
theorem proof_check {l : List Loft} {gs : List Goods} {a b : Int} (hb : bothE l gs = 0) (hab : a ≤ b) (h : provM l gs a b = true) (P : List Load) : checkM l gs P ≠ 0 := fun hc => by
  obtain ⟨hl, _, hg, _⟩ := both_facts hb
  have := excludes hl hg (check_iff.1 hc).2 hab
  rw [this] at h
  cases h

set_option maxRecDepth 20000 in
set_option maxHeartbeats 8000000 in
theorem c14 (l : List Loft) (gs : List Goods) (plan : List Load) (a b : Int) : (orcω E X0).call 14 [.agg [.sl false (l.map encL), .sl false (gs.map encG)], .sl false (plan.map encLd), .agg [.int .i64 a, .int .i64 b]] = some (.bool true) := by
  refine call_of rfl fn14 rfl ?_
  have k1 := c40 l gs plan
  cases hl : largeM l gs plan with
  | true =>
    rw [hl] at k1
    simp (maxSteps := 1000000) (implicitDefEqProofs := false) only [Try.ntmps14, Try.results14, efc14, k1, c25, ss, List.replicate, zH, qG, zF, zG, St.eval, St.put, St.get, constV, List.set, lenV, qE, qF, qB, zC, norm, xQ, look, xP, xX, zO, zM, zE, zN, qA, qI, St.alloc, St.drop, killL, kill, xU, xV, zA, upd, cells?, part, retag, xT, putIn, refFree, xR, isNew, xS, Ty.isAgg, zB, idsL, ids, idsLL, reach, depth, St.dropL, qD, resultV, ↓reduceIte, Nat.reduceBEq, Nat.reduceAdd, Nat.reduceSub, Nat.reduceMul, Nat.reduceEqDiff, Nat.reduceLeDiff, Nat.reduceLT, qJ, qK, zV, zW, qL, qM, qN, qO, Eff.ap, qP, qQ, xW, qR, zI, onto, dropO, xA, sized, zP, eqT, eqG, minV, evUn, qS, zQ, zR, zS, qC, qT, upO, evSlice0, optInt, xC, qV, xD, del, xB, plain, plainL, zY, zZ, zT, qW, zU, zX, xY, qX, qY, qZ, xE, zJ, zK, zL, xF, xG, wit, xH, Option.isSome_some, xI, qH, xJ, evPre, St.with, xK, xL, zD, xM, xN, xO, Array.size, te, einl, inls, efr]
  | false =>
    obtain ⟨n1, n2, n3, n4⟩ := large_no hl
    rw [hl] at k1
    have k42 := c42 l gs a b (by omega)
    cases hp : isPM l gs a b with
    | false =>
      rw [hp] at k42
      simp (maxSteps := 1000000) (implicitDefEqProofs := false) only [Try.ntmps14, Try.results14, efc14, k1, k42, c25, ss, List.replicate, zH, qG, zF, zG, St.eval, St.put, St.get, constV, List.set, lenV, qE, qF, qB, zC, norm, xQ, look, xP, xX, zO, zM, zE, zN, qA, qI, St.alloc, St.drop, killL, kill, xU, xV, zA, upd, cells?, part, retag, xT, putIn, refFree, xR, isNew, xS, Ty.isAgg, zB, idsL, ids, idsLL, reach, depth, St.dropL, qD, resultV, ↓reduceIte, Nat.reduceBEq, Nat.reduceAdd, Nat.reduceSub, Nat.reduceMul, Nat.reduceEqDiff, Nat.reduceLeDiff, Nat.reduceLT, qJ, qK, zV, zW, qL, qM, qN, qO, Eff.ap, qP, qQ, xW, qR, zI, onto, dropO, xA, sized, zP, eqT, eqG, minV, evUn, qS, zQ, zR, zS, qC, qT, upO, evSlice0, optInt, xC, qV, xD, del, xB, plain, plainL, zY, zZ, zT, qW, zU, zX, xY, qX, qY, qZ, xE, zJ, zK, zL, xF, xG, wit, xH, Option.isSome_some, xI, qH, xJ, evPre, St.with, xK, xL, zD, xM, xN, xO, Array.size, te, einl, inls, efr]
    | true =>
      rw [hp] at k42
      obtain ⟨hb, hab, hv⟩ := isPM_facts hp
      have hlong : ∀ x ∈ plan, longLd x = false := fun x hx => by
        cases h : longLd x with
        | false => rfl
        | true => rw [List.any_eq_true.2 ⟨x, hx, h⟩] at n4; cases n4
      have q : ∀ x ∈ plan, x.heats.length ≤ 1000 ∧ x.goods.length ≤ 1000000 := fun x hx => by
        have := hlong x hx
        simp only [longLd, Bool.or_eq_false_iff, decide_eq_false_iff_not] at this
        omega
      have k54 := c54 l gs (by omega)
      unfold planV at k54
      rw [if_neg (by simpa using hb)] at k54
      obtain ⟨p1, p2, p3⟩ := plan_short hb
      have hacc := plan_acc hb
      have k52 := c52 l gs plan (by omega) (by omega) (by omega) (fun x hx => (q x hx).1) (fun x hx => (q x hx).2)
      have k52' := c52 l gs (planP l gs).1 (by omega) (by omega) (by omega) (fun x hx => by have := p3 x hx; omega) (fun x hx => by have := p3 x hx; omega)
      have z1 : (checkM l gs plan != 0) = true := by simpa using proof_check hb hab.2.1 hv plan
      have z2 := proof_check hb hab.2.1 hv (planP l gs).1
      have z3 : (checkM l gs (planP l gs).1 != 0) = true := by simpa using z2
      have z4 : (planP l gs).2 ≠ [] := fun e => z2 (hacc.2 e)
      have il := isort_len (lt := ltI) (planP l gs).2
      have hp2 : (0 : Int) < ((isort ltI (planP l gs).2).length : Int) := by
        rw [il]
        cases hq : (planP l gs).2 with
        | nil => exact absurd hq z4
        | cons x r => simp <;> omega
      generalize isort ltI (planP l gs).2 = L at *
      generalize (planP l gs).1 = ks at *
      generalize checkM l gs plan = A at *
      generalize checkM l gs ks = B at *
      generalize ks.isEmpty = bT at *
      cases bT <;> simp (maxSteps := 1000000) (implicitDefEqProofs := false) only [Try.ntmps14, Try.results14, efc14, k1, k42, k54, k52, k52', z1, z3, hp2, c25, beq_self_eq_true, List.length_map, ss, List.replicate, zH, qG, zF, zG, St.eval, St.put, St.get, constV, List.set, lenV, qE, qF, qB, zC, norm, xQ, look, xP, xX, zO, zM, zE, zN, qA, qI, St.alloc, St.drop, killL, kill, xU, xV, zA, upd, cells?, part, retag, xT, putIn, refFree, xR, isNew, xS, Ty.isAgg, zB, idsL, ids, idsLL, reach, depth, St.dropL, qD, resultV, ↓reduceIte, Nat.reduceBEq, Nat.reduceAdd, Nat.reduceSub, Nat.reduceMul, Nat.reduceEqDiff, Nat.reduceLeDiff, Nat.reduceLT, qJ, qK, zV, zW, qL, qM, qN, qO, Eff.ap, qP, qQ, xW, qR, zI, onto, dropO, xA, sized, zP, eqT, eqG, minV, evUn, qS, zQ, zR, zS, qC, qT, upO, evSlice0, optInt, xC, qV, xD, del, xB, plain, plainL, zY, zZ, zT, qW, zU, zX, xY, qX, qY, qZ, xE, zJ, zK, zL, xF, xG, wit, xH, Option.isSome_some, xI, qH, xJ, evPre, St.with, xK, xL, zD, xM, xN, xO, Array.size, te, einl, inls, efr]
end Go.AM.B

