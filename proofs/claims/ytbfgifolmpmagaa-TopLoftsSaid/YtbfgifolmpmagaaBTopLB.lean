/-
TopLofts.
-/
import Derived.Test.YtbfgifolmpmagaaBTopL
set_option linter.unusedVariables false
set_option linter.unusedSimpArgs false

namespace Go.AM.B
open Go Go.AM Go.Proofs

theorem proveW_iff (P : Int → Int → Bool) : ∀ (n a : Nat), a + n = 61 → ((proveW P a n).isSome = true ↔ ∃ x y : Int, (a : Int) ≤ x ∧ x ≤ y ∧ y ≤ 60 ∧ P x y = true)
  | 0, a, h => by
    rw [proveW]
    constructor
    · intro e; cases e
    · rintro ⟨x, y, h1, h2, h3, _⟩; omega
  | n + 1, a, h => by
    rw [proveW]
    cases hf : (upTo (a : Int) (61 - a)).find? (P a) with
    | some b =>
      have hb := List.mem_of_find?_eq_some hf
      have hp := List.find?_some hf
      have hr := upTo_get _ _ b hb
      constructor
      · intro _; exact ⟨(a : Int), b, Int.le_refl _, hr.1, by omega, hp⟩
      · intro _; rfl
    | none =>
      dsimp only
      rw [proveW_iff P n (a + 1) (by omega)]
      rw [List.find?_eq_none] at hf
      constructor
      · rintro ⟨x, y, h1, h2, h3, h4⟩; exact ⟨x, y, by omega, h2, h3, h4⟩
      · rintro ⟨x, y, h1, h2, h3, h4⟩
        by_cases e : x = (a : Int)
        · subst e
          exact absurd h4 (hf y (upTo_has _ _ _ h2 (by omega)))
        · exact ⟨x, y, by omega, h2, h3, h4⟩

theorem prog_small : progR ⟨1, [0, 1, 2, 4, 8]⟩ 7 10 = (some [1, 2, 3], 0) := by decide +kernel

set_option maxRecDepth 20000 in
set_option maxHeartbeats 16000000 in
theorem c15 (l : List Loft) (gs : List Goods) (plan : List Load) (a b : Int) : (orcω E X0).call 15 [.agg [.sl false (l.map encL), .sl false (gs.map encG)], .sl false (plan.map encLd), .agg [.int .i64 a, .int .i64 b]] = some (.bool true) := by
  refine call_of rfl fn15 rfl ?_
  have k32 := c32 ⟨1, [0, 1, 2, 4, 8]⟩ 7 10
  rw [prog_small] at k32
  simp only [encP, encL, List.map_cons, List.map_nil, vI_def] at k32
  have z33 : (((3 : Nat) : Int) != 3) = false := rfl
  by_cases s1 : 20 < plan.length
  · have s1' : (20 : Int) < plan.length := by omega
    simp (maxSteps := 1000000) (implicitDefEqProofs := false) only [Try.ntmps15, Try.results15, efc15, k32, z33, s1', bne_self_eq_false, List.length_cons, List.length_nil, List.length_map, ss, List.replicate, zH, qG, zF, zG, St.eval, St.put, St.get, constV, List.set, lenV, qE, qF, qB, zC, norm, xQ, look, xP, xX, zO, zM, zE, zN, qA, qI, St.alloc, St.drop, killL, kill, xU, xV, zA, upd, cells?, part, retag, xT, putIn, refFree, xR, isNew, xS, Ty.isAgg, zB, idsL, ids, idsLL, reach, depth, St.dropL, qD, resultV, ↓reduceIte, Nat.reduceBEq, Nat.reduceAdd, Nat.reduceSub, Nat.reduceMul, Nat.reduceEqDiff, Nat.reduceLeDiff, Nat.reduceLT, qJ, qK, zV, zW, qL, qM, qN, qO, Eff.ap, qP, qQ, xW, qR, zI, onto, dropO, xA, sized, zP, eqT, eqG, minV, evUn, qS, zQ, zR, zS, qC, qT, upO, evSlice0, optInt, xC, qV, xD, del, xB, plain, plainL, zY, zZ, zT, qW, zU, zX, xY, qX, qY, qZ, xE, zJ, zK, zL, xF, xG, wit, xH, Option.isSome_some, xI, qH, xJ, evPre, St.with, xK, xL, zD, xM, xN, xO, Array.size, te, einl, inls, efr]
  have s1' : ¬ (20 : Int) < plan.length := by omega
  by_cases s2 : 8 < gs.length
  · have s2' : (8 : Int) < gs.length := by omega
    simp (maxSteps := 1000000) (implicitDefEqProofs := false) only [Try.ntmps15, Try.results15, efc15, k32, z33, s1', s2', bne_self_eq_false, List.length_cons, List.length_nil, List.length_map, ss, List.replicate, zH, qG, zF, zG, St.eval, St.put, St.get, constV, List.set, lenV, qE, qF, qB, zC, norm, xQ, look, xP, xX, zO, zM, zE, zN, qA, qI, St.alloc, St.drop, killL, kill, xU, xV, zA, upd, cells?, part, retag, xT, putIn, refFree, xR, isNew, xS, Ty.isAgg, zB, idsL, ids, idsLL, reach, depth, St.dropL, qD, resultV, ↓reduceIte, Nat.reduceBEq, Nat.reduceAdd, Nat.reduceSub, Nat.reduceMul, Nat.reduceEqDiff, Nat.reduceLeDiff, Nat.reduceLT, qJ, qK, zV, zW, qL, qM, qN, qO, Eff.ap, qP, qQ, xW, qR, zI, onto, dropO, xA, sized, zP, eqT, eqG, minV, evUn, qS, zQ, zR, zS, qC, qT, upO, evSlice0, optInt, xC, qV, xD, del, xB, plain, plainL, zY, zZ, zT, qW, zU, zX, xY, qX, qY, qZ, xE, zJ, zK, zL, xF, xG, wit, xH, Option.isSome_some, xI, qH, xJ, evPre, St.with, xK, xL, zD, xM, xN, xO, Array.size, te, einl, inls, efr]
  have s2' : ¬ (8 : Int) < gs.length := by omega
  by_cases s3 : 3 < l.length
  · have s3' : (3 : Int) < l.length := by omega
    simp (maxSteps := 1000000) (implicitDefEqProofs := false) only [Try.ntmps15, Try.results15, efc15, k32, z33, s1', s2', s3', bne_self_eq_false, List.length_cons, List.length_nil, List.length_map, ss, List.replicate, zH, qG, zF, zG, St.eval, St.put, St.get, constV, List.set, lenV, qE, qF, qB, zC, norm, xQ, look, xP, xX, zO, zM, zE, zN, qA, qI, St.alloc, St.drop, killL, kill, xU, xV, zA, upd, cells?, part, retag, xT, putIn, refFree, xR, isNew, xS, Ty.isAgg, zB, idsL, ids, idsLL, reach, depth, St.dropL, qD, resultV, ↓reduceIte, Nat.reduceBEq, Nat.reduceAdd, Nat.reduceSub, Nat.reduceMul, Nat.reduceEqDiff, Nat.reduceLeDiff, Nat.reduceLT, qJ, qK, zV, zW, qL, qM, qN, qO, Eff.ap, qP, qQ, xW, qR, zI, onto, dropO, xA, sized, zP, eqT, eqG, minV, evUn, qS, zQ, zR, zS, qC, qT, upO, evSlice0, optInt, xC, qV, xD, del, xB, plain, plainL, zY, zZ, zT, qW, zU, zX, xY, qX, qY, qZ, xE, zJ, zK, zL, xF, xG, wit, xH, Option.isSome_some, xI, qH, xJ, evPre, St.with, xK, xL, zD, xM, xN, xO, Array.size, te, einl, inls, efr]
  have s3' : ¬ (3 : Int) < l.length := by omega
  have k54 := c54 l gs (by omega)
  have k52 := c52w l gs plan (by omega) (by omega) (by omega)
  unfold planV at k54
  by_cases hb : bothE l gs = 0
  case neg =>
    rw [if_pos hb] at k54
    have e : checkM l gs plan = bothE l gs := by unfold checkM; rw [if_pos hb]
    have hb' : (bothE l gs != 0) = true := by simpa using hb
    rw [e] at k52
    simp (maxSteps := 1000000) (implicitDefEqProofs := false) only [Try.ntmps15, Try.results15, efc15, k32, z33, s1', s2', s3', k54, k52, hb', beq_self_eq_true, bne_self_eq_false, List.length_cons, List.length_nil, List.length_map, ss, List.replicate, zH, qG, zF, zG, St.eval, St.put, St.get, constV, List.set, lenV, qE, qF, qB, zC, norm, xQ, look, xP, xX, zO, zM, zE, zN, qA, qI, St.alloc, St.drop, killL, kill, xU, xV, zA, upd, cells?, part, retag, xT, putIn, refFree, xR, isNew, xS, Ty.isAgg, zB, idsL, ids, idsLL, reach, depth, St.dropL, qD, resultV, ↓reduceIte, Nat.reduceBEq, Nat.reduceAdd, Nat.reduceSub, Nat.reduceMul, Nat.reduceEqDiff, Nat.reduceLeDiff, Nat.reduceLT, qJ, qK, zV, zW, qL, qM, qN, qO, Eff.ap, qP, qQ, xW, qR, zI, onto, dropO, xA, sized, zP, eqT, eqG, minV, evUn, qS, zQ, zR, zS, qC, qT, upO, evSlice0, optInt, xC, qV, xD, del, xB, plain, plainL, zY, zZ, zT, qW, zU, zX, xY, qX, qY, qZ, xE, zJ, zK, zL, xF, xG, wit, xH, Option.isSome_some, xI, qH, xJ, evPre, St.with, xK, xL, zD, xM, xN, xO, Array.size, te, einl, inls, efr]
  case pos =>
  rw [if_neg (by simpa using hb)] at k54
  obtain ⟨hl, _, hg, _⟩ := both_facts hb
  have k42 := c42 l gs a b (by omega)
  have k43 := c43 l gs (by omega)
  have k57 := fun ha => c57 l gs plan hb ha (by omega)
  have k52o := c52w l gs (planP l gs).1 (by omega) (by omega) (by have := (plan_short hb).1; omega)
  have hacc := plan_acc hb
  have il := isort_len (lt := ltI) (planP l gs).2
  have pw := proveW_iff (provM l gs) 61 0 rfl
  have f1 : isPM l gs a b = true → (proveW (provM l gs) 0 61).isSome = true := fun h => by
    obtain ⟨_, hab, hv⟩ := isPM_facts h
    exact pw.2 ⟨a, b, by omega, hab.2.1, hab.2.2, hv⟩
  have f2 : ∀ P, checkM l gs P = 0 → (proveW (provM l gs) 0 61).isSome = false := fun P h => by
    cases hc : (proveW (provM l gs) 0 61).isSome with
    | false => rfl
    | true =>
      obtain ⟨x, y, _, h2, _, h4⟩ := pw.1 hc
      exact absurd h (proof_check hb h2 h4 P)
  have f3 : (proveW (provM l gs) 0 61).isSome = false → isPM l gs a b = false := fun h => by
    cases hc : isPM l gs a b with
    | false => rfl
    | true => rw [f1 hc] at h; cases h
  unfold proveR at k43
  rw [if_pos hb] at k43
  have k43' : ∃ u v : Int, (orcω E X0).call 43 [.sl false (l.map encL), .sl false (gs.map encG)] = some (.tup [.agg [.int .i64 u, .int .i64 v], .bool (proveW (provM l gs) 0 61).isSome, .int .i64 0]) := by
    cases hW : proveW (provM l gs) 0 61 with
    | none => rw [hW] at k43; exact ⟨0, 0, k43⟩
    | some w => rw [hW] at k43; exact ⟨w.1, w.2, k43⟩
  obtain ⟨u, v, k43'⟩ := k43'
  have acc : checkM l gs plan = 0 → Acc l gs plan := fun h => (check_iff.1 h).2
  generalize (proveW (provM l gs) 0 61).isSome = pv at *
  generalize isPM l gs a b = pf at *
  have z2 := f2 plan
  have z1 := f2 (planP l gs).1
  generalize planP l gs = P at *
  obtain ⟨ks, left⟩ := P
  dsimp only at *
  generalize ks.isEmpty = bT at *
  by_cases hz : checkM l gs plan = 0
  · have hpv := z2 hz
    have hpf := f3 hpv
    subst hpv hpf
    have k57 := k57 (acc hz)
    rw [hz] at k52
    cases left with
    | nil =>
      have h0 : checkM l gs ks = 0 := hacc.2 rfl
      have e0 : isort ltI [] = [] := rfl
      rw [h0] at k52o
      rw [e0] at k54
      cases bT <;> simp (maxSteps := 1000000) (implicitDefEqProofs := false) only [Try.ntmps15, Try.results15, efc15, k32, z33, s1', s2', s3', k54, k52, k52o, k42, k43', k57, beq_self_eq_true, bne_self_eq_false, List.length_cons, List.length_nil, List.map_nil, List.length_map, Int.natCast_zero, ss, List.replicate, zH, qG, zF, zG, St.eval, St.put, St.get, constV, List.set, lenV, qE, qF, qB, zC, norm, xQ, look, xP, xX, zO, zM, zE, zN, qA, qI, St.alloc, St.drop, killL, kill, xU, xV, zA, upd, cells?, part, retag, xT, putIn, refFree, xR, isNew, xS, Ty.isAgg, zB, idsL, ids, idsLL, reach, depth, St.dropL, qD, resultV, ↓reduceIte, Nat.reduceBEq, Nat.reduceAdd, Nat.reduceSub, Nat.reduceMul, Nat.reduceEqDiff, Nat.reduceLeDiff, Nat.reduceLT, qJ, qK, zV, zW, qL, qM, qN, qO, Eff.ap, qP, qQ, xW, qR, zI, onto, dropO, xA, sized, zP, eqT, eqG, minV, evUn, qS, zQ, zR, zS, qC, qT, upO, evSlice0, optInt, xC, qV, xD, del, xB, plain, plainL, zY, zZ, zT, qW, zU, zX, xY, qX, qY, qZ, xE, zJ, zK, zL, xF, xG, wit, xH, Option.isSome_some, xI, qH, xJ, evPre, St.with, xK, xL, zD, xM, xN, xO, Array.size, te, einl, inls, efr]
    | cons y r =>
      have h0 : ¬ checkM l gs ks = 0 := fun h => by cases hacc.1 h
      have h0' : (checkM l gs ks == 0) = false := by simpa using h0
      have hp : ((isort ltI (y :: r)).length == (0 : Int)) = false := by rw [il]; simp <;> omega
      generalize isort ltI (y :: r) = L at *
      generalize checkM l gs ks = B at *
      cases bT <;> simp (maxSteps := 1000000) (implicitDefEqProofs := false) only [Try.ntmps15, Try.results15, efc15, k32, z33, s1', s2', s3', k54, k52, k52o, k42, k43', k57, h0', hp, beq_self_eq_true, bne_self_eq_false, List.length_cons, List.length_nil, List.length_map, ss, List.replicate, zH, qG, zF, zG, St.eval, St.put, St.get, constV, List.set, lenV, qE, qF, qB, zC, norm, xQ, look, xP, xX, zO, zM, zE, zN, qA, qI, St.alloc, St.drop, killL, kill, xU, xV, zA, upd, cells?, part, retag, xT, putIn, refFree, xR, isNew, xS, Ty.isAgg, zB, idsL, ids, idsLL, reach, depth, St.dropL, qD, resultV, ↓reduceIte, Nat.reduceBEq, Nat.reduceAdd, Nat.reduceSub, Nat.reduceMul, Nat.reduceEqDiff, Nat.reduceLeDiff, Nat.reduceLT, qJ, qK, zV, zW, qL, qM, qN, qO, Eff.ap, qP, qQ, xW, qR, zI, onto, dropO, xA, sized, zP, eqT, eqG, minV, evUn, qS, zQ, zR, zS, qC, qT, upO, evSlice0, optInt, xC, qV, xD, del, xB, plain, plainL, zY, zZ, zT, qW, zU, zX, xY, qX, qY, qZ, xE, zJ, zK, zL, xF, xG, wit, xH, Option.isSome_some, xI, qH, xJ, evPre, St.with, xK, xL, zD, xM, xN, xO, Array.size, te, einl, inls, efr]
  · have hz' : (checkM l gs plan != 0) = true := by simpa using hz
    generalize checkM l gs plan = A at *
    cases left with
    | nil =>
      have h0 : checkM l gs ks = 0 := hacc.2 rfl
      have hpv := z1 h0
      have hpf := f3 hpv
      subst hpv hpf
      have e0 : isort ltI [] = [] := rfl
      rw [h0] at k52o
      rw [e0] at k54
      cases bT <;> simp (maxSteps := 1000000) (implicitDefEqProofs := false) only [Try.ntmps15, Try.results15, efc15, k32, z33, s1', s2', s3', k54, k52, k52o, k42, k43', hz', beq_self_eq_true, bne_self_eq_false, List.length_cons, List.length_nil, List.map_nil, List.length_map, Int.natCast_zero, ss, List.replicate, zH, qG, zF, zG, St.eval, St.put, St.get, constV, List.set, lenV, qE, qF, qB, zC, norm, xQ, look, xP, xX, zO, zM, zE, zN, qA, qI, St.alloc, St.drop, killL, kill, xU, xV, zA, upd, cells?, part, retag, xT, putIn, refFree, xR, isNew, xS, Ty.isAgg, zB, idsL, ids, idsLL, reach, depth, St.dropL, qD, resultV, ↓reduceIte, Nat.reduceBEq, Nat.reduceAdd, Nat.reduceSub, Nat.reduceMul, Nat.reduceEqDiff, Nat.reduceLeDiff, Nat.reduceLT, qJ, qK, zV, zW, qL, qM, qN, qO, Eff.ap, qP, qQ, xW, qR, zI, onto, dropO, xA, sized, zP, eqT, eqG, minV, evUn, qS, zQ, zR, zS, qC, qT, upO, evSlice0, optInt, xC, qV, xD, del, xB, plain, plainL, zY, zZ, zT, qW, zU, zX, xY, qX, qY, qZ, xE, zJ, zK, zL, xF, xG, wit, xH, Option.isSome_some, xI, qH, xJ, evPre, St.with, xK, xL, zD, xM, xN, xO, Array.size, te, einl, inls, efr]
    | cons y r =>
      have h0 : ¬ checkM l gs ks = 0 := fun h => by cases hacc.1 h
      have h0' : (checkM l gs ks == 0) = false := by simpa using h0
      have hp : ((isort ltI (y :: r)).length == (0 : Int)) = false := by rw [il]; simp <;> omega
      generalize isort ltI (y :: r) = L at *
      generalize checkM l gs ks = B at *
      cases pf with
      | true =>
        have hpv := f1 rfl
        subst hpv
        cases bT <;> simp (maxSteps := 1000000) (implicitDefEqProofs := false) only [Try.ntmps15, Try.results15, efc15, k32, z33, s1', s2', s3', k54, k52, k52o, k42, k43', h0', hp, hz', beq_self_eq_true, bne_self_eq_false, List.length_cons, List.length_nil, List.length_map, ss, List.replicate, zH, qG, zF, zG, St.eval, St.put, St.get, constV, List.set, lenV, qE, qF, qB, zC, norm, xQ, look, xP, xX, zO, zM, zE, zN, qA, qI, St.alloc, St.drop, killL, kill, xU, xV, zA, upd, cells?, part, retag, xT, putIn, refFree, xR, isNew, xS, Ty.isAgg, zB, idsL, ids, idsLL, reach, depth, St.dropL, qD, resultV, ↓reduceIte, Nat.reduceBEq, Nat.reduceAdd, Nat.reduceSub, Nat.reduceMul, Nat.reduceEqDiff, Nat.reduceLeDiff, Nat.reduceLT, qJ, qK, zV, zW, qL, qM, qN, qO, Eff.ap, qP, qQ, xW, qR, zI, onto, dropO, xA, sized, zP, eqT, eqG, minV, evUn, qS, zQ, zR, zS, qC, qT, upO, evSlice0, optInt, xC, qV, xD, del, xB, plain, plainL, zY, zZ, zT, qW, zU, zX, xY, qX, qY, qZ, xE, zJ, zK, zL, xF, xG, wit, xH, Option.isSome_some, xI, qH, xJ, evPre, St.with, xK, xL, zD, xM, xN, xO, Array.size, te, einl, inls, efr]
      | false =>
        cases pv <;> cases bT <;> simp (maxSteps := 1000000) (implicitDefEqProofs := false) only [Try.ntmps15, Try.results15, efc15, k32, z33, s1', s2', s3', k54, k52, k52o, k42, k43', h0', hp, hz', beq_self_eq_true, bne_self_eq_false, List.length_cons, List.length_nil, List.length_map, ss, List.replicate, zH, qG, zF, zG, St.eval, St.put, St.get, constV, List.set, lenV, qE, qF, qB, zC, norm, xQ, look, xP, xX, zO, zM, zE, zN, qA, qI, St.alloc, St.drop, killL, kill, xU, xV, zA, upd, cells?, part, retag, xT, putIn, refFree, xR, isNew, xS, Ty.isAgg, zB, idsL, ids, idsLL, reach, depth, St.dropL, qD, resultV, ↓reduceIte, Nat.reduceBEq, Nat.reduceAdd, Nat.reduceSub, Nat.reduceMul, Nat.reduceEqDiff, Nat.reduceLeDiff, Nat.reduceLT, qJ, qK, zV, zW, qL, qM, qN, qO, Eff.ap, qP, qQ, xW, qR, zI, onto, dropO, xA, sized, zP, eqT, eqG, minV, evUn, qS, zQ, zR, zS, qC, qT, upO, evSlice0, optInt, xC, qV, xD, del, xB, plain, plainL, zY, zZ, zT, qW, zU, zX, xY, qX, qY, qZ, xE, zJ, zK, zL, xF, xG, wit, xH, Option.isSome_some, xI, qH, xJ, evPre, St.with, xK, xL, zD, xM, xN, xO, Array.size, te, einl, inls, efr]
end Go.AM.B

