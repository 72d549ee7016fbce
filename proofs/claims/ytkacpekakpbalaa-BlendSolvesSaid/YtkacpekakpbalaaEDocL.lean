/-
The least cost of the document.
-/
import Derived.Test.YtkacpekakpbalaaEAmt
import Derived.Test.YtkacpekakpbalaaEAmtQ
import Derived.Test.YtkacpekakpbalaaELeast
set_option linter.unusedVariables false
set_option linter.unusedSimpArgs false
set_option maxRecDepth 20000

namespace Go.AM.E
open Go Go.AM Go.Proofs

theorem lst_in {b : Blend} (hb : Valid b) : ∀ n, (0 ≤ (lstTo b n).num ∧ (lstTo b n).num ≤ 5368709120000) ∧ 1 ≤ (lstTo b n).den ∧ (lstTo b n).den ≤ 192000
  | 0 => by simp [lstTo]
  | n + 1 => by
    have ih := lst_in hb n
    have e : lstTo b (n + 1) = lstStep (lstTo b n) (accR b n) := rfl
    rw [e]
    have key : ∀ r, accR b n = some r → (0 ≤ r.1 ∧ r.1 ≤ 5368709120000) ∧ 1 ≤ r.2 ∧ r.2 ≤ 192000 := fun r h => by
      unfold accR amN at h
      split at h
      case h_2 => cases h
      rename_i x d hx
      split at h
      case isFalse => cases h
      cases h
      obtain ⟨h1, h2, h3, h4⟩ := amRef_right hb hx
      have := dot_in (f := (·.co)) (cost_f hb) (xs := x) (fun n hn => by have := h2 n hn; omega) h1 b.cs.length (Nat.le_refl _)
      have hl := hb.2.1
      refine ⟨?_, h3, h4⟩
      show 0 ≤ costM b x ∧ costM b x ≤ _
      unfold costM
      omega
    cases ha : accR b n with
    | none => exact ih
    | some r =>
      obtain ⟨c, d⟩ := r
      have := key _ ha
      unfold lstStep
      dsimp only
      split
      · exact this
      · exact ih
def docR (b : Blend) : (Int × Int) × Bool × Int :=
  if errV b = 0 then
    let s := lstTo b (3 ^ (b.cs.length + b.lo.length))
    if s.found = true then (((makeR s.num s.den).1, (makeR s.num s.den).2.1), decide ((makeR s.num s.den).2.2 = 0), (makeR s.num s.den).2.2) else ((0, 0), false, 0)
  else ((0, 0), false, errV b)
theorem okT19 : okCode (Try.f19.body.getD .skip) = true := by decide +kernel
set_option maxRecDepth 20000 in
set_option maxHeartbeats 16000000 in
theorem c19 (b : Blend) : (orcω E XS).call 19 [encBlend b] = some (encLst (docR b)) := by
  refine call_of rfl fn19 rfl ?_
  have hok := okT19
  simp only [Try.f19, Option.getD_some, okCode, Bool.and_eq_true, Bool.and_true, Bool.true_and] at hok
  have k16 := c16 b
  unfold docR
  rcases errV_cases b with he | he
  rotate_left
  · rw [he] at k16 ⊢
    obtain ⟨tot, cs, lo, up⟩ := b
    simp only [encBlend] at k16 ⊢
    simp (maxSteps := 1000000) (implicitDefEqProofs := false) only [Try.ntmps19, Try.results19, efc19, fc19, k16, encLst, show ¬ (1 : Int) = 0 by decide, if_false, show ((1 : Int) != 0) = true by decide, ss, sd, zI, qG, zG, zH, St.get, qE, qF, qB, zD, norm, look, zF, qA, qI, St.alloc, St.drop, zA, part, zC, depth, qD, ↓reduceIte, Nat.reduceBEq, Nat.reduceAdd, Nat.reduceSub, Nat.reduceMul, Nat.reduceEqDiff, Nat.reduceLeDiff, Nat.reduceLT, qJ, qK, qL, qM, qN, qO, qP, qQ, qR, zJ, qS, qC, qT, qU, qV, qW, qX, qY, qZ, zK, fixed, zL, wit, Option.isSome_some, qH, St.with, zE, Array.size, te, einl, inls, efr]
  have hb := errV_zero he
  rw [he] at k16 ⊢
  rw [if_pos rfl]
  dsimp only
  have hli := lst_in hb
  have k52 := fun n h => c52 b n hb h
  have k51 := fun n => c51 b (digs n b.cs.length) (digs (n / 3 ^ b.cs.length) b.lo.length) hb (digs_len _ _) (digs_len _ _) (fun v hv => by
    obtain ⟨i, _, rfl⟩ := List.mem_map.1 hv
    omega) (eqDet_in hb _ _)
  have k53 := fun (x : List Int) (h2 : x.length = b.cs.length) h3 => c53 b x hb h2 h3
  have kr := fun (n : Nat) (x : List Int) (d : Int) (h : amN b n = some (x, d)) => amRef_right hb h
  have hstep : ∀ n, lstTo b (n + 1) = lstStep (lstTo b n) (accR b n) := fun _ => rfl
  have hacc : ∀ n, accR b n = match amN b n with
    | some (x, d) => if keptB b x d = true then some (costM b x, d) else none
    | none => none := fun _ => rfl
  have h0 : lstTo b 0 = ⟨0, 1, false⟩ := rfl
  have hl1 := hb.2.1
  have hl2 := hb.2.2.1
  have am : ∀ n, amRef b (digs n b.cs.length) (digs (n / 3 ^ b.cs.length) b.lo.length) = amN b n := fun _ => rfl
  simp only [am] at k51
  clear am
  have k54 := fun s (h : (0 ≤ (lstTo b s).num ∧ (lstTo b s).num ≤ 5368709120000) ∧ 1 ≤ (lstTo b s).den ∧ (lstTo b s).den ≤ 192000) => c54 (lstTo b s).num (lstTo b s).den (by omega) (by omega)
  have hco := fun (x : List Int) (h1 : x.length = b.cs.length) (h2 : ∀ n ∈ x, 0 ≤ n ∧ n ≤ 192000000) => dot_in (f := (·.co)) (cost_f hb) (xs := x) (fun n hn => by have := h2 n hn; omega) h1 b.cs.length (Nat.le_refl _)
  have hcM : ∀ x, costM b x = dotTo (·.co) b.cs x b.cs.length := fun _ => rfl
  generalize lstTo b = ls at *
  generalize accR b = ac at *
  generalize amN b = an at *
  obtain ⟨N, hN⟩ : ∃ N, 3 ^ (b.cs.length + b.lo.length) = N := ⟨_, rfl⟩
  have hN2 : N ≤ 6561 := by
    rw [← hN]
    exact Nat.le_trans (Nat.pow_le_pow_right (by omega) (show b.cs.length + b.lo.length ≤ 8 by omega)) (by decide)
  have hpow : ∀ i, i ≤ b.cs.length + b.lo.length → 3 ^ i ≤ 6561 := fun i hi => Nat.le_trans (Nat.pow_le_pow_right (by omega) (show i ≤ 8 by omega)) (by decide)
  rw [hN]
  obtain ⟨tot, cs, lo, up⟩ := b
  simp only [encBlend] at k16 k51 k52 k53 ⊢
  dsimp only at *
  have w1 : IntKind.i64.wrap ((cs.length : Int) + (lo.length : Int)) = ((cs.length + lo.length : Nat) : Int) := by rw [wrap_in (by omega)]; omega
  simp (maxSteps := 1000000) (implicitDefEqProofs := false) only [Try.ntmps19, Try.results19, efc19, fc19, k16, beq_self_eq_true, bne_self_eq_false, List.length_map, ss, sd, zI, qG, zG, zH, St.get, qE, qF, qB, zD, norm, look, zF, qA, qI, St.alloc, St.drop, zA, part, zC, depth, qD, ↓reduceIte, Nat.reduceBEq, Nat.reduceAdd, Nat.reduceSub, Nat.reduceMul, Nat.reduceEqDiff, Nat.reduceLeDiff, Nat.reduceLT, qJ, qK, qL, qM, qN, qO, qP, qQ, qR, zJ, qS, qC, qT, qU, qV, qW, qX, qY, qZ, zK, fixed, zL, wit, Option.isSome_some, qH, St.with, zE, Array.size, te, einl, inls, efr]
  generalize hr : loopAt _ _ _ _ _ _ = r; revert r
  refine loop_nat (cs.length + lo.length) (fun i _ => [(6, .int .i64 ((3 ^ i : Nat) : Int)), (7, .int .i64 (i : Nat))]) (fun _ _ => []) (fun _ (_ : Unit) => True) () (by omega) (by simp (maxSteps := 1000000) (implicitDefEqProofs := false) only [Nat.pow_zero, Int.natCast_one, Int.natCast_zero, ss, sd, zI, qG, zG, zH, St.get, qE, qF, qB, zD, norm, look, zF, qA, qI, St.alloc, St.drop, zA, part, zC, depth, qD, ↓reduceIte, Nat.reduceBEq, Nat.reduceAdd, Nat.reduceSub, Nat.reduceMul, Nat.reduceEqDiff, Nat.reduceLeDiff, Nat.reduceLT, qJ, qK, qL, qM, qN, qO, qP, qQ, qR, zJ, qS, qC, qT, qU, qV, qW, qX, qY, qZ, zK, fixed, zL, wit, Option.isSome_some, qH, St.with, zE, Array.size, te, einl, inls, efr]) trivial (fun _ _ => ?_) (fun i _ _ a1 a2 a3 => ?_)
  rotate_left
  · have hp := hpow i (by omega)
    have hp1 := hpow (i + 1) (by omega)
    have w2 : IntKind.i64.wrap (((3 ^ i : Nat) : Int) * 3) = ((3 ^ (i + 1) : Nat) : Int) := by
      rw [Nat.pow_succ] at hp1 ⊢
      generalize 3 ^ i = q at *
      rw [wrap_in (by omega)]; omega
    generalize 3 ^ i = q at *
    generalize 3 ^ (i + 1) = q1 at *
    simp (maxSteps := 1000000) (implicitDefEqProofs := false) only [a1, a2, a3, w1, w2, List.length_map, ss, sd, zI, qG, zG, zH, St.get, qE, qF, qB, zD, norm, look, zF, qA, qI, St.alloc, St.drop, zA, part, zC, depth, qD, ↓reduceIte, Nat.reduceBEq, Nat.reduceAdd, Nat.reduceSub, Nat.reduceMul, Nat.reduceEqDiff, Nat.reduceLeDiff, Nat.reduceLT, qJ, qK, qL, qM, qN, qO, qP, qQ, qR, zJ, qS, qC, qT, qU, qV, qW, qX, qY, qZ, zK, fixed, zL, wit, Option.isSome_some, qH, St.with, zE, Array.size, te, einl, inls, efr]
    (first | exact ⟨(), trivial⟩ | refine ⟨(), ?_, trivial⟩ | skip)
  rw [hN]
  simp (maxSteps := 1000000) (implicitDefEqProofs := false) only [Int.lt_irrefl, w1, List.length_map, ss, sd, zI, qG, zG, zH, St.get, qE, qF, qB, zD, norm, look, zF, qA, qI, St.alloc, St.drop, zA, part, zC, depth, qD, ↓reduceIte, Nat.reduceBEq, Nat.reduceAdd, Nat.reduceSub, Nat.reduceMul, Nat.reduceEqDiff, Nat.reduceLeDiff, Nat.reduceLT, qJ, qK, qL, qM, qN, qO, qP, qQ, qR, zJ, qS, qC, qT, qU, qV, qW, qX, qY, qZ, zK, fixed, zL, wit, Option.isSome_some, qH, St.with, zE, Array.size, te, einl, inls, efr]
  generalize hr : loopAt _ _ _ _ _ _ = r; revert r
  refine loop_nat N (fun n _ => [(8, .int .i64 (ls n).num), (9, .int .i64 (ls n).den), (10, .bool (ls n).found), (11, .int .i64 (n : Nat))]) (fun _ _ => []) (fun _ (_ : Unit) => True) () (by omega) (by simp (maxSteps := 1000000) (implicitDefEqProofs := false) only [h0, Int.natCast_zero, ss, sd, zI, qG, zG, zH, St.get, qE, qF, qB, zD, norm, look, zF, qA, qI, St.alloc, St.drop, zA, part, zC, depth, qD, ↓reduceIte, Nat.reduceBEq, Nat.reduceAdd, Nat.reduceSub, Nat.reduceMul, Nat.reduceEqDiff, Nat.reduceLeDiff, Nat.reduceLT, qJ, qK, qL, qM, qN, qO, qP, qQ, qR, zJ, qS, qC, qT, qU, qV, qW, qX, qY, qZ, zK, fixed, zL, wit, Option.isSome_some, qH, St.with, zE, Array.size, te, einl, inls, efr]) trivial (fun _ _ => ?_) (fun n _ _ a1 a2 a3 => ?_)
  · have k54 := k54 N (hli N)
    generalize ls N = l at *
    obtain ⟨num, den, found⟩ := l
    dsimp only at k54 ⊢
    cases found with
    | false =>
      simp (maxSteps := 1000000) (implicitDefEqProofs := false) only [Int.lt_irrefl, encLst, Bool.not_false, Bool.false_eq_true, if_false, Try.ntmps19, Try.results19, efc19, fc19, ss, sd, zI, qG, zG, zH, St.get, qE, qF, qB, zD, norm, look, zF, qA, qI, St.alloc, St.drop, zA, part, zC, depth, qD, ↓reduceIte, Nat.reduceBEq, Nat.reduceAdd, Nat.reduceSub, Nat.reduceMul, Nat.reduceEqDiff, Nat.reduceLeDiff, Nat.reduceLT, qJ, qK, qL, qM, qN, qO, qP, qQ, qR, zJ, qS, qC, qT, qU, qV, qW, qX, qY, qZ, zK, fixed, zL, wit, Option.isSome_some, qH, St.with, zE, Array.size, te, einl, inls, efr]
    | true =>
      rw [if_pos rfl]
      unfold encR at k54
      generalize makeR num den = mr at *
      obtain ⟨m1, m2, m3⟩ := mr
      dsimp only at k54 ⊢
      by_cases h3 : m3 = 0
      · subst h3
        simp (maxSteps := 1000000) (implicitDefEqProofs := false) only [Int.lt_irrefl, k54, encLst, Bool.not_true, beq_self_eq_true, decide_true, Try.ntmps19, Try.results19, efc19, fc19, ss, sd, zI, qG, zG, zH, St.get, qE, qF, qB, zD, norm, look, zF, qA, qI, St.alloc, St.drop, zA, part, zC, depth, qD, ↓reduceIte, Nat.reduceBEq, Nat.reduceAdd, Nat.reduceSub, Nat.reduceMul, Nat.reduceEqDiff, Nat.reduceLeDiff, Nat.reduceLT, qJ, qK, qL, qM, qN, qO, qP, qQ, qR, zJ, qS, qC, qT, qU, qV, qW, qX, qY, qZ, zK, fixed, zL, wit, Option.isSome_some, qH, St.with, zE, Array.size, te, einl, inls, efr]
      · have q3 : (m3 == 0) = false := by simpa using h3
        simp (maxSteps := 1000000) (implicitDefEqProofs := false) only [Int.lt_irrefl, k54, encLst, q3, h3, Bool.not_true, decide_false, Try.ntmps19, Try.results19, efc19, fc19, ss, sd, zI, qG, zG, zH, St.get, qE, qF, qB, zD, norm, look, zF, qA, qI, St.alloc, St.drop, zA, part, zC, depth, qD, ↓reduceIte, Nat.reduceBEq, Nat.reduceAdd, Nat.reduceSub, Nat.reduceMul, Nat.reduceEqDiff, Nat.reduceLeDiff, Nat.reduceLT, qJ, qK, qL, qM, qN, qO, qP, qQ, qR, zJ, qS, qC, qT, qU, qV, qW, qX, qY, qZ, zK, fixed, zL, wit, Option.isSome_some, qH, St.with, zE, Array.size, te, einl, inls, efr]
  · have k51 := k51 n
    have k52 := k52 n (by omega)
    have hs := hstep n
    have ha := hacc n
    have hl := hli n
    have kr := kr n
    generalize ls (n + 1) = l1 at *
    generalize ls n = l at *
    rw [ha] at hs
    subst hs
    obtain ⟨num, den, found⟩ := l
    dsimp only at hl
    generalize digs n cs.length = d1 at *
    generalize digs (n / 3 ^ cs.length) lo.length = d2 at *
    unfold encV at k51
    cases hx : an n with
    | none =>
      rw [hx] at k51
      dsimp only
      unfold lstStep
      dsimp only
      simp (maxSteps := 1000000) (implicitDefEqProofs := false) only [a1, a2, a3, k51, k52, encAm3, evRegion_st hok, ss, sd, zI, qG, zG, zH, St.get, qE, qF, qB, zD, norm, look, zF, qA, qI, St.alloc, St.drop, zA, part, zC, depth, qD, ↓reduceIte, Nat.reduceBEq, Nat.reduceAdd, Nat.reduceSub, Nat.reduceMul, Nat.reduceEqDiff, Nat.reduceLeDiff, Nat.reduceLT, qJ, qK, qL, qM, qN, qO, qP, qQ, qR, zJ, qS, qC, qT, qU, qV, qW, qX, qY, qZ, zK, fixed, zL, wit, Option.isSome_some, qH, St.with, zE, Array.size, te, einl, inls, efr]
      (first | exact ⟨(), trivial⟩ | refine ⟨(), ?_, trivial⟩ | skip)
    | some xd =>
      obtain ⟨x, d⟩ := xd
      rw [hx] at k51
      dsimp only
      obtain ⟨r1, r2, r3⟩ := kr x d hx
      have k53 := k53 x r1 (fun m hm => by have := r2 m hm; omega)
      have hc := hco x r1 r2
      rw [← hcM] at hc
      generalize costM ⟨tot, cs, lo, up⟩ x = co at *
      cases hk : keptB ⟨tot, cs, lo, up⟩ x d with
      | false =>
        rw [if_neg (by decide)]
        unfold lstStep
        dsimp only
        simp (maxSteps := 1000000) (implicitDefEqProofs := false) only [a1, a2, a3, k51, k52, encAm3, hk, evRegion_st hok, ss, sd, zI, qG, zG, zH, St.get, qE, qF, qB, zD, norm, look, zF, qA, qI, St.alloc, St.drop, zA, part, zC, depth, qD, ↓reduceIte, Nat.reduceBEq, Nat.reduceAdd, Nat.reduceSub, Nat.reduceMul, Nat.reduceEqDiff, Nat.reduceLeDiff, Nat.reduceLT, qJ, qK, qL, qM, qN, qO, qP, qQ, qR, zJ, qS, qC, qT, qU, qV, qW, qX, qY, qZ, zK, fixed, zL, wit, Option.isSome_some, qH, St.with, zE, Array.size, te, einl, inls, efr]
        (first | exact ⟨(), trivial⟩ | refine ⟨(), ?_, trivial⟩ | skip)
      | true =>
        rw [if_pos rfl]
        unfold lstStep
        dsimp only
        have m1 := mul_in (show 0 ≤ co ∧ co ≤ 5368709120000 by omega) (show 0 ≤ den ∧ den ≤ 192000 by omega)
        have m2 := mul_in hl.1 (show 0 ≤ d ∧ d ≤ 192000 by omega)
        have w4 : IntKind.i64.wrap (co * den) = co * den := wrap_in (by omega)
        have w5 : IntKind.i64.wrap (num * d) = num * d := wrap_in (by omega)
        cases found with
        | false =>
          rw [if_pos (.inl rfl)]
          simp (maxSteps := 1000000) (implicitDefEqProofs := false) only [a1, a2, a3, k51, k52, k53, encAm3, hk, evRegion_st hok, Bool.not_false, ss, sd, zI, qG, zG, zH, St.get, qE, qF, qB, zD, norm, look, zF, qA, qI, St.alloc, St.drop, zA, part, zC, depth, qD, ↓reduceIte, Nat.reduceBEq, Nat.reduceAdd, Nat.reduceSub, Nat.reduceMul, Nat.reduceEqDiff, Nat.reduceLeDiff, Nat.reduceLT, qJ, qK, qL, qM, qN, qO, qP, qQ, qR, zJ, qS, qC, qT, qU, qV, qW, qX, qY, qZ, zK, fixed, zL, wit, Option.isSome_some, qH, St.with, zE, Array.size, te, einl, inls, efr]
          (first | exact ⟨(), trivial⟩ | refine ⟨(), ?_, trivial⟩ | skip)
        | true =>
          by_cases hlt : co * den < num * d
          · rw [if_pos (.inr hlt)]
            simp (maxSteps := 1000000) (implicitDefEqProofs := false) only [a1, a2, a3, k51, k52, k53, w4, w5, hlt, encAm3, hk, evRegion_st hok, Bool.not_true, ss, sd, zI, qG, zG, zH, St.get, qE, qF, qB, zD, norm, look, zF, qA, qI, St.alloc, St.drop, zA, part, zC, depth, qD, ↓reduceIte, Nat.reduceBEq, Nat.reduceAdd, Nat.reduceSub, Nat.reduceMul, Nat.reduceEqDiff, Nat.reduceLeDiff, Nat.reduceLT, qJ, qK, qL, qM, qN, qO, qP, qQ, qR, zJ, qS, qC, qT, qU, qV, qW, qX, qY, qZ, zK, fixed, zL, wit, Option.isSome_some, qH, St.with, zE, Array.size, te, einl, inls, efr]
            (first | exact ⟨(), trivial⟩ | refine ⟨(), ?_, trivial⟩ | skip)
          · rw [if_neg (by simp [hlt])]
            simp (maxSteps := 1000000) (implicitDefEqProofs := false) only [a1, a2, a3, k51, k52, k53, w4, w5, hlt, encAm3, hk, evRegion_st hok, Bool.not_true, ss, sd, zI, qG, zG, zH, St.get, qE, qF, qB, zD, norm, look, zF, qA, qI, St.alloc, St.drop, zA, part, zC, depth, qD, ↓reduceIte, Nat.reduceBEq, Nat.reduceAdd, Nat.reduceSub, Nat.reduceMul, Nat.reduceEqDiff, Nat.reduceLeDiff, Nat.reduceLT, qJ, qK, qL, qM, qN, qO, qP, qQ, qR, zJ, qS, qC, qT, qU, qV, qW, qX, qY, qZ, zK, fixed, zL, wit, Option.isSome_some, qH, St.with, zE, Array.size, te, einl, inls, efr]
            (first | exact ⟨(), trivial⟩ | refine ⟨(), ?_, trivial⟩ | skip)
end Go.AM.E

