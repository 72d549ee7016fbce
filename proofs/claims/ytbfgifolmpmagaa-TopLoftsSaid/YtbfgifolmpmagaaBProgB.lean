/-
The search of the program finds what the sums of the reference tell.
-/
import Derived.Test.YtbfgifolmpmagaaBRefP
import Derived.Test.YtbfgifolmpmagaaBInts
set_option linter.unusedVariables false
set_option linter.unusedSimpArgs false

namespace Go.AM.B
open Go Go.AM Go.Proofs

theorem upTo_map : ∀ (n : Nat) (a : Int), upTo a n = (List.range n).map fun (i : Nat) => a + i
  | 0, a => rfl
  | n + 1, a => by
    rw [upTo, upTo_map n (a + 1), List.range_succ_eq_map, List.map_cons, List.map_map]
    simp only [Int.natCast_zero, Int.add_zero, List.cons.injEq, true_and]
    refine List.map_congr_left fun i _ => ?_
    simp only [Function.comp, Int.natCast_succ]
    omega

theorem nextH_nat (h : Nat) : nextH h = (List.range (hiN h + 1 - loN h)).map fun (i : Nat) => ((loN h + i : Nat) : Int) := by
  unfold nextH
  have e1 : lowH h = (loN h : Int) := by unfold lowH loN; omega
  have e2 : (min 4 ((h : Int) + 1) + 1 - lowH h).toNat = hiN h + 1 - loN h := by rw [e1]; unfold hiN loN; omega
  rw [e2, e1, upTo_map]
  exact List.map_congr_left fun i _ => by omega

theorem nextH_in {h : Int} (hh : 0 ≤ h ∧ h ≤ 4) : ∀ g ∈ nextH h, (0 ≤ g ∧ g ≤ 4) ∧ (h - 1 ≤ g ∧ g ≤ h + 1) := fun g hg => by
  unfold nextH lowH at hg
  have := upTo_get _ _ g hg
  omega

section
variable {f : Loft} {need most : Int}

theorem rN_eq (hf : loftOk f = true) (g : Nat) : rateAt f (g : Int) = (rN f g : Int) := by
  have := rateAt_in hf (g : Int)
  unfold rN
  omega

theorem reach_le (hf : loftOk f = true) : ∀ (r h s : Nat), reachB f r h s = true → s ≤ 9 * r
  | 0, h, s, e => by simp [reachB] at e; omega
  | r + 1, h, s, e => by
    unfold reachB at e
    rw [List.any_eq_true] at e
    obtain ⟨i, _, hi⟩ := e
    simp only [Bool.and_eq_true, decide_eq_true_eq] at hi
    have h1 := reach_le hf r _ _ hi.2
    have h2 := rateAt_in hf ((loN h + i : Nat) : Int)
    have h3 := rN_eq hf (loN h + i)
    omega

theorem canB_iff (hf : loftOk f = true) {r : Nat} (hr : r ≤ 12) (h : Nat) (s : Int) : canB f need most r h s = true ↔ ∃ x : Nat, reachB f r h x = true ∧ need ≤ s + x ∧ s + x ≤ most := by
  unfold canB anyB
  rw [List.any_eq_true, Int.toNat_natCast]
  constructor
  · rintro ⟨x, _, hx⟩
    rw [Bool.and_eq_true, inB_iff] at hx
    exact ⟨x, hx.1, hx.2⟩
  · rintro ⟨x, h1, h2⟩
    have := reach_le hf r h x h1
    exact ⟨x, List.mem_range.2 (by omega), by rw [Bool.and_eq_true, inB_iff]; exact ⟨h1, h2⟩⟩

theorem tryS_find (g : Int → Option (List Int)) : ∀ hs : List Int, tryS g hs = match hs.find? (fun h => (g h).isSome) with
    | some h => (g h).map (h :: ·)
    | none => none
  | [] => rfl
  | h :: hs => by
    unfold tryS
    rw [List.find?_cons]
    cases hg : g h with
    | some l => simp [hg]
    | none => exact tryS_find g hs

theorem tryS_some (g : Int → Option (List Int)) (hs : List Int) : (tryS g hs).isSome = hs.any fun h => (g h).isSome := by
  induction hs with
  | nil => rfl
  | cons h hs ih =>
    unfold tryS
    rw [List.any_cons]
    cases hg : g h with
    | some l => simp
    | none => simpa using ih

theorem fin_can (hf : loftOk f = true) : ∀ (r : Nat) (h : Nat) (s : Int), r ≤ 12 → h ≤ 4 → (finS f need most r h s).isSome = canB f need most r h s
  | 0, h, s, hr, hh => by
    rw [Bool.eq_iff_iff, canB_iff hf hr]
    unfold finS
    constructor
    · intro e
      split at e
      · cases e
      · split at e
        · exact ⟨0, rfl, by omega, by omega⟩
        · cases e
    · rintro ⟨x, h1, h2, h3⟩
      simp [reachB] at h1
      subst h1
      rw [if_neg (by omega), if_pos (by omega)]
      rfl
  | r + 1, h, s, hr, hh => by
    rw [Bool.eq_iff_iff, canB_iff hf hr]
    unfold finS
    have key : (∃ g ∈ nextH h, (finS f need most r g (s + rateAt f g)).isSome = true) ↔ ∃ x : Nat, reachB f (r + 1) h x = true ∧ need ≤ s + x ∧ s + x ≤ most := by
      rw [nextH_nat]
      constructor
      · rintro ⟨g, hg, e⟩
        obtain ⟨i, hi, rfl⟩ := List.mem_map.1 hg
        have hi' := List.mem_range.1 hi
        have g4 : loN h + i ≤ 4 := by unfold hiN at hi'; omega
        rw [fin_can hf r (loN h + i) _ (by omega) g4, canB_iff hf (by omega)] at e
        obtain ⟨x, h1, h2, h3⟩ := e
        rw [rN_eq hf] at h2 h3
        refine ⟨rN f (loN h + i) + x, ?_, by omega, by omega⟩
        unfold reachB
        rw [List.any_eq_true]
        exact ⟨i, hi, by rw [decide_eq_true (by omega), Nat.add_sub_cancel_left, h1]; rfl⟩
      · rintro ⟨x, h1, h2, h3⟩
        unfold reachB at h1
        rw [List.any_eq_true] at h1
        obtain ⟨i, hi, e⟩ := h1
        simp only [Bool.and_eq_true, decide_eq_true_eq] at e
        have hi' := List.mem_range.1 hi
        have g4 : loN h + i ≤ 4 := by unfold hiN at hi'; omega
        refine ⟨((loN h + i : Nat) : Int), List.mem_map.2 ⟨i, hi, rfl⟩, ?_⟩
        rw [fin_can hf r (loN h + i) _ (by omega) g4, canB_iff hf (by omega), rN_eq hf]
        exact ⟨x - rN f (loN h + i), e.2, by omega, by omega⟩
    rw [← key]
    constructor
    · intro e
      split at e
      · cases e
      · rw [tryS_some, List.any_eq_true] at e
        exact e
    · intro e
      have hm : ¬ most < s := by
        obtain ⟨x, h1, h2, h3⟩ := key.1 e
        omega
      rw [if_neg hm, tryS_some, List.any_eq_true]
      exact e

theorem find_congr {α : Type} {p q : α → Bool} : ∀ {l : List α}, (∀ x ∈ l, p x = q x) → l.find? p = l.find? q
  | [], _ => rfl
  | x :: l, h => by
    rw [List.find?_cons, List.find?_cons, h x List.mem_cons_self, find_congr fun y hy => h y (List.mem_cons_of_mem _ hy)]

theorem ref_fin (hf : loftOk f = true) : ∀ (r : Nat) (h : Nat) (s : Int), r ≤ 12 → h ≤ 4 → (1 ≤ r ∨ canB f need most r h s = true) → refFrom f need most r h s = finS f need most r h s
  | 0, h, s, hr, hh, hc => by
    have hc := hc.resolve_left (by omega)
    rw [← fin_can hf 0 h s hr hh] at hc
    unfold finS at hc ⊢
    split at hc
    · cases hc
    · split at hc
      · rename_i h1 h2; rw [if_neg h1, if_pos h2]; rfl
      · cases hc
  | r + 1, h, s, hr, hh, hc => by
    have each : ∀ g ∈ nextH h, canB f need most r g (s + rateAt f g) = (finS f need most r g (s + rateAt f g)).isSome := fun g hg => by
      have := (nextH_in (h := h) (by omega) g hg).1
      obtain ⟨k, rfl⟩ : ∃ k : Nat, g = k := ⟨g.toNat, by omega⟩
      rw [fin_can hf r k _ (by omega) (by omega)]
    have e1 : finS f need most (r + 1) h s = tryS (fun g => finS f need most r g (s + rateAt f g)) (nextH h) := by
      by_cases hm : most < s
      · have : ∀ g ∈ nextH h, (finS f need most r g (s + rateAt f g)).isSome = false := fun g hg => by
          have h1 := rateAt_in hf g
          have h2 := (nextH_in (h := h) (by omega) g hg).1
          cases r with
          | zero => unfold finS; rw [if_pos (by omega)]; rfl
          | succ r => unfold finS; rw [if_pos (by omega)]; rfl
        have h3 : (tryS (fun g => finS f need most r g (s + rateAt f g)) (nextH h)).isSome = false := by
          rw [tryS_some, List.any_eq_false]
          intro g hg
          rw [this g hg]; simp
        have h4 : tryS (fun g => finS f need most r g (s + rateAt f g)) (nextH h) = none := by
          cases hq : tryS (fun g => finS f need most r g (s + rateAt f g)) (nextH h) with
          | none => rfl
          | some l => rw [hq] at h3; cases h3
        rw [h4]
        conv => lhs; unfold finS
        rw [if_pos hm]
      · conv => lhs; unfold finS
        rw [if_neg hm]
    rw [e1, tryS_find, refFrom, find_congr each]
    cases hq : (nextH h).find? (fun g => (finS f need most r g (s + rateAt f g)).isSome) with
    | none => rfl
    | some g =>
      have hg := List.mem_of_find?_eq_some hq
      have hs := List.find?_some hq
      dsimp only at hs ⊢
      have h2 := (nextH_in (h := h) (by omega) g hg).1
      obtain ⟨k, rfl⟩ : ∃ k : Nat, g = k := ⟨g.toNat, by omega⟩
      rw [ref_fin hf r k _ (by omega) (by omega) (.inr (by rw [each _ hg]; exact hs))]

theorem fin_right (hf : loftOk f = true) : ∀ (m : Nat) (h s : Int) (l : List Int), 0 ≤ h ∧ h ≤ 4 → finS f need most m h s = some l → heatsFrom h l = true ∧ l.length = m ∧ need ≤ s + warmM f l ∧ s + warmM f l ≤ most
  | 0, h, s, l, _, e => by
    unfold finS at e
    split at e
    · cases e
    · split at e
      · cases e
        refine ⟨rfl, rfl, ?_⟩
        have : warmM f [] = 0 := rfl
        omega
      · cases e
  | m + 1, h, s, l, hh, e => by
    unfold finS at e
    split at e
    · cases e
    · rw [tryS_find] at e
      split at e
      · rename_i g hq
        have hg := List.mem_of_find?_eq_some hq
        obtain ⟨n1, n2⟩ := nextH_in hh g hg
        cases hl : finS f need most m g (s + rateAt f g) with
        | none => rw [hl] at e; cases e
        | some l' =>
          rw [hl] at e
          cases e
          obtain ⟨i1, i2, i3, i4⟩ := fin_right hf m g (s + rateAt f g) l' n1 hl
          have : warmM f (g :: l') = rateAt f g + warmM f l' := by simp [warmM]
          refine ⟨?_, by rw [List.length_cons, i2], by show need ≤ s + warmM f (g :: l'); omega, by show s + warmM f (g :: l') ≤ most; omega⟩
          simp only [heatsFrom, Bool.and_eq_true, inB_iff]
          exact ⟨⟨n1, n2⟩, i1⟩
      · cases e

theorem prog_right (hf : loftOk f = true) : ∀ (n d : Nat) (l : List Int), 1 ≤ d → progFrom f need most d n = some l → heatsFrom 0 l = true ∧ (1 ≤ l.length ∧ l.length < d + n) ∧ need ≤ warmM f l ∧ warmM f l ≤ most
  | 0, d, l, _, e => by cases e
  | n + 1, d, l, hd, e => by
    unfold progFrom at e
    cases hr : finS f need most d 0 0 with
    | some l' =>
      rw [hr] at e
      cases e
      obtain ⟨i1, i2, i3, i4⟩ := fin_right hf d 0 0 l (by omega) hr
      exact ⟨i1, by omega, by omega, by omega⟩
    | none =>
      rw [hr] at e
      obtain ⟨i1, i2, i3⟩ := prog_right hf n (d + 1) l (by omega) e
      exact ⟨i1, by omega, i3⟩
end

set_option maxHeartbeats 8000000 in
theorem c33 (f : Loft) (need most : Int) : (orcω E X0).call 33 [encL f, .int .i64 need, .int .i64 most] = some (encP (progR f need most)) := by
  refine call_of rfl fn33 rfl ?_
  have k1 := c31 [f]
  have k2 := c59 need 1 60
  have k3 := c59 most need 60
  have k4 := c65 f
  have k5 := fun d => c66 f need most d
  unfold progR
  unfold encL at k1 k4 k5 ⊢
  simp only [List.map_cons, List.map_nil, encL] at k1
  rcases validLs_one [f] with h1 | h1
  rotate_left
  · rw [h1] at k1
    simp (maxSteps := 1000000) (implicitDefEqProofs := false) only [Try.ntmps33, Try.results33, efc33, fc33, k1, h1, encP, Int.reduceBNe, Int.reduceEq, ↓reduceIte, ss, List.replicate, zH, qG, zF, zG, St.eval, St.put, St.get, constV, List.set, lenV, qE, qF, qB, zC, norm, xQ, look, xP, xX, zO, zM, zE, zN, qA, qI, St.alloc, St.drop, killL, kill, xU, xV, zA, upd, cells?, part, retag, xT, putIn, refFree, xR, isNew, xS, Ty.isAgg, zB, idsL, ids, idsLL, reach, depth, St.dropL, qD, resultV, ↓reduceIte, Nat.reduceBEq, Nat.reduceAdd, Nat.reduceSub, Nat.reduceMul, Nat.reduceEqDiff, Nat.reduceLeDiff, Nat.reduceLT, qJ, qK, zV, zW, qL, qM, qN, qO, Eff.ap, qP, qQ, xW, qR, zI, onto, dropO, xA, sized, zP, eqT, eqG, minV, evUn, qS, zQ, zR, zS, qC, qT, upO, evSlice0, optInt, xC, qV, xD, del, xB, plain, plainL, zY, zZ, zT, qW, zU, zX, xY, qX, qY, qZ, xE, zJ, zK, zL, xF, xG, wit, xH, Option.isSome_some, xI, qH, xJ, evPre, St.with, xK, xL, zD, xM, xN, xO, Array.size, te, einl, inls, efr]
  have hf := (validLs_zero h1).2 f (by simp)
  rw [h1] at k1
  cases h2 : inB need 1 60 with
  | false => simp (maxSteps := 1000000) (implicitDefEqProofs := false) only [Try.ntmps33, Try.results33, efc33, fc33, k1, k2, h1, h2, encP, bne_self_eq_false, false_and, ss, List.replicate, zH, qG, zF, zG, St.eval, St.put, St.get, constV, List.set, lenV, qE, qF, qB, zC, norm, xQ, look, xP, xX, zO, zM, zE, zN, qA, qI, St.alloc, St.drop, killL, kill, xU, xV, zA, upd, cells?, part, retag, xT, putIn, refFree, xR, isNew, xS, Ty.isAgg, zB, idsL, ids, idsLL, reach, depth, St.dropL, qD, resultV, ↓reduceIte, Nat.reduceBEq, Nat.reduceAdd, Nat.reduceSub, Nat.reduceMul, Nat.reduceEqDiff, Nat.reduceLeDiff, Nat.reduceLT, qJ, qK, zV, zW, qL, qM, qN, qO, Eff.ap, qP, qQ, xW, qR, zI, onto, dropO, xA, sized, zP, eqT, eqG, minV, evUn, qS, zQ, zR, zS, qC, qT, upO, evSlice0, optInt, xC, qV, xD, del, xB, plain, plainL, zY, zZ, zT, qW, zU, zX, xY, qX, qY, qZ, xE, zJ, zK, zL, xF, xG, wit, xH, Option.isSome_some, xI, qH, xJ, evPre, St.with, xK, xL, zD, xM, xN, xO, Array.size, te, einl, inls, efr]
  | true =>
  cases h3 : inB most need 60 with
  | false => simp (maxSteps := 1000000) (implicitDefEqProofs := false) only [Try.ntmps33, Try.results33, efc33, fc33, k1, k2, k3, h1, h2, h3, encP, bne_self_eq_false, and_false, ss, List.replicate, zH, qG, zF, zG, St.eval, St.put, St.get, constV, List.set, lenV, qE, qF, qB, zC, norm, xQ, look, xP, xX, zO, zM, zE, zN, qA, qI, St.alloc, St.drop, killL, kill, xU, xV, zA, upd, cells?, part, retag, xT, putIn, refFree, xR, isNew, xS, Ty.isAgg, zB, idsL, ids, idsLL, reach, depth, St.dropL, qD, resultV, ↓reduceIte, Nat.reduceBEq, Nat.reduceAdd, Nat.reduceSub, Nat.reduceMul, Nat.reduceEqDiff, Nat.reduceLeDiff, Nat.reduceLT, qJ, qK, zV, zW, qL, qM, qN, qO, Eff.ap, qP, qQ, xW, qR, zI, onto, dropO, xA, sized, zP, eqT, eqG, minV, evUn, qS, zQ, zR, zS, qC, qT, upO, evSlice0, optInt, xC, qV, xD, del, xB, plain, plainL, zY, zZ, zT, qW, zU, zX, xY, qX, qY, qZ, xE, zJ, zK, zL, xF, xG, wit, xH, Option.isSome_some, xI, qH, xJ, evPre, St.with, xK, xL, zD, xM, xN, xO, Array.size, te, einl, inls, efr]
  | true =>
  have k4 := k4 hf
  have hp : progS f need most = progFrom f need most 1 12 := rfl
  simp (maxSteps := 1000000) (implicitDefEqProofs := false) only [Try.ntmps33, Try.results33, efc33, fc33, k1, k2, k3, k4, h1, h2, h3, bne_self_eq_false, and_self, ss, List.replicate, zH, qG, zF, zG, St.eval, St.put, St.get, constV, List.set, lenV, qE, qF, qB, zC, norm, xQ, look, xP, xX, zO, zM, zE, zN, qA, qI, St.alloc, St.drop, killL, kill, xU, xV, zA, upd, cells?, part, retag, xT, putIn, refFree, xR, isNew, xS, Ty.isAgg, zB, idsL, ids, idsLL, reach, depth, St.dropL, qD, resultV, ↓reduceIte, Nat.reduceBEq, Nat.reduceAdd, Nat.reduceSub, Nat.reduceMul, Nat.reduceEqDiff, Nat.reduceLeDiff, Nat.reduceLT, qJ, qK, zV, zW, qL, qM, qN, qO, Eff.ap, qP, qQ, xW, qR, zI, onto, dropO, xA, sized, zP, eqT, eqG, minV, evUn, qS, zQ, zR, zS, qC, qT, upO, evSlice0, optInt, xC, qV, xD, del, xB, plain, plainL, zY, zZ, zT, qW, zU, zX, xY, qX, qY, qZ, xE, zJ, zK, zL, xF, xG, wit, xH, Option.isSome_some, xI, qH, xJ, evPre, St.with, xK, xL, zD, xM, xN, xO, Array.size, te, einl, inls, efr]
  generalize hr : loopAt _ _ _ _ _ _ = r; revert r
  refine loop_inv (ι := { i : Nat × Nat // 1 ≤ i.1 ∧ i.1 + i.2 = 13 ∧ progFrom f need most i.1 i.2 = progS f need most }) (fun i => [(11, .int .i64 i.1.1)]) (fun _ => []) (fun i => i.1.2) ⟨(1, 12), Nat.le_refl _, rfl, rfl⟩ (by simp (maxSteps := 1000000) (implicitDefEqProofs := false) only [Int.natCast_one, ss, List.replicate, zH, qG, zF, zG, St.eval, St.put, St.get, constV, List.set, lenV, qE, qF, qB, zC, norm, xQ, look, xP, xX, zO, zM, zE, zN, qA, qI, St.alloc, St.drop, killL, kill, xU, xV, zA, upd, cells?, part, retag, xT, putIn, refFree, xR, isNew, xS, Ty.isAgg, zB, idsL, ids, idsLL, reach, depth, St.dropL, qD, resultV, ↓reduceIte, Nat.reduceBEq, Nat.reduceAdd, Nat.reduceSub, Nat.reduceMul, Nat.reduceEqDiff, Nat.reduceLeDiff, Nat.reduceLT, qJ, qK, zV, zW, qL, qM, qN, qO, Eff.ap, qP, qQ, xW, qR, zI, onto, dropO, xA, sized, zP, eqT, eqG, minV, evUn, qS, zQ, zR, zS, qC, qT, upO, evSlice0, optInt, xC, qV, xD, del, xB, plain, plainL, zY, zZ, zT, qW, zU, zX, xY, qX, qY, qZ, xE, zJ, zK, zL, xF, xG, wit, xH, Option.isSome_some, xI, qH, xJ, evPre, St.with, xK, xL, zD, xM, xN, xO, Array.size, te, einl, inls, efr]) ?_
  rintro ⟨⟨d, n⟩, i1, i2, i3⟩
  dsimp only at i1 i2 i3 ⊢
  cases n with
  | zero =>
    have le : ¬ (d : Int) ≤ 12 := by omega
    rw [← i3]
    simp (maxSteps := 1000000) (implicitDefEqProofs := false) only [le, Try.ntmps33, Try.results33, efc33, fc33, progFrom, encP, ss, List.replicate, zH, qG, zF, zG, St.eval, St.put, St.get, constV, List.set, lenV, qE, qF, qB, zC, norm, xQ, look, xP, xX, zO, zM, zE, zN, qA, qI, St.alloc, St.drop, killL, kill, xU, xV, zA, upd, cells?, part, retag, xT, putIn, refFree, xR, isNew, xS, Ty.isAgg, zB, idsL, ids, idsLL, reach, depth, St.dropL, qD, resultV, ↓reduceIte, Nat.reduceBEq, Nat.reduceAdd, Nat.reduceSub, Nat.reduceMul, Nat.reduceEqDiff, Nat.reduceLeDiff, Nat.reduceLT, qJ, qK, zV, zW, qL, qM, qN, qO, Eff.ap, qP, qQ, xW, qR, zI, onto, dropO, xA, sized, zP, eqT, eqG, minV, evUn, qS, zQ, zR, zS, qC, qT, upO, evSlice0, optInt, xC, qV, xD, del, xB, plain, plainL, zY, zZ, zT, qW, zU, zX, xY, qX, qY, qZ, xE, zJ, zK, zL, xF, xG, wit, xH, Option.isSome_some, xI, qH, xJ, evPre, St.with, xK, xL, zD, xM, xN, xO, Array.size, te, einl, inls, efr]
  | succ n =>
    have le : (d : Int) ≤ 12 := by omega
    have w1 : IntKind.i64.wrap ((d : Int) + 1) = ((d + 1 : Nat) : Int) := by rw [wrap_in (by omega)]; omega
    have k5 := k5 d hf (by omega)
    have e := ref_fin (need := need) (most := most) hf d 0 0 (by omega) (by omega) (.inl i1)
    rw [show ((0 : Nat) : Int) = 0 from rfl] at e
    rw [e] at k5
    rw [progFrom] at i3
    cases hr : finS f need most d 0 0 with
    | none =>
      rw [hr] at k5 i3
      simp only [encO] at k5
      simp (maxSteps := 1000000) (implicitDefEqProofs := false) only [le, w1, k5, ss, List.replicate, zH, qG, zF, zG, St.eval, St.put, St.get, constV, List.set, lenV, qE, qF, qB, zC, norm, xQ, look, xP, xX, zO, zM, zE, zN, qA, qI, St.alloc, St.drop, killL, kill, xU, xV, zA, upd, cells?, part, retag, xT, putIn, refFree, xR, isNew, xS, Ty.isAgg, zB, idsL, ids, idsLL, reach, depth, St.dropL, qD, resultV, ↓reduceIte, Nat.reduceBEq, Nat.reduceAdd, Nat.reduceSub, Nat.reduceMul, Nat.reduceEqDiff, Nat.reduceLeDiff, Nat.reduceLT, qJ, qK, zV, zW, qL, qM, qN, qO, Eff.ap, qP, qQ, xW, qR, zI, onto, dropO, xA, sized, zP, eqT, eqG, minV, evUn, qS, zQ, zR, zS, qC, qT, upO, evSlice0, optInt, xC, qV, xD, del, xB, plain, plainL, zY, zZ, zT, qW, zU, zX, xY, qX, qY, qZ, xE, zJ, zK, zL, xF, xG, wit, xH, Option.isSome_some, xI, qH, xJ, evPre, St.with, xK, xL, zD, xM, xN, xO, Array.size, te, einl, inls, efr]
      exact ⟨⟨(d + 1, n), by dsimp only; omega, by dsimp only; omega, i3⟩, rfl, Nat.lt_succ_self _⟩
    | some l =>
      rw [hr] at k5 i3
      simp only [encO] at k5
      replace i3 : some l = progS f need most := i3
      rw [← i3]
      simp (maxSteps := 1000000) (implicitDefEqProofs := false) only [le, w1, k5, encP, Try.ntmps33, Try.results33, efc33, fc33, ss, List.replicate, zH, qG, zF, zG, St.eval, St.put, St.get, constV, List.set, lenV, qE, qF, qB, zC, norm, xQ, look, xP, xX, zO, zM, zE, zN, qA, qI, St.alloc, St.drop, killL, kill, xU, xV, zA, upd, cells?, part, retag, xT, putIn, refFree, xR, isNew, xS, Ty.isAgg, zB, idsL, ids, idsLL, reach, depth, St.dropL, qD, resultV, ↓reduceIte, Nat.reduceBEq, Nat.reduceAdd, Nat.reduceSub, Nat.reduceMul, Nat.reduceEqDiff, Nat.reduceLeDiff, Nat.reduceLT, qJ, qK, zV, zW, qL, qM, qN, qO, Eff.ap, qP, qQ, xW, qR, zI, onto, dropO, xA, sized, zP, eqT, eqG, minV, evUn, qS, zQ, zR, zS, qC, qT, upO, evSlice0, optInt, xC, qV, xD, del, xB, plain, plainL, zY, zZ, zT, qW, zU, zX, xY, qX, qY, qZ, xE, zJ, zK, zL, xF, xG, wit, xH, Option.isSome_some, xI, qH, xJ, evPre, St.with, xK, xL, zD, xM, xN, xO, Array.size, te, einl, inls, efr]

set_option maxHeartbeats 8000000 in
theorem c5 (f : Loft) (need most : Int) : (orcω E X0).call 5 [encL f, .int .i64 need, .int .i64 most] = some (.bool true) := by
  refine call_of rfl fn5 rfl ?_
  have k1 := c32 f need most
  have k2 := c33 f need most
  have k3 := fun l => c24 l l
  have k4 := fun hs => c26 f hs
  have key : ∀ l e, progR f need most = (some l, e) → e = 0 ∧ l.length ≤ 12 ∧ warmthR f l = (warmM f l, 0) ∧ need ≤ warmM f l ∧ warmM f l ≤ most := fun l e hp => by
    unfold progR at hp
    split at hp
    · rename_i h1
      have hf := (validLs_zero h1).2 f (by simp)
      split at hp
      · obtain ⟨hp0, rfl⟩ := Prod.mk.inj hp
        obtain ⟨q1, q2, q3, q4⟩ := prog_right hf 12 1 l (Nat.le_refl _) hp0.symm.symm
        have hv : validHs l = true := validHs_iff.2 ⟨by omega, q1⟩
        exact ⟨rfl, by omega, by unfold warmthR; rw [if_pos h1, if_pos hv], q3, q4⟩
      · cases hp
    · cases hp
  rw [show encL f = .agg [.int .i64 f.poles, .sl false (f.rates.map vI)] from rfl] at k1 k2 ⊢
  cases hp : progR f need most with
  | mk a e =>
  rw [hp] at k1 k2
  cases a with
  | none =>
    simp only [encP] at k1 k2
    have k3 := k3 [] (by simp)
    simp only [List.map_nil, decide_true] at k3
    simp (maxSteps := 1000000) (implicitDefEqProofs := false) only [Try.ntmps5, Try.results5, efc5, k1, k2, k3, c25, bne_self_eq_false, ss, List.replicate, zH, qG, zF, zG, St.eval, St.put, St.get, constV, List.set, lenV, qE, qF, qB, zC, norm, xQ, look, xP, xX, zO, zM, zE, zN, qA, qI, St.alloc, St.drop, killL, kill, xU, xV, zA, upd, cells?, part, retag, xT, putIn, refFree, xR, isNew, xS, Ty.isAgg, zB, idsL, ids, idsLL, reach, depth, St.dropL, qD, resultV, ↓reduceIte, Nat.reduceBEq, Nat.reduceAdd, Nat.reduceSub, Nat.reduceMul, Nat.reduceEqDiff, Nat.reduceLeDiff, Nat.reduceLT, qJ, qK, zV, zW, qL, qM, qN, qO, Eff.ap, qP, qQ, xW, qR, zI, onto, dropO, xA, sized, zP, eqT, eqG, minV, evUn, qS, zQ, zR, zS, qC, qT, upO, evSlice0, optInt, xC, qV, xD, del, xB, plain, plainL, zY, zZ, zT, qW, zU, zX, xY, qX, qY, qZ, xE, zJ, zK, zL, xF, xG, wit, xH, Option.isSome_some, xI, qH, xJ, evPre, St.with, xK, xL, zD, xM, xN, xO, Array.size, te, einl, inls, efr]
  | some l =>
    obtain ⟨rfl, n1, n2, n3, n4⟩ := key l e hp
    simp only [encP] at k1 k2
    have k3 := k3 l (by omega)
    have k4 := k4 l
    rw [n2] at k4
    simp only [encI2, encL] at k4
    simp (maxSteps := 1000000) (implicitDefEqProofs := false) only [Try.ntmps5, Try.results5, efc5, k1, k2, k3, k4, n3, n4, c25, bne_self_eq_false, beq_self_eq_true, decide_true, ss, List.replicate, zH, qG, zF, zG, St.eval, St.put, St.get, constV, List.set, lenV, qE, qF, qB, zC, norm, xQ, look, xP, xX, zO, zM, zE, zN, qA, qI, St.alloc, St.drop, killL, kill, xU, xV, zA, upd, cells?, part, retag, xT, putIn, refFree, xR, isNew, xS, Ty.isAgg, zB, idsL, ids, idsLL, reach, depth, St.dropL, qD, resultV, ↓reduceIte, Nat.reduceBEq, Nat.reduceAdd, Nat.reduceSub, Nat.reduceMul, Nat.reduceEqDiff, Nat.reduceLeDiff, Nat.reduceLT, qJ, qK, zV, zW, qL, qM, qN, qO, Eff.ap, qP, qQ, xW, qR, zI, onto, dropO, xA, sized, zP, eqT, eqG, minV, evUn, qS, zQ, zR, zS, qC, qT, upO, evSlice0, optInt, xC, qV, xD, del, xB, plain, plainL, zY, zZ, zT, qW, zU, zX, xY, qX, qY, qZ, xE, zJ, zK, zL, xF, xG, wit, xH, Option.isSome_some, xI, qH, xJ, evPre, St.with, xK, xL, zD, xM, xN, xO, Array.size, te, einl, inls, efr]
end Go.AM.B

