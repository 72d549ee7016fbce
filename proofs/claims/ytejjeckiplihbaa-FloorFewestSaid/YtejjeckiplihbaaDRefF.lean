/-
The fewest rolls: the document's Fewest; both answers agree.
-/
import Derived.Test.YtejjeckiplihbaaDShade
set_option linter.unusedSimpArgs false
set_option maxRecDepth 20000

namespace Go.AM.D
open Go Go.AM Go.Proofs

def bestF (j : Job) : Nat → Int
  | 0 => -1
  | t + 1 => if 0 ≤ shadeM j t ∧ (bestF j t < 0 ∨ shadeM j t < bestF j t) then shadeM j t else bestF j t
def refV (j : Job) : V :=
  if ¬ jobE j = 0 then .tup [.int .i64 0, .bool false, .int .i64 (jobE j)]
  else if j.ss.length = 0 then .tup [.int .i64 0, .bool true, .int .i64 0]
  else .tup [.int .i64 (max (bestF j 100) 0), .bool (decide (0 ≤ bestF j 100)), .int .i64 0]
theorem shadeM_in {j : Job} (hj : Right j) (hr : ∀ r ∈ j.rs, rollOk r j.rep = true) (hs : ∀ s ∈ j.ss, stripOk s = true) (t : Int) : Least j (rollsT j t j.rs.length) (2 ^ j.ss.length - 1) (shadeM j t) :=
  shTab_least hj hr hs t j.rs.length (Nat.le_refl _) _ (by have := Nat.two_pow_pos j.ss.length; omega)

set_option maxRecDepth 20000 in
set_option maxHeartbeats 8000000 in
theorem c45 (j : Job) : (orcω E X0).call 45 [encJob j] = some (refV j) := by
  refine call_of rfl fn45 rfl ?_
  have k1 := c51 j
  unfold refV
  by_cases a2 : jobE j = 0
  rotate_left
  · have q2 : (jobE j != 0) = true := by simpa using a2
    rw [if_pos a2]
    generalize jobE j = e at *
    unfold encJob at *
    simp (maxSteps := 1000000) (implicitDefEqProofs := false) only [Try.ntmps45, Try.results45, efc45, fc45, k1, q2, ss, sd, evOp, evPlain, evVal, evMem, St.get, sliceOf, arrayOf, fieldsOf, normOf, norm, look, evVar, evFieldAddr, nameOf, St.alloc, St.drop, killOb, part, splice, depth, resultsV, ↓reduceIte, Nat.reduceBEq, Nat.reduceAdd, Nat.reduceSub, Nat.reduceMul, Nat.reduceEqDiff, Nat.reduceLeDiff, Nat.reduceLT, effOf, effMem, effVar, effLit, effMake, effApp, lend, evLit, evNil, freeze, evField, evIndexT, orNil, evSlice, placeOf, evMap, mapOf, keyOk, evFrame, closed, fixed, sameEs, wit, Option.isSome_some, St.with, wantedD, Array.size, te, einl, inls, efr]
  rw [if_neg (fun h => h a2)]
  obtain ⟨hj, hjo⟩ := jobE_zero a2
  have hjo := jobOk_iff.1 hjo
  rw [a2] at k1
  by_cases a3 : j.ss.length = 0
  · rw [if_pos a3]
    have q3 : ((j.ss.length : Int) == 0) = true := by simp [a3]
    unfold encJob at *
    simp (maxSteps := 1000000) (implicitDefEqProofs := false) only [Try.ntmps45, Try.results45, efc45, fc45, k1, q3, bne_self_eq_false, List.length_map, ss, sd, evOp, evPlain, evVal, evMem, St.get, sliceOf, arrayOf, fieldsOf, normOf, norm, look, evVar, evFieldAddr, nameOf, St.alloc, St.drop, killOb, part, splice, depth, resultsV, ↓reduceIte, Nat.reduceBEq, Nat.reduceAdd, Nat.reduceSub, Nat.reduceMul, Nat.reduceEqDiff, Nat.reduceLeDiff, Nat.reduceLT, effOf, effMem, effVar, effLit, effMake, effApp, lend, evLit, evNil, freeze, evField, evIndexT, orNil, evSlice, placeOf, evMap, mapOf, keyOk, evFrame, closed, fixed, sameEs, wit, Option.isSome_some, St.with, wantedD, Array.size, te, einl, inls, efr]
  rw [if_neg a3]
  have q3 : ((j.ss.length : Int) == 0) = false := by simp; exact fun h => a3 (by rw [h]; rfl)
  have k2 := fun t => c94 j t hj hjo.2.2 hjo.2.1
  have hst : ∀ t : Nat, bestF j (t + 1) = if 0 ≤ shadeM j t ∧ (bestF j t < 0 ∨ shadeM j t < bestF j t) then shadeM j t else bestF j t := fun _ => rfl
  have hb0 : bestF j 0 = -1 := rfl
  generalize bestF j = B at *
  generalize shadeM j = M at *
  unfold encJob at *
  simp (maxSteps := 1000000) (implicitDefEqProofs := false) only [Try.ntmps45, Try.results45, efc45, fc45, k1, q3, bne_self_eq_false, List.length_map, ss, sd, evOp, evPlain, evVal, evMem, St.get, sliceOf, arrayOf, fieldsOf, normOf, norm, look, evVar, evFieldAddr, nameOf, St.alloc, St.drop, killOb, part, splice, depth, resultsV, ↓reduceIte, Nat.reduceBEq, Nat.reduceAdd, Nat.reduceSub, Nat.reduceMul, Nat.reduceEqDiff, Nat.reduceLeDiff, Nat.reduceLT, effOf, effMem, effVar, effLit, effMake, effApp, lend, evLit, evNil, freeze, evField, evIndexT, orNil, evSlice, placeOf, evMap, mapOf, keyOk, evFrame, closed, fixed, sameEs, wit, Option.isSome_some, St.with, wantedD, Array.size, te, einl, inls, efr]
  generalize hr : loopAt _ _ _ _ _ _ = r; revert r
  refine loop_nat 100 (fun t _ => [(6, .int .i64 (B t)), (7, .int .i64 (t : Nat))]) (fun _ _ => []) (fun _ (_ : Unit) => True) () (by omega) (by simp (maxSteps := 1000000) (implicitDefEqProofs := false) only [hb0, Int.natCast_zero, ss, sd, evOp, evPlain, evVal, evMem, St.get, sliceOf, arrayOf, fieldsOf, normOf, norm, look, evVar, evFieldAddr, nameOf, St.alloc, St.drop, killOb, part, splice, depth, resultsV, ↓reduceIte, Nat.reduceBEq, Nat.reduceAdd, Nat.reduceSub, Nat.reduceMul, Nat.reduceEqDiff, Nat.reduceLeDiff, Nat.reduceLT, effOf, effMem, effVar, effLit, effMake, effApp, lend, evLit, evNil, freeze, evField, evIndexT, orNil, evSlice, placeOf, evMap, mapOf, keyOk, evFrame, closed, fixed, sameEs, wit, Option.isSome_some, St.with, wantedD, Array.size, te, einl, inls, efr]) trivial (fun _ _ => ?_) (fun t _ _ a1 a2 a3 => ?_)
  · have n1 : ¬ ((100 : Nat) : Int) ≤ 99 := by decide
    simp (maxSteps := 1000000) (implicitDefEqProofs := false) only [n1, Try.ntmps45, Try.results45, efc45, fc45, ss, sd, evOp, evPlain, evVal, evMem, St.get, sliceOf, arrayOf, fieldsOf, normOf, norm, look, evVar, evFieldAddr, nameOf, St.alloc, St.drop, killOb, part, splice, depth, resultsV, ↓reduceIte, Nat.reduceBEq, Nat.reduceAdd, Nat.reduceSub, Nat.reduceMul, Nat.reduceEqDiff, Nat.reduceLeDiff, Nat.reduceLT, effOf, effMem, effVar, effLit, effMake, effApp, lend, evLit, evNil, freeze, evField, evIndexT, orNil, evSlice, placeOf, evMap, mapOf, keyOk, evFrame, closed, fixed, sameEs, wit, Option.isSome_some, St.with, wantedD, Array.size, te, einl, inls, efr]
  · have n1 : (t : Int) ≤ 99 := by omega
    have k3 := k2 t
    have hst := hst t
    generalize M t = m at *
    by_cases c1 : 0 ≤ m
    · by_cases c2 : B t < 0
      · rw [if_pos ⟨c1, .inl c2⟩] at hst
        simp (maxSteps := 1000000) (implicitDefEqProofs := false) only [n1, a3, k3, c1, c2, hst, ss, sd, evOp, evPlain, evVal, evMem, St.get, sliceOf, arrayOf, fieldsOf, normOf, norm, look, evVar, evFieldAddr, nameOf, St.alloc, St.drop, killOb, part, splice, depth, resultsV, ↓reduceIte, Nat.reduceBEq, Nat.reduceAdd, Nat.reduceSub, Nat.reduceMul, Nat.reduceEqDiff, Nat.reduceLeDiff, Nat.reduceLT, effOf, effMem, effVar, effLit, effMake, effApp, lend, evLit, evNil, freeze, evField, evIndexT, orNil, evSlice, placeOf, evMap, mapOf, keyOk, evFrame, closed, fixed, sameEs, wit, Option.isSome_some, St.with, wantedD, Array.size, te, einl, inls, efr]
        (first | exact ⟨(), trivial⟩ | refine ⟨(), ?_, trivial⟩ | skip)
      · by_cases c3 : m < B t
        · rw [if_pos ⟨c1, .inr c3⟩] at hst
          simp (maxSteps := 1000000) (implicitDefEqProofs := false) only [n1, a3, k3, c1, c2, c3, hst, ss, sd, evOp, evPlain, evVal, evMem, St.get, sliceOf, arrayOf, fieldsOf, normOf, norm, look, evVar, evFieldAddr, nameOf, St.alloc, St.drop, killOb, part, splice, depth, resultsV, ↓reduceIte, Nat.reduceBEq, Nat.reduceAdd, Nat.reduceSub, Nat.reduceMul, Nat.reduceEqDiff, Nat.reduceLeDiff, Nat.reduceLT, effOf, effMem, effVar, effLit, effMake, effApp, lend, evLit, evNil, freeze, evField, evIndexT, orNil, evSlice, placeOf, evMap, mapOf, keyOk, evFrame, closed, fixed, sameEs, wit, Option.isSome_some, St.with, wantedD, Array.size, te, einl, inls, efr]
          (first | exact ⟨(), trivial⟩ | refine ⟨(), ?_, trivial⟩ | skip)
        · rw [if_neg (fun h => h.2.elim c2 c3)] at hst
          simp (maxSteps := 1000000) (implicitDefEqProofs := false) only [n1, a3, k3, c1, c2, c3, hst, ss, sd, evOp, evPlain, evVal, evMem, St.get, sliceOf, arrayOf, fieldsOf, normOf, norm, look, evVar, evFieldAddr, nameOf, St.alloc, St.drop, killOb, part, splice, depth, resultsV, ↓reduceIte, Nat.reduceBEq, Nat.reduceAdd, Nat.reduceSub, Nat.reduceMul, Nat.reduceEqDiff, Nat.reduceLeDiff, Nat.reduceLT, effOf, effMem, effVar, effLit, effMake, effApp, lend, evLit, evNil, freeze, evField, evIndexT, orNil, evSlice, placeOf, evMap, mapOf, keyOk, evFrame, closed, fixed, sameEs, wit, Option.isSome_some, St.with, wantedD, Array.size, te, einl, inls, efr]
          (first | exact ⟨(), trivial⟩ | refine ⟨(), ?_, trivial⟩ | skip)
    · rw [if_neg (fun h => c1 h.1)] at hst
      simp (maxSteps := 1000000) (implicitDefEqProofs := false) only [n1, a3, k3, c1, hst, ss, sd, evOp, evPlain, evVal, evMem, St.get, sliceOf, arrayOf, fieldsOf, normOf, norm, look, evVar, evFieldAddr, nameOf, St.alloc, St.drop, killOb, part, splice, depth, resultsV, ↓reduceIte, Nat.reduceBEq, Nat.reduceAdd, Nat.reduceSub, Nat.reduceMul, Nat.reduceEqDiff, Nat.reduceLeDiff, Nat.reduceLT, effOf, effMem, effVar, effLit, effMake, effApp, lend, evLit, evNil, freeze, evField, evIndexT, orNil, evSlice, placeOf, evMap, mapOf, keyOk, evFrame, closed, fixed, sameEs, wit, Option.isSome_some, St.with, wantedD, Array.size, te, einl, inls, efr]
      (first | exact ⟨(), trivial⟩ | refine ⟨(), ?_, trivial⟩ | skip)

theorem filter_cut {p : Nat → Bool} {m : Nat} (h : ∀ i, m ≤ i → p i = false) : ∀ N, m ≤ N → (List.range N).filter p = (List.range m).filter p
  | 0, hN => by
    obtain rfl : m = 0 := by omega
    rfl
  | N + 1, hN => by
    by_cases e : m = N + 1
    · rw [e]
    · rw [List.range_succ, List.filter_append, filter_cut h N (by omega)]
      simp [h N (by omega)]
theorem bit_out {s m : Nat} (hs : s < 2 ^ m) {i : Nat} (hi : m ≤ i) : bitP s i = false := by
  cases hb : bitP s i with
  | false => rfl
  | true =>
    have h1 := bit_le hb
    have h2 := Nat.pow_le_pow_right (n := 2) (by omega) hi
    omega
theorem mem_eq {n s : Nat} (h5 : n ≤ 5) (hs : s < 2 ^ n) : mem s = (List.range n).filter (bitP s) := filter_cut (fun _ hi => bit_out hs hi) 5 h5
theorem mem_sub {j : Job} (h5 : j.rs.length ≤ 5) {s : Nat} (hs : s < 2 ^ j.rs.length) {t : Int} (h : ∀ k ∈ mem s, (rollAt j k).sh = t) : (mem s).Sublist (rollsT j t j.rs.length) := by
  have e : (rollsT j t j.rs.length).filter (bitP s) = mem s := by
    rw [mem_eq h5 hs] at *
    unfold rollsT
    rw [List.filter_filter]
    apply List.filter_congr
    intro k hk
    cases hb : bitP s k with
    | false => rfl
    | true =>
      have := h k (List.mem_filter.2 ⟨hk, hb⟩)
      simp [this]
  rw [← e]
  exact List.filter_sublist
theorem sub_filter : ∀ {S L : List Nat}, S.Sublist L → L.Nodup → L.filter (fun k => decide (k ∈ S)) = S
  | _, _, .slnil, _ => rfl
  | S, _, .cons a (l₂ := L) h, hnd => by
    have hnd := List.nodup_cons.1 hnd
    have : ¬ a ∈ S := fun q => hnd.1 (h.subset q)
    rw [List.filter_cons, if_neg (by simpa using this)]
    exact sub_filter h hnd.2
  | _, _, .cons_cons a (l₁ := S) (l₂ := L) h, hnd => by
    have hnd := List.nodup_cons.1 hnd
    rw [List.filter_cons, if_pos (by simp)]
    congr 1
    rw [← sub_filter h hnd.2]
    apply List.filter_congr
    intro k hk
    rw [sub_filter h hnd.2]
    have : ¬ k = a := fun e => hnd.1 (e ▸ hk)
    simp [this]
theorem mem_of {n : Nat} (h5 : n ≤ 5) {S : List Nat} (h : S.Sublist (List.range n)) : ∃ s, s < 2 ^ n ∧ mem s = S := by
  have hlt : ∀ k ∈ S, k < n := fun k hk => List.mem_range.1 (h.subset hk)
  have hb : ∀ i, i < 6 → bitP (setOf fun k => decide (k ∈ S)) i = decide (i ∈ S) := fun i hi => setOf_bit _ hi
  have h1 : setOf (fun k => decide (k ∈ S)) < 2 ^ n := low_set (setOf_lt _) (by omega) fun i hi hbi => by
    rw [hb i hi] at hbi
    exact hlt i (of_decide_eq_true hbi)
  refine ⟨_, h1, ?_⟩
  rw [mem_eq h5 h1]
  have : (List.range n).filter (bitP (setOf fun k => decide (k ∈ S))) = (List.range n).filter fun k => decide (k ∈ S) := List.filter_congr fun k hk => hb k (by have := List.mem_range.1 hk; omega)
  rw [this]
  exact sub_filter h List.nodup_range
theorem best_facts (j : Job) : ∀ t : Nat, (0 ≤ bestF j t → ∃ u : Nat, u < t ∧ shadeM j u = bestF j t) ∧ ∀ u : Nat, u < t → 0 ≤ shadeM j u → 0 ≤ bestF j t ∧ bestF j t ≤ shadeM j u
  | 0 => ⟨fun h => absurd h (show ¬ (0 : Int) ≤ -1 by decide), fun u h => by omega⟩
  | t + 1 => by
    obtain ⟨h1, h2⟩ := best_facts j t
    unfold bestF
    split
    · rename_i h
      refine ⟨fun _ => ⟨t, by omega, rfl⟩, fun u hu h0 => ?_⟩
      by_cases e : u = t
      · subst e; omega
      · have := h2 u (by omega) h0
        omega
    · rename_i h
      refine ⟨fun h0 => ?_, fun u hu h0 => ?_⟩
      · obtain ⟨u, hu, e⟩ := h1 h0
        exact ⟨u, by omega, e⟩
      · by_cases e : u = t
        · subst e
          by_cases q : bestF j u < 0
          · exact absurd ⟨h0, .inl q⟩ h
          · by_cases q2 : shadeM j u < bestF j u
            · exact absurd ⟨h0, .inr q2⟩ h
            · omega
        · exact h2 u (by omega) h0
/-- What both sides say of the fewest rolls. -/
theorem few_ref {j : Job} (hje : jobE j = 0) : (∃ l n, fewM j = some (l, n) ∧ refV j = .tup [.int .i64 (n : Nat), .bool true, .int .i64 0]) ∨ (fewM j = none ∧ refV j = .tup [.int .i64 0, .bool false, .int .i64 0]) := by
  obtain ⟨hj, hjo⟩ := jobE_zero hje
  have hjo := jobOk_iff.1 hjo
  have h6 := hj.nss
  have h5 := hj.nrs
  have h64 : 2 ^ j.ss.length ≤ 64 := Nat.pow_le_pow_right (n := 2) (by omega) h6
  unfold refV
  rw [if_neg (fun q => q hje)]
  by_cases h0 : j.ss.length = 0
  · rw [if_pos h0]
    have hd : ¬ tryS j 0 0 = none := by
      have hm : mem 0 = [] := by decide
      unfold tryS memL
      rw [hm, h0]
      simp [oneS, divM]
    obtain ⟨l, c, hf, hc⟩ := fewM_le (Nat.zero_le _) (Nat.two_pow_pos _) hd
    obtain rfl : c = 0 := by omega
    exact .inl ⟨l, 0, hf, rfl⟩
  rw [if_neg h0]
  have hfull : 1 ≤ 2 ^ j.ss.length - 1 := by
    have := Nat.pow_le_pow_right (n := 2) (by omega) (show 1 ≤ j.ss.length by omega)
    omega
  obtain ⟨b1, b2⟩ := best_facts j 100
  have hle := shadeM_in hj hjo.2.2 hjo.2.1
  -- any answer of the program bounds the document's
  have back : ∀ l n, fewM j = some (l, n) → 0 ≤ bestF j 100 ∧ bestF j 100 ≤ n := fun l n hf => by
    obtain ⟨hn, s, hs, ht⟩ := fewM_some hf
    have hlt := memL_lt hs
    unfold tryS at ht
    split at ht
    rotate_left
    · cases ht
    rename_i hc
    have hone : ∀ k ∈ mem s, (rollAt j k).sh = shadeAt j ((memL s).getD 0 0) := fun k hk => by
      have h1 := hc.2
      unfold oneS at h1
      rw [Bool.not_eq_true', List.any_eq_false] at h1
      have h2 := h1 (k : Int) (List.mem_map_of_mem hk)
      have h3 : shadeAt j (k : Int) = (rollAt j k).sh := by unfold shadeAt rollAt; rw [Int.toNat_natCast]
      rw [h3, Bool.not_eq_true, bne_eq_false_iff_eq] at h2
      exact h2
    have hdiv : divB j (mem s) (2 ^ j.ss.length - 1) := by unfold divB; rw [ht]; simp
    cases hm : mem s with
    | nil =>
      rw [hm] at hdiv
      have := div_nil.1 hdiv
      omega
    | cons k0 r =>
      have hk0 : k0 ∈ mem s := by rw [hm]; exact List.mem_cons_self
      have e0 : (memL s).getD 0 0 = (k0 : Int) := by unfold memL; rw [hm]; rfl
      have ht0 : shadeAt j (k0 : Int) = (rollAt j k0).sh := by unfold shadeAt rollAt; rw [Int.toNat_natCast]
      rw [e0, ht0] at hone
      have g : j.rs[k0]? = some (rollAt j k0) := by
        unfold rollAt
        rw [List.getD_eq_getElem?_getD, List.getElem?_eq_getElem (hlt k0 hk0)]
        rfl
      have hro := rollOk_iff.1 (hjo.2.2 _ (List.mem_of_getElem? g))
      obtain ⟨t, htt⟩ : ∃ t : Nat, (rollAt j k0).sh = (t : Int) := ⟨(rollAt j k0).sh.toNat, by omega⟩
      rw [htt] at hone
      have hl := (hle t).least (mem s) (mem_sub h5 hs hone) hdiv
      have := b2 t (by omega) hl.1
      have := hc.1
      omega
  by_cases hb : 0 ≤ bestF j 100
  · obtain ⟨u, hu, e⟩ := b1 hb
    obtain ⟨S, s1, s2, s3⟩ := (hle u).some (by omega)
    have hsub : S.Sublist (List.range j.rs.length) := s1.trans List.filter_sublist
    obtain ⟨s, hs, hms⟩ := mem_of h5 hsub
    have hcl : S.length ≤ j.rs.length := by have := hsub.length_le; rw [List.length_range] at this; exact this
    have htry : ¬ tryS j S.length s = none := by
      unfold tryS
      rw [if_pos ⟨by rw [hms], one_shade (t := u) fun x hx => by
        unfold memL at hx
        obtain ⟨k, hk, rfl⟩ := List.mem_map.1 hx
        rw [hms] at hk
        have := (List.mem_filter.1 (s1.subset hk)).2
        have h3 : shadeAt j (k : Int) = (rollAt j k).sh := by unfold shadeAt rollAt; rw [Int.toNat_natCast]
        rw [h3]
        exact of_decide_eq_true this⟩, hms]
      exact s3
    obtain ⟨l, n, hf, hn⟩ := fewM_le hcl hs htry
    have hbk := back l n hf
    refine .inl ⟨l, n, hf, ?_⟩
    rw [decide_eq_true hb, show max (bestF j 100) 0 = (n : Int) by omega]
  · right
    have hnone : fewM j = none := by
      cases hf : fewM j with
      | none => rfl
      | some p => exact absurd (back p.1 p.2 hf).1 hb
    refine ⟨hnone, ?_⟩
    rw [decide_eq_false hb, show max (bestF j 100) 0 = 0 by omega]
end Go.AM.D
