/-
Heats: the search with a memory is the search without one.
-/
import Derived.Test.YtbfgifolmpmagaaBLoft
import Derived.Test.YtbfgifolmpmagaaBWarm
set_option linter.unusedVariables false
set_option linter.unusedSimpArgs false

namespace Go.AM.B
open Go Go.AM Go.Proofs

def upTo : Int → Nat → List Int
  | _, 0 => []
  | h, n + 1 => h :: upTo (h + 1) n
def lowH (heat : Int) : Int := max 0 (heat - 1)
def nextH (heat : Int) : List Int := upTo (lowH heat) (min 4 (heat + 1) + 1 - lowH heat).toNat

def tryM (f : Int → List Key → Option (List Int) × List Key) (k : Key) : List Int → List Key → Option (List Int) × List Key
  | [], D => (none, D ++ [k])
  | h :: hs, D => match f h D with
    | (some l, D') => (some (h :: l), D')
    | (none, D') => tryM f k hs D'

def finM (f : Loft) (need most : Int) : Nat → Int → Int → List Key → Option (List Int) × List Key
  | 0, heat, sum, D => if most < sum ∨ (((0 : Nat) : Int), heat, sum) ∈ D then (none, D) else (if need ≤ sum then some [] else none, D)
  | m + 1, heat, sum, D => if most < sum ∨ (((m + 1 : Nat) : Int), heat, sum) ∈ D then (none, D) else
      tryM (fun h => finM f need most m h (sum + rateAt f h)) (((m + 1 : Nat) : Int), heat, sum) (nextH heat) D

def tryS (g : Int → Option (List Int)) : List Int → Option (List Int)
  | [] => none
  | h :: hs => match g h with
    | some l => some (h :: l)
    | none => tryS g hs
def finS (f : Loft) (need most : Int) : Nat → Int → Int → Option (List Int)
  | 0, _, sum => if most < sum then none else if need ≤ sum then some [] else none
  | m + 1, heat, sum => if most < sum then none else tryS (fun h => finS f need most m h (sum + rateAt f h)) (nextH heat)

def Dead (f : Loft) (need most : Int) (D : List Key) : Prop := ∀ d h s, (d, h, s) ∈ D → ∃ m : Nat, d = m ∧ finS f need most m h s = none

section
variable {f : Loft} {need most : Int}

theorem tryM_spec {m : Nat} {k : Key} {g : Int → List Key → Option (List Int) × List Key} {gs : Int → Option (List Int)} (hg : ∀ h D, Dead f need most D → (g h D).1 = gs h ∧ Dead f need most (g h D).2 ∧ (∀ x ∈ (g h D).2, x ∈ D ∨ x.1 ≤ m)) :
    ∀ (hs : List Int) (D : List Key), Dead f need most D → (tryM g k hs D).1 = tryS gs hs ∧ (tryS gs hs = none → ∃ D', (tryM g k hs D).2 = D' ++ [k] ∧ Dead f need most D' ∧ (∀ x ∈ D', x ∈ D ∨ x.1 ≤ m)) ∧
      (tryS gs hs ≠ none → Dead f need most (tryM g k hs D).2 ∧ (∀ x ∈ (tryM g k hs D).2, x ∈ D ∨ x.1 ≤ m))
  | [], D, hD => ⟨rfl, fun _ => ⟨D, rfl, hD, fun x hx => .inl hx⟩, fun h => absurd rfl h⟩
  | h :: hs, D, hD => by
    obtain ⟨h1, h2, h3⟩ := hg h D hD
    unfold tryM tryS
    cases hr : g h D with
    | mk a D' =>
      rw [hr] at h1 h2 h3
      dsimp only at h1 h2 h3
      cases a with
      | some l => rw [← h1]; exact ⟨rfl, fun e => by simp at e, fun _ => ⟨h2, h3⟩⟩
      | none =>
        rw [← h1]
        obtain ⟨i1, i2, i3⟩ := tryM_spec hg hs D' h2
        refine ⟨i1, fun e => ?_, fun e => ?_⟩
        · obtain ⟨D'', j1, j2, j3⟩ := i2 e
          exact ⟨D'', j1, j2, fun x hx => (j3 x hx).elim (fun q => h3 x q) .inr⟩
        · obtain ⟨j1, j2⟩ := i3 e
          exact ⟨j1, fun x hx => (j2 x hx).elim (fun q => h3 x q) .inr⟩

theorem fin_spec : ∀ (m : Nat) (heat sum : Int) (D : List Key), Dead f need most D → (finM f need most m heat sum D).1 = finS f need most m heat sum ∧ Dead f need most (finM f need most m heat sum D).2 ∧ (∀ x ∈ (finM f need most m heat sum D).2, x ∈ D ∨ x.1 ≤ m)
  | 0, heat, sum, D, hD => by
    unfold finM finS
    split
    · rename_i h
      refine ⟨?_, hD, fun x hx => .inl hx⟩
      rcases h with h | h
      · rw [if_pos h]
      · obtain ⟨m, h1, h2⟩ := hD _ _ _ h
        obtain rfl : m = 0 := by omega
        unfold finS at h2
        rw [h2]
    · rename_i h
      rw [if_neg fun q => h (.inl q)]
      exact ⟨rfl, hD, fun x hx => .inl hx⟩
  | m + 1, heat, sum, D, hD => by
    unfold finM
    split
    · rename_i h
      refine ⟨?_, hD, fun x hx => .inl hx⟩
      rcases h with h | h
      · unfold finS; rw [if_pos h]
      · obtain ⟨m', h1, h2⟩ := hD _ _ _ h
        obtain rfl : m' = m + 1 := by omega
        rw [h2]
    · rename_i h
      have hm : ¬ most < sum := fun q => h (.inl q)
      obtain ⟨i1, i2, i3⟩ := tryM_spec (f := f) (need := need) (most := most) (m := m) (k := (((m + 1 : Nat) : Int), heat, sum)) (g := fun h => finM f need most m h (sum + rateAt f h)) (gs := fun h => finS f need most m h (sum + rateAt f h))
        (fun h D hD => fin_spec m h (sum + rateAt f h) D hD) (nextH heat) D hD
      have e : finS f need most (m + 1) heat sum = tryS (fun h => finS f need most m h (sum + rateAt f h)) (nextH heat) := by
        conv => lhs; unfold finS
        rw [if_neg hm]
      refine ⟨by rw [i1, e], ?_⟩
      cases hr : tryS (fun h => finS f need most m h (sum + rateAt f h)) (nextH heat) with
      | none =>
        obtain ⟨D', j1, j2, j3⟩ := i2 hr
        rw [j1]
        refine ⟨fun d h s hx => ?_, fun x hx => ?_⟩
        · rcases List.mem_append.1 hx with hx | hx
          · exact j2 d h s hx
          · simp only [List.mem_singleton, Prod.mk.injEq] at hx
            obtain ⟨rfl, rfl, rfl⟩ := hx
            exact ⟨m + 1, rfl, by rw [e, hr]⟩
        · rcases List.mem_append.1 hx with hx | hx
          · rcases j3 x hx with q | q
            · exact .inl q
            · right; omega
          · simp only [List.mem_singleton] at hx
            subst hx
            exact .inr (Int.le_refl _)
      | some l =>
        obtain ⟨j1, j2⟩ := i3 (by rw [hr]; simp)
        exact ⟨j1, fun x hx => (j2 x hx).elim .inl fun q => .inr (by omega)⟩
end

theorem tryM_new {m : Nat} {k : Key} {g : Int → List Key → Option (List Int) × List Key} (hg : ∀ h D, ∀ x ∈ (g h D).2, x ∈ D ∨ x.1 ≤ m) :
    ∀ (hs : List Int) (D : List Key), ∀ x ∈ (tryM g k hs D).2, x ∈ D ∨ x = k ∨ x.1 ≤ m
  | [], D, x, hx => by
    rcases List.mem_append.1 hx with hx | hx
    · exact .inl hx
    · exact .inr (.inl (by simpa using hx))
  | h :: hs, D, x, hx => by
    have h1 := hg h D
    unfold tryM at hx
    cases hr : g h D with
    | mk a D' =>
      rw [hr] at h1 hx
      dsimp only at h1 hx
      cases a with
      | some l => exact (h1 x hx).elim .inl fun q => .inr (.inr q)
      | none =>
        rcases tryM_new hg hs D' x hx with q | q
        · exact (h1 x q).elim .inl fun q => .inr (.inr q)
        · exact .inr q
theorem finM_new {f : Loft} {need most : Int} : ∀ (m : Nat) (heat sum : Int) (D : List Key), ∀ x ∈ (finM f need most m heat sum D).2, x ∈ D ∨ x.1 ≤ m
  | 0, heat, sum, D, x, hx => by
    unfold finM at hx
    split at hx <;> exact .inl hx
  | m + 1, heat, sum, D, x, hx => by
    unfold finM at hx
    split at hx
    · exact .inl hx
    · rcases tryM_new (m := m) (fun h D => finM_new m h (sum + rateAt f h) D) _ _ x hx with q | q | q
      · exact .inl q
      · subst q; exact .inr (Int.le_refl _)
      · exact .inr (by omega)
theorem tryM_len {m : Nat} {k : Key} {g : Int → List Key → Option (List Int) × List Key} (hg : ∀ h D l, (g h D).1 = some l → l.length = m) :
    ∀ (hs : List Int) (D : List Key) (l : List Int), (tryM g k hs D).1 = some l → l.length = m + 1
  | [], D, l, h => by cases h
  | h :: hs, D, l, hl => by
    have h1 := hg h D
    unfold tryM at hl
    cases hr : g h D with
    | mk a D' =>
      rw [hr] at h1 hl
      dsimp only at h1 hl
      cases a with
      | some l' => cases hl; rw [List.length_cons, h1 l' rfl]
      | none => exact tryM_len hg hs D' l hl
theorem finM_len {f : Loft} {need most : Int} : ∀ (m : Nat) (heat sum : Int) (D : List Key) (l : List Int), (finM f need most m heat sum D).1 = some l → l.length = m
  | 0, heat, sum, D, l, h => by
    unfold finM at h
    split at h
    · cases h
    · dsimp only at h
      split at h
      · cases h; rfl
      · cases h
  | m + 1, heat, sum, D, l, h => by
    unfold finM at h
    split at h
    · cases h
    · exact tryM_len (fun h D => finM_len m h (sum + rateAt f h) D) _ _ l h

theorem upTo_get : ∀ (n : Nat) (h : Int), ∀ x ∈ upTo h n, h ≤ x ∧ x < h + n
  | 0, h, x, hx => by cases hx
  | n + 1, h, x, hx => by
    rcases List.mem_cons.1 hx with rfl | hx
    · omega
    · have := upTo_get n (h + 1) x hx; omega

def finV : Option (List Int) → V
  | none => .tup [.emp, .bool false]
  | some [] => .tup [.emp, .bool true]
  | some (_ :: l) => .tup [.own 1004 0 (l.length + 1), .bool true]
def finObs (poles : Int) (rates : List Int) (need most : Int) (k : Key) (r : Option (List Int)) (D : List Key) : List (Nat × Ob) := match r with
  | some (h :: l) => [(15, deadOb D), (17, searchOb poles rates need most), (1003, boxOb k), (1004, heatsOb (h :: l))]
  | _ => [(15, deadOb D), (17, searchOb poles rates need most), (1003, boxOb k)]

theorem finIs_of {poles : Int} {rates : List Int} {need most : Int} {k : Key} {D D' : List Key} {r : Option (List Int)}
    (h : ∃ sl, (orcω E X0).inl 1000 105 [.ptr 17 0 0, keyV k] (finSt poles rates need most D) = some (finV r, { slots := sl, outer := [[.ptr 17 0 0, .mapr 15]], objs := finObs poles rates need most k r D' })) : FinIs poles rates need most k D r D' := by
  obtain ⟨sl, h⟩ := h
  refine ⟨sl, ?_⟩
  rw [h]
  match r with
  | none => rfl
  | some [] => rfl
  | some (_ :: _) => rfl
theorem finIs_to {poles : Int} {rates : List Int} {need most : Int} {k : Key} {D D' : List Key} {r : Option (List Int)} (h : FinIs poles rates need most k D r D') :
    ∃ sl, (orcω E X0).inl 1000 105 [.ptr 17 0 0, keyV k] (finSt poles rates need most D) = some (finV r, { slots := sl, outer := [[.ptr 17 0 0, .mapr 15]], objs := finObs poles rates need most k r D' }) := by
  obtain ⟨sl, h⟩ := h
  refine ⟨sl, ?_⟩
  rw [h]
  match r with
  | none => rfl
  | some [] => rfl
  | some (_ :: _) => rfl

section
variable {f : Loft} {need most : Int}

set_option maxHeartbeats 8000000 in
theorem fin_is (hf : loftOk f = true) : ∀ (m : Nat) (heat sum : Int) (D : List Key), m ≤ 100 → 0 ≤ heat ∧ heat ≤ 4 → 0 ≤ sum ∧ sum ≤ 1000000 - 9 * m →
    FinIs f.poles f.rates need most (m, heat, sum) D (finM f need most m heat sum D).1 (finM f need most m heat sum D).2 := by
  intro m
  induction m with
  | zero =>
    intro heat sum D _ _ _
    unfold finM
    by_cases h1 : most < sum
    · rw [if_pos (.inl h1)]; exact fin_big h1
    by_cases h2 : (((0 : Nat) : Int), heat, sum) ∈ D
    · rw [if_pos (.inr h2)]; exact fin_dead h1 h2
    rw [if_neg (by rintro (q | q); exact h1 q; exact h2 q)]
    exact fin_zero h1 h2
  | succ m ih =>
    intro heat sum D hm hh hs
    unfold finM
    by_cases h1 : most < sum
    · rw [if_pos (.inl h1)]; exact fin_big h1
    by_cases h2 : (((m + 1 : Nat) : Int), heat, sum) ∈ D
    · rw [if_pos (.inr h2)]; exact fin_dead h1 h2
    rw [if_neg (by rintro (q | q); exact h1 q; exact h2 q)]
    obtain ⟨_, f5, _⟩ := loftOk_iff.1 hf
    have hfind : xY E 162 (.agg [.int .i64 ((m + 1 : Nat) : Int), .int .i64 heat, .int .i64 sum]) (deadV D) = some none := by
      have := find_dead (((m + 1 : Nat) : Int), heat, sum) D
      rw [if_neg h2] at this
      exact this
    have d0 : (((m + 1 : Nat) : Int) == 0) = false := by simp; omega
    have w1 : IntKind.i64.wrap (heat - 1) = heat - 1 := wrap_in (by omega)
    have w2 : IntKind.i64.wrap (heat + 1) = heat + 1 := wrap_in (by omega)
    have w3 : IntKind.i64.wrap (((m + 1 : Nat) : Int) - 1) = (m : Int) := by rw [wrap_in (by omega)]; omega
    apply finIs_of
    refine (fun h : ∃ sl : List V, _ = some (finV (tryM (fun h => finM f need most m h (sum + rateAt f h)) (((m + 1 : Nat) : Int), heat, sum) (nextH heat) D).1, ({ slots := sl, outer := [[.ptr 17 0 0, .mapr 15]], objs := finObs f.poles f.rates need most (((m + 1 : Nat) : Int), heat, sum) (tryM (fun h => finM f need most m h (sum + rateAt f h)) (((m + 1 : Nat) : Int), heat, sum) (nextH heat) D).1 (tryM (fun h => finM f need most m h (sum + rateAt f h)) (((m + 1 : Nat) : Int), heat, sum) (nextH heat) D).2 } : St)) => h.elim fun sl h => ⟨sl, inl_of rfl fn105 rfl h⟩) ?_
    generalize hR : tryM (fun h => finM f need most m h (sum + rateAt f h)) (((m + 1 : Nat) : Int), heat, sum) (nextH heat) D = R
    have hok := okB105
    simp only [Try.f105, Option.getD_some, okCodeB, Bool.and_eq_true, Bool.and_true, Bool.true_and] at hok
    obtain ⟨hk1, hk2, hk3, hk4⟩ := hok
    simp (maxSteps := 1000000) (implicitDefEqProofs := false) only [Try.ntmps105, Try.results105, efc105, fc105, keyV, deadOb, searchOb, boxOb, finSt, regB hk1, evBD_nil, evBD_cons, effB_true, effB_false, effB2_some, effB2_none, isBar, h1, hfind, d0, w1, w2, ss, List.replicate, zH, qG, zF, zG, St.eval, St.put, St.get, constV, List.set, lenV, qE, qF, qB, zC, norm, xQ, look, xP, xX, zO, zM, zE, zN, qA, qI, St.alloc, St.drop, killL, kill, xU, xV, zA, upd, cells?, part, retag, xT, putIn, refFree, xR, isNew, xS, Ty.isAgg, zB, idsL, ids, idsLL, reach, depth, St.dropL, qD, resultV, ↓reduceIte, Nat.reduceBEq, Nat.reduceAdd, Nat.reduceSub, Nat.reduceMul, Nat.reduceEqDiff, Nat.reduceLeDiff, Nat.reduceLT, qJ, qK, zV, zW, qL, qM, qN, qO, Eff.ap, qP, qQ, xW, qR, zI, onto, dropO, xA, sized, zP, eqT, eqG, minV, evUn, qS, zQ, zR, zS, qC, qT, upO, evSlice0, optInt, xC, qV, xD, del, xB, plain, plainL, zY, zZ, zT, qW, zU, zX, xY, qX, qY, qZ, xE, zJ, zK, zL, xF, xG, wit, xH, Option.isSome_some, xI, qH, xJ, evPre, St.with, xK, xL, zD, xM, xN, xO, Array.size, te, einl, inls, efr]
    generalize hr : loopAt _ _ _ _ _ _ = r; revert r
    refine loop_inv (ι := { i : Int × Nat × List Key // 0 ≤ i.1 ∧ i.1 + i.2.1 = min 4 (heat + 1) + 1 ∧ tryM (fun h => finM f need most m h (sum + rateAt f h)) (((m + 1 : Nat) : Int), heat, sum) (upTo i.1 i.2.1) i.2.2 = R ∧ (((m + 1 : Nat) : Int), heat, sum) ∉ i.2.2 })
      (fun i => [(6, .int .i64 i.1.1)]) (fun i => [(15, deadOb i.1.2.2)]) (fun i => i.1.2.1) ⟨(lowH heat, (min 4 (heat + 1) + 1 - lowH heat).toNat, D), by unfold lowH; dsimp only; omega, by unfold lowH; dsimp only; omega, hR, h2⟩ (by simp (maxSteps := 1000000) (implicitDefEqProofs := false) only [deadOb, lowH, ss, List.replicate, zH, qG, zF, zG, St.eval, St.put, St.get, constV, List.set, lenV, qE, qF, qB, zC, norm, xQ, look, xP, xX, zO, zM, zE, zN, qA, qI, St.alloc, St.drop, killL, kill, xU, xV, zA, upd, cells?, part, retag, xT, putIn, refFree, xR, isNew, xS, Ty.isAgg, zB, idsL, ids, idsLL, reach, depth, St.dropL, qD, resultV, ↓reduceIte, Nat.reduceBEq, Nat.reduceAdd, Nat.reduceSub, Nat.reduceMul, Nat.reduceEqDiff, Nat.reduceLeDiff, Nat.reduceLT, qJ, qK, zV, zW, qL, qM, qN, qO, Eff.ap, qP, qQ, xW, qR, zI, onto, dropO, xA, sized, zP, eqT, eqG, minV, evUn, qS, zQ, zR, zS, qC, qT, upO, evSlice0, optInt, xC, qV, xD, del, xB, plain, plainL, zY, zZ, zT, qW, zU, zX, xY, qX, qY, qZ, xE, zJ, zK, zL, xF, xG, wit, xH, Option.isSome_some, xI, qH, xJ, evPre, St.with, xK, xL, zD, xM, xN, xO, Array.size, te, einl, inls, efr]) ?_
    rintro ⟨⟨h, n, D1⟩, i1, i2, i3, i4⟩
    dsimp only at i1 i2 i3 i4 ⊢
    have hfind1 : xY E 162 (.agg [.int .i64 ((m + 1 : Nat) : Int), .int .i64 heat, .int .i64 sum]) (deadV D1) = some none := by
      have := find_dead (((m + 1 : Nat) : Int), heat, sum) D1
      rw [if_neg i4] at this
      exact this
    cases n with
    | zero =>
      have le : ¬ h ≤ min 4 (heat + 1) := by omega
      have e1 : R = (none, D1 ++ [(((m + 1 : Nat) : Int), heat, sum)]) := i3.symm
      have e2 : deadV (D1 ++ [(((m + 1 : Nat) : Int), heat, sum)]) = deadV D1 ++ [.tup [.agg [.int .i64 ((m + 1 : Nat) : Int), .int .i64 heat, .int .i64 sum], .bool true]] := by simp [deadV, keyV]
      have kok : qY E 162 (.agg [.int .i64 ((m + 1 : Nat) : Int), .int .i64 heat, .int .i64 sum]) = true := keyOk_key (((m + 1 : Nat) : Int), heat, sum)
      rw [e1]
      simp (maxSteps := 1000000) (implicitDefEqProofs := false) only [deadOb, le, w1, w2, hfind1, kok, regB hk4, finV, finObs, searchOb, boxOb, keyV, e2, Try.ntmps105, Try.results105, efc105, fc105, evBD_nil, evBD_cons, effB_true, effB_false, effB2_some, effB2_none, isBar, Bool.true_eq_false, false_and, if_false, ss, List.replicate, zH, qG, zF, zG, St.eval, St.put, St.get, constV, List.set, lenV, qE, qF, qB, zC, norm, xQ, look, xP, xX, zO, zM, zE, zN, qA, qI, St.alloc, St.drop, killL, kill, xU, xV, zA, upd, cells?, part, retag, xT, putIn, refFree, xR, isNew, xS, Ty.isAgg, zB, idsL, ids, idsLL, reach, depth, St.dropL, qD, resultV, ↓reduceIte, Nat.reduceBEq, Nat.reduceAdd, Nat.reduceSub, Nat.reduceMul, Nat.reduceEqDiff, Nat.reduceLeDiff, Nat.reduceLT, qJ, qK, zV, zW, qL, qM, qN, qO, Eff.ap, qP, qQ, xW, qR, zI, onto, dropO, xA, sized, zP, eqT, eqG, minV, evUn, qS, zQ, zR, zS, qC, qT, upO, evSlice0, optInt, xC, qV, xD, del, xB, plain, plainL, zY, zZ, zT, qW, zU, zX, xY, qX, qY, qZ, xE, zJ, zK, zL, xF, xG, wit, xH, Option.isSome_some, xI, qH, xJ, evPre, St.with, xK, xL, zD, xM, xN, xO, Array.size, te, einl, inls, efr]
      exact ⟨_, rfl⟩
    | succ n =>
      have le : h ≤ min 4 (heat + 1) := by omega
      have g1 := rateAt_get f5 i1 (by omega)
      have g2 := rateAt_in hf h
      have w4 : IntKind.i64.wrap (sum + rateAt f h) = sum + rateAt f h := wrap_in (by omega)
      have w5 : IntKind.i64.wrap (h + 1) = h + 1 := wrap_in (by omega)
      obtain ⟨sl1, k1⟩ := finIs_to (ih h (sum + rateAt f h) D1 (by omega) (by omega) (by omega))
      have g3 := finM_new (f := f) (need := need) (most := most) m h (sum + rateAt f h) D1
      have g4 := finM_len (f := f) (need := need) (most := most) m h (sum + rateAt f h) D1
      rw [upTo, tryM] at i3
      cases hr : finM f need most m h (sum + rateAt f h) D1 with
      | mk a D2 =>
      rw [hr] at k1 g3 g4 i3
      dsimp only at k1 g3 g4 i3
      have nk : (((m + 1 : Nat) : Int), heat, sum) ∉ D2 := fun hx => (g3 _ hx).elim i4 fun q => by simp only at q; omega
      match a, k1, g4, i3 with
      | none, k1, g4, i3 =>
        simp only [finSt, keyV, deadOb, searchOb, finV, finObs, boxOb] at k1
        simp (maxSteps := 1000000) (implicitDefEqProofs := false) only [deadOb, le, w1, w2, w3, w4, w5, g1, k1, i1, vI_def, List.isEmpty_cons, Option.isNone_none, searchOb, boxOb, keyV, regB hk3, evBD_nil, evBD_cons, effB_true, effB_false, effB2_some, effB2_none, isBar, Bool.true_eq_false, false_and, if_false, Int.natCast_nonneg, Int.toNat_natCast, List.getElem?_map, List.length_map, ss, List.replicate, zH, qG, zF, zG, St.eval, St.put, St.get, constV, List.set, lenV, qE, qF, qB, zC, norm, xQ, look, xP, xX, zO, zM, zE, zN, qA, qI, St.alloc, St.drop, killL, kill, xU, xV, zA, upd, cells?, part, retag, xT, putIn, refFree, xR, isNew, xS, Ty.isAgg, zB, idsL, ids, idsLL, reach, depth, St.dropL, qD, resultV, ↓reduceIte, Nat.reduceBEq, Nat.reduceAdd, Nat.reduceSub, Nat.reduceMul, Nat.reduceEqDiff, Nat.reduceLeDiff, Nat.reduceLT, qJ, qK, zV, zW, qL, qM, qN, qO, Eff.ap, qP, qQ, xW, qR, zI, onto, dropO, xA, sized, zP, eqT, eqG, minV, evUn, qS, zQ, zR, zS, qC, qT, upO, evSlice0, optInt, xC, qV, xD, del, xB, plain, plainL, zY, zZ, zT, qW, zU, zX, xY, qX, qY, qZ, xE, zJ, zK, zL, xF, xG, wit, xH, Option.isSome_some, xI, qH, xJ, evPre, St.with, xK, xL, zD, xM, xN, xO, Array.size, te, einl, inls, efr]
        refine ⟨⟨(h + 1, n, D2), by dsimp only; omega, by dsimp only; omega, i3, nk⟩, ?_, Nat.lt_succ_self _⟩
        try rfl
      | some [], k1, g4, i3 =>
        have hroom : roomy 1 8 = true := by decide
        replace i3 : (some [h], D2) = R := i3
        rw [← i3]
        simp only [finSt, keyV, deadOb, searchOb, finV, finObs, boxOb] at k1
        simp (maxSteps := 1000000) (implicitDefEqProofs := false) only [deadOb, le, w1, w2, w3, w4, w5, g1, k1, i1, vI_def, List.isEmpty_cons, Option.isNone_none, searchOb, boxOb, keyV, hroom, finV, finObs, heatsOb, List.map_cons, List.map_nil, Try.ntmps105, Try.results105, efc105, fc105, regB hk3, evBD_nil, evBD_cons, effB_true, effB_false, effB2_some, effB2_none, isBar, Bool.true_eq_false, false_and, if_false, Int.natCast_nonneg, Int.toNat_natCast, List.getElem?_map, List.length_map, ss, List.replicate, zH, qG, zF, zG, St.eval, St.put, St.get, constV, List.set, lenV, qE, qF, qB, zC, norm, xQ, look, xP, xX, zO, zM, zE, zN, qA, qI, St.alloc, St.drop, killL, kill, xU, xV, zA, upd, cells?, part, retag, xT, putIn, refFree, xR, isNew, xS, Ty.isAgg, zB, idsL, ids, idsLL, reach, depth, St.dropL, qD, resultV, ↓reduceIte, Nat.reduceBEq, Nat.reduceAdd, Nat.reduceSub, Nat.reduceMul, Nat.reduceEqDiff, Nat.reduceLeDiff, Nat.reduceLT, qJ, qK, zV, zW, qL, qM, qN, qO, Eff.ap, qP, qQ, xW, qR, zI, onto, dropO, xA, sized, zP, eqT, eqG, minV, evUn, qS, zQ, zR, zS, qC, qT, upO, evSlice0, optInt, xC, qV, xD, del, xB, plain, plainL, zY, zZ, zT, qW, zU, zX, xY, qX, qY, qZ, xE, zJ, zK, zL, xF, xG, wit, xH, Option.isSome_some, xI, qH, xJ, evPre, St.with, xK, xL, zD, xM, xN, xO, Array.size, te, einl, inls, efr]
        exact ⟨_, rfl⟩
      | some (b :: l), k1, g4, i3 =>
        have gl := g4 _ rfl
        rw [List.length_cons] at gl
        have hadd : 1 + (l.length + 1) = l.length + 1 + 1 := by omega
        have hroom : roomy (l.length + 1 + 1) 8 = true := by simp [roomy]; omega
        have hbig : l.length + 1 + 1 ≤ 4294967296 := by omega
        replace i3 : (some (h :: b :: l), D2) = R := i3
        rw [← i3]
        simp only [finSt, keyV, deadOb, searchOb, finV, finObs, boxOb] at k1
        simp (maxSteps := 1000000) (implicitDefEqProofs := false) only [deadOb, le, w1, w2, w3, w4, w5, g1, k1, i1, vI_def, List.isEmpty_cons, Option.isNone_none, searchOb, boxOb, keyV, heatsOb, hadd, hroom, hbig, List.map_cons, Try.ntmps105, Try.results105, efc105, fc105, List.length_cons, finV, finObs, regB hk3, evBD_nil, evBD_cons, effB_true, effB_false, effB2_some, effB2_none, isBar, Bool.true_eq_false, false_and, if_false, Int.natCast_nonneg, Int.toNat_natCast, List.getElem?_map, List.length_map, ss, List.replicate, zH, qG, zF, zG, St.eval, St.put, St.get, constV, List.set, lenV, qE, qF, qB, zC, norm, xQ, look, xP, xX, zO, zM, zE, zN, qA, qI, St.alloc, St.drop, killL, kill, xU, xV, zA, upd, cells?, part, retag, xT, putIn, refFree, xR, isNew, xS, Ty.isAgg, zB, idsL, ids, idsLL, reach, depth, St.dropL, qD, resultV, ↓reduceIte, Nat.reduceBEq, Nat.reduceAdd, Nat.reduceSub, Nat.reduceMul, Nat.reduceEqDiff, Nat.reduceLeDiff, Nat.reduceLT, qJ, qK, zV, zW, qL, qM, qN, qO, Eff.ap, qP, qQ, xW, qR, zI, onto, dropO, xA, sized, zP, eqT, eqG, minV, evUn, qS, zQ, zR, zS, qC, qT, upO, evSlice0, optInt, xC, qV, xD, del, xB, plain, plainL, zY, zZ, zT, qW, zU, zX, xY, qX, qY, qZ, xE, zJ, zK, zL, xF, xG, wit, xH, Option.isSome_some, xI, qH, xJ, evPre, St.with, xK, xL, zD, xM, xN, xO, Array.size, te, einl, inls, efr]
        exact ⟨_, rfl⟩
end
end Go.AM.B

