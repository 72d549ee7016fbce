/-
The sums that the reference can reach.
-/
import Derived.Test.YtbfgifolmpmagaaBWarm
set_option linter.unusedVariables false
set_option linter.unusedSimpArgs false

namespace Go.AM.B
open Go Go.AM Go.Proofs

def rN (f : Loft) (g : Nat) : Nat := (rateAt f g).toNat
def loN (h : Nat) : Nat := h - 1
def hiN (h : Nat) : Nat := min 4 (h + 1)

def reachB (f : Loft) : Nat → Nat → Nat → Bool
  | 0, _, s => s == 0
  | d + 1, h, s => (List.range (hiN h + 1 - loN h)).any fun i => decide (rN f (loN h + i) ≤ s) && reachB f d (loN h + i) (s - rN f (loN h + i))
def stepG (f : Loft) (d lo n s : Nat) : Bool := match d with
  | 0 => s == 0
  | d + 1 => (List.range n).any fun i => decide (rN f (lo + i) ≤ s) && reachB f d (lo + i) (s - rN f (lo + i))
def curS (f : Loft) (d lo n S s : Nat) : Bool := stepG f (d + 1) lo n s || (decide (rN f (lo + n) ≤ s) && decide (s < S + rN f (lo + n)) && reachB f d (lo + n) (s - rN f (lo + n)))

theorem reach_step (f : Loft) (d h s : Nat) : stepG f d (loN h) (hiN h + 1 - loN h) s = reachB f d h s := by
  cases d <;> rfl
theorem cur_zero (f : Loft) (d lo n s : Nat) : curS f d lo n 0 s = stepG f (d + 1) lo n s := by
  unfold curS
  by_cases h : rN f (lo + n) ≤ s
  · rw [decide_eq_false (show ¬ s < 0 + rN f (lo + n) by omega)]; simp
  · rw [decide_eq_false h]; simp
theorem cur_end (f : Loft) (d lo n S s : Nat) (h : s < S + rN f (lo + n)) : curS f d lo n S s = stepG f (d + 1) lo (n + 1) s := by
  unfold curS
  rw [decide_eq_true h]
  show (((List.range n).any fun i => decide (rN f (lo + i) ≤ s) && reachB f d (lo + i) (s - rN f (lo + i))) || _) = ((List.range (n + 1)).any fun i => decide (rN f (lo + i) ≤ s) && reachB f d (lo + i) (s - rN f (lo + i)))
  rw [List.range_succ, List.any_append]
  simp
theorem cur_same (f : Loft) (d lo n S s : Nat) (h : s ≠ S + rN f (lo + n)) : curS f d lo n (S + 1) s = curS f d lo n S s := by
  unfold curS
  have : decide (s < S + 1 + rN f (lo + n)) = decide (s < S + rN f (lo + n)) := decide_eq_decide.2 (by omega)
  rw [this]
theorem cur_at (f : Loft) (d lo n S : Nat) : curS f d lo n (S + 1) (S + rN f (lo + n)) = (curS f d lo n S (S + rN f (lo + n)) || reachB f d (lo + n) S) := by
  unfold curS
  rw [decide_eq_true (show rN f (lo + n) ≤ S + rN f (lo + n) by omega), decide_eq_true (show S + rN f (lo + n) < S + 1 + rN f (lo + n) by omega), decide_eq_false (show ¬ S + rN f (lo + n) < S + rN f (lo + n) by omega), Nat.add_sub_cancel]
  simp

def bL (N : Nat) (F : Nat → Bool) : List V := (List.range N).map fun s => .bool (F s)
theorem bL_len (N : Nat) (F : Nat → Bool) : (bL N F).length = N := by simp [bL]
theorem bL_get {N k : Nat} (F : Nat → Bool) (h : k < N) : (bL N F)[k]? = some (.bool (F k)) := by
  unfold bL
  rw [List.getElem?_map, List.getElem?_range h, Option.map_some]
theorem bL_ext {N : Nat} {F G : Nat → Bool} (h : ∀ s, s < N → F s = G s) : bL N F = bL N G := by
  unfold bL
  exact List.map_congr_left fun s hs => by rw [h s (List.mem_range.1 hs)]
theorem bL_set {N k : Nat} {F G : Nat → Bool} (hk : k < N) (h : ∀ s, s ≠ k → G s = F s) : (bL N F).set k (.bool (G k)) = bL N G := by
  apply List.ext_getElem?
  intro i
  by_cases hi : k = i
  · subst hi
    rw [List.getElem?_set_self (by rw [bL_len]; exact hk), bL_get G hk]
  · rw [List.getElem?_set_ne hi]
    by_cases hn : i < N
    · rw [bL_get F hn, bL_get G hn, h i (Ne.symm hi)]
    · rw [List.getElem?_eq_none (by rw [bL_len]; omega), List.getElem?_eq_none (by rw [bL_len]; omega)]
theorem bL_plain (N : Nat) (F : Nat → Bool) : xR (bL N F) = true ∧ xS (bL N F) = true ∧ sized 1 (bL N F) = true :=
  ⟨refFreeL_map (f := fun s => V.bool (F s)) (fun _ => rfl) _, isNewL_map (f := fun s => V.bool (F s)) (fun _ => rfl) _, sized_map (f := fun s => V.bool (F s)) (n := 1) (fun s => ⟨[.bool (F s)], rfl, rfl⟩) _⟩

def rowV (f : Loft) (d h : Nat) : V := .sl true (bL 109 (reachB f d h))
def rowsV (f : Loft) (d n : Nat) : List V := (List.range n).map (rowV f d)
def levelV (f : Loft) (d : Nat) : V := .sl true (rowsV f d 5)
def levelsV (f : Loft) (n : Nat) : List V := (List.range n).map (levelV f)

theorem rowsV_len (f : Loft) (d n : Nat) : (rowsV f d n).length = n := by simp [rowsV]
theorem rowsV_get {f : Loft} {d n k : Nat} (h : k < n) : (rowsV f d n)[k]? = some (rowV f d k) := by
  unfold rowsV; rw [List.getElem?_map, List.getElem?_range h, Option.map_some]
theorem rowsV_succ (f : Loft) (d n : Nat) : rowsV f d n ++ [rowV f d n] = rowsV f d (n + 1) := by simp [rowsV, List.range_succ]
theorem rowsV_plain (f : Loft) (d n : Nat) : xR (rowsV f d n) = true ∧ xS (rowsV f d n) = true ∧ sized 1 (rowsV f d n) = true :=
  ⟨refFreeL_map (fun _ => rfl) _, isNewL_map (fun _ => rfl) _, sized_map (n := 1) (fun s => ⟨[rowV f d s], rfl, rfl⟩) _⟩
theorem levelsV_len (f : Loft) (n : Nat) : (levelsV f n).length = n := by simp [levelsV]
theorem levelsV_get {f : Loft} {n k : Nat} (h : k < n) : (levelsV f n)[k]? = some (levelV f k) := by
  unfold levelsV; rw [List.getElem?_map, List.getElem?_range h, Option.map_some]
theorem levelsV_succ (f : Loft) (n : Nat) : levelsV f n ++ [levelV f n] = levelsV f (n + 1) := by simp [levelsV, List.range_succ]
theorem levelsV_plain (f : Loft) (n : Nat) : xR (levelsV f n) = true ∧ xS (levelsV f n) = true ∧ sized 1 (levelsV f n) = true :=
  ⟨refFreeL_map (fun _ => rfl) _, isNewL_map (fun _ => rfl) _, sized_map (n := 1) (fun s => ⟨[levelV f s], rfl, rfl⟩) _⟩

def ob1 (l : List V) : Ob := { es := 1, flat := true, t := true, app := true, elems := l }
theorem ob1_eq (l : List V) : ob1 l = { es := 1, flat := true, t := true, app := true, elems := l } := rfl

theorem okT65 : okCode (Try.f65.body.getD .skip) = true := by decide +kernel

set_option maxRecDepth 20000 in
set_option maxHeartbeats 16000000 in
theorem c65 (f : Loft) (hf : loftOk f = true) : (orcω E X0).call 65 [encL f, .int .i64 12] = some (.sl true (levelsV f 13)) := by
  refine call_of rfl fn65 rfl ?_
  have hok := okT65
  simp only [Try.f65, Option.getD_some, okCode, Bool.and_eq_true, Bool.and_true, Bool.true_and] at hok
  obtain ⟨_, f5, _⟩ := loftOk_iff.1 hf
  unfold encL
  simp (maxSteps := 1000000) (implicitDefEqProofs := false) only [Try.ntmps65, Try.results65, efc65, fc65, ss, List.replicate, zH, qG, zF, zG, St.eval, St.put, St.get, constV, List.set, lenV, qE, qF, qB, zC, norm, xQ, look, xP, xX, zO, zM, zE, zN, qA, qI, St.alloc, St.drop, killL, kill, xU, xV, zA, upd, cells?, part, retag, xT, putIn, refFree, xR, isNew, xS, Ty.isAgg, zB, idsL, ids, idsLL, reach, depth, St.dropL, qD, resultV, ↓reduceIte, Nat.reduceBEq, Nat.reduceAdd, Nat.reduceSub, Nat.reduceMul, Nat.reduceEqDiff, Nat.reduceLeDiff, Nat.reduceLT, qJ, qK, zV, zW, qL, qM, qN, qO, Eff.ap, qP, qQ, xW, qR, zI, onto, dropO, xA, sized, zP, eqT, eqG, minV, evUn, qS, zQ, zR, zS, qC, qT, upO, evSlice0, optInt, xC, qV, xD, del, xB, plain, plainL, zY, zZ, zT, qW, zU, zX, xY, qX, qY, qZ, xE, zJ, zK, zL, xF, xG, wit, xH, Option.isSome_some, xI, qH, xJ, evPre, St.with, xK, xL, zD, xM, xN, xO, Array.size, te, einl, inls, efr]
  generalize hr : loopAt _ _ _ _ _ _ = r; revert r
  refine loop_inv (ι := { d : Nat // d ≤ 13 }) (fun i => [(5, .own 5 0 i.1), (6, .int .i64 i.1)]) (fun i => [(5, ob1 (levelsV f i.1))]) (fun i => 13 - i.1) ⟨0, by omega⟩ (by simp (maxSteps := 1000000) (implicitDefEqProofs := false) only [ob1_eq, levelsV, List.range_zero, List.map_nil, Int.natCast_zero, ss, List.replicate, zH, qG, zF, zG, St.eval, St.put, St.get, constV, List.set, lenV, qE, qF, qB, zC, norm, xQ, look, xP, xX, zO, zM, zE, zN, qA, qI, St.alloc, St.drop, killL, kill, xU, xV, zA, upd, cells?, part, retag, xT, putIn, refFree, xR, isNew, xS, Ty.isAgg, zB, idsL, ids, idsLL, reach, depth, St.dropL, qD, resultV, ↓reduceIte, Nat.reduceBEq, Nat.reduceAdd, Nat.reduceSub, Nat.reduceMul, Nat.reduceEqDiff, Nat.reduceLeDiff, Nat.reduceLT, qJ, qK, zV, zW, qL, qM, qN, qO, Eff.ap, qP, qQ, xW, qR, zI, onto, dropO, xA, sized, zP, eqT, eqG, minV, evUn, qS, zQ, zR, zS, qC, qT, upO, evSlice0, optInt, xC, qV, xD, del, xB, plain, plainL, zY, zZ, zT, qW, zU, zX, xY, qX, qY, qZ, xE, zJ, zK, zL, xF, xG, wit, xH, Option.isSome_some, xI, qH, xJ, evPre, St.with, xK, xL, zD, xM, xN, xO, Array.size, te, einl, inls, efr]) ?_
  rintro ⟨d, hd⟩
  dsimp only
  have ld := levelsV_len f d
  have lp := levelsV_plain f d
  by_cases hd12 : d ≤ 12
  case neg =>
    obtain rfl : d = 13 := by omega
    have le : ¬ ((13 : Nat) : Int) ≤ 12 := by decide
    have tk : (levelsV f 13).take 13 = levelsV f 13 := List.take_of_length_le (by rw [levelsV_len]; exact Nat.le_refl _)
    simp (maxSteps := 1000000) (implicitDefEqProofs := false) only [ob1_eq, le, ld, tk, Nat.le_refl, Try.ntmps65, Try.results65, efc65, fc65, ss, List.replicate, zH, qG, zF, zG, St.eval, St.put, St.get, constV, List.set, lenV, qE, qF, qB, zC, norm, xQ, look, xP, xX, zO, zM, zE, zN, qA, qI, St.alloc, St.drop, killL, kill, xU, xV, zA, upd, cells?, part, retag, xT, putIn, refFree, xR, isNew, xS, Ty.isAgg, zB, idsL, ids, idsLL, reach, depth, St.dropL, qD, resultV, ↓reduceIte, Nat.reduceBEq, Nat.reduceAdd, Nat.reduceSub, Nat.reduceMul, Nat.reduceEqDiff, Nat.reduceLeDiff, Nat.reduceLT, qJ, qK, zV, zW, qL, qM, qN, qO, Eff.ap, qP, qQ, xW, qR, zI, onto, dropO, xA, sized, zP, eqT, eqG, minV, evUn, qS, zQ, zR, zS, qC, qT, upO, evSlice0, optInt, xC, qV, xD, del, xB, plain, plainL, zY, zZ, zT, qW, zU, zX, xY, qX, qY, qZ, xE, zJ, zK, zL, xF, xG, wit, xH, Option.isSome_some, xI, qH, xJ, evPre, St.with, xK, xL, zD, xM, xN, xO, Array.size, te, einl, inls, efr]
  case pos =>
  have le : (d : Int) ≤ 12 := by omega
  have w1 : IntKind.i64.wrap ((d : Int) + 1) = ((d + 1 : Nat) : Int) := by rw [wrap_in (by omega)]; omega
  simp (maxSteps := 1000000) (implicitDefEqProofs := false) only [ob1_eq, le, ss, List.replicate, zH, qG, zF, zG, St.eval, St.put, St.get, constV, List.set, lenV, qE, qF, qB, zC, norm, xQ, look, xP, xX, zO, zM, zE, zN, qA, qI, St.alloc, St.drop, killL, kill, xU, xV, zA, upd, cells?, part, retag, xT, putIn, refFree, xR, isNew, xS, Ty.isAgg, zB, idsL, ids, idsLL, reach, depth, St.dropL, qD, resultV, ↓reduceIte, Nat.reduceBEq, Nat.reduceAdd, Nat.reduceSub, Nat.reduceMul, Nat.reduceEqDiff, Nat.reduceLeDiff, Nat.reduceLT, qJ, qK, zV, zW, qL, qM, qN, qO, Eff.ap, qP, qQ, xW, qR, zI, onto, dropO, xA, sized, zP, eqT, eqG, minV, evUn, qS, zQ, zR, zS, qC, qT, upO, evSlice0, optInt, xC, qV, xD, del, xB, plain, plainL, zY, zZ, zT, qW, zU, zX, xY, qX, qY, qZ, xE, zJ, zK, zL, xF, xG, wit, xH, Option.isSome_some, xI, qH, xJ, evPre, St.with, xK, xL, zD, xM, xN, xO, Array.size, te, einl, inls, efr]
  generalize hr : loopAt _ _ _ _ _ _ = r; revert r
  refine loop_inv (ι := { h : Nat // h ≤ 5 }) (fun i => [(7, .own 7 0 i.1), (8, .int .i64 i.1)]) (fun i => [(7, ob1 (rowsV f d i.1))]) (fun i => 5 - i.1) ⟨0, by omega⟩ (by simp (maxSteps := 1000000) (implicitDefEqProofs := false) only [ob1_eq, rowsV, List.range_zero, List.map_nil, Int.natCast_zero, ss, List.replicate, zH, qG, zF, zG, St.eval, St.put, St.get, constV, List.set, lenV, qE, qF, qB, zC, norm, xQ, look, xP, xX, zO, zM, zE, zN, qA, qI, St.alloc, St.drop, killL, kill, xU, xV, zA, upd, cells?, part, retag, xT, putIn, refFree, xR, isNew, xS, Ty.isAgg, zB, idsL, ids, idsLL, reach, depth, St.dropL, qD, resultV, ↓reduceIte, Nat.reduceBEq, Nat.reduceAdd, Nat.reduceSub, Nat.reduceMul, Nat.reduceEqDiff, Nat.reduceLeDiff, Nat.reduceLT, qJ, qK, zV, zW, qL, qM, qN, qO, Eff.ap, qP, qQ, xW, qR, zI, onto, dropO, xA, sized, zP, eqT, eqG, minV, evUn, qS, zQ, zR, zS, qC, qT, upO, evSlice0, optInt, xC, qV, xD, del, xB, plain, plainL, zY, zZ, zT, qW, zU, zX, xY, qX, qY, qZ, xE, zJ, zK, zL, xF, xG, wit, xH, Option.isSome_some, xI, qH, xJ, evPre, St.with, xK, xL, zD, xM, xN, xO, Array.size, te, einl, inls, efr]) ?_
  rintro ⟨h, hh⟩
  dsimp only
  have lr := rowsV_len f d h
  have lq := rowsV_plain f d h
  by_cases hh4 : h ≤ 4
  case neg =>
    obtain rfl : h = 5 := by omega
    have le5 : ¬ ((5 : Nat) : Int) ≤ 4 := by decide
    have tk : (rowsV f d 5).take 5 = rowsV f d 5 := List.take_of_length_le (by rw [rowsV_len]; exact Nat.le_refl _)
    have hroom : roomy (d + 1) 24 = true := by simp [roomy]; omega
    have hbig : d + 1 ≤ 4294967296 := by omega
    have e1 := levelsV_succ f d
    unfold levelV at e1
    simp (maxSteps := 1000000) (implicitDefEqProofs := false) only [ob1_eq, le5, ld, lr, lq, tk, w1, hroom, hbig, Nat.le_refl, e1, ss, List.replicate, zH, qG, zF, zG, St.eval, St.put, St.get, constV, List.set, lenV, qE, qF, qB, zC, norm, xQ, look, xP, xX, zO, zM, zE, zN, qA, qI, St.alloc, St.drop, killL, kill, xU, xV, zA, upd, cells?, part, retag, xT, putIn, refFree, xR, isNew, xS, Ty.isAgg, zB, idsL, ids, idsLL, reach, depth, St.dropL, qD, resultV, ↓reduceIte, Nat.reduceBEq, Nat.reduceAdd, Nat.reduceSub, Nat.reduceMul, Nat.reduceEqDiff, Nat.reduceLeDiff, Nat.reduceLT, qJ, qK, zV, zW, qL, qM, qN, qO, Eff.ap, qP, qQ, xW, qR, zI, onto, dropO, xA, sized, zP, eqT, eqG, minV, evUn, qS, zQ, zR, zS, qC, qT, upO, evSlice0, optInt, xC, qV, xD, del, xB, plain, plainL, zY, zZ, zT, qW, zU, zX, xY, qX, qY, qZ, xE, zJ, zK, zL, xF, xG, wit, xH, Option.isSome_some, xI, qH, xJ, evPre, St.with, xK, xL, zD, xM, xN, xO, Array.size, te, einl, inls, efr]
    exact ⟨⟨d + 1, by omega⟩, rfl, by dsimp only; omega⟩
  case pos =>
  have le4 : (h : Int) ≤ 4 := by omega
  have w2 : IntKind.i64.wrap ((h : Int) - 1) = (h : Int) - 1 := wrap_in (by omega)
  have w3 : IntKind.i64.wrap ((h : Int) + 1) = ((h + 1 : Nat) : Int) := by rw [wrap_in (by omega)]; omega
  have hlo : max (0 : Int) ((h : Int) - 1) = (loN h : Int) := by unfold loN; omega
  have hhi : min (4 : Int) ((h + 1 : Nat) : Int) = (hiN h : Int) := by unfold hiN; omega
  have r109 : roomy 109 1 = true := by decide
  have e109 : bL 109 (stepG f d (loN h) 0) = V.bool (stepG f d (loN h) 0 0) :: List.replicate 108 (V.bool false) := by
    cases d <;> rfl
  have c109 : ((109 : Nat) : Int) = 109 := rfl
  have hb : ((d : Int) == 0) = stepG f d (loN h) 0 0 := by
    cases d with
    | zero => rfl
    | succ d => show (((d + 1 : Nat) : Int) == 0) = false; simp; omega
  simp (maxSteps := 1000000) (implicitDefEqProofs := false) only [ob1_eq, le4, w2, w3, hlo, hhi, hb, c109, r109, Int.reduceToNat, Int.reduceLE, Int.reduceLT, Int.natCast_nonneg, Int.toNat_natCast, List.getElem?_map, List.length_map, ss, List.replicate, zH, qG, zF, zG, St.eval, St.put, St.get, constV, List.set, lenV, qE, qF, qB, zC, norm, xQ, look, xP, xX, zO, zM, zE, zN, qA, qI, St.alloc, St.drop, killL, kill, xU, xV, zA, upd, cells?, part, retag, xT, putIn, refFree, xR, isNew, xS, Ty.isAgg, zB, idsL, ids, idsLL, reach, depth, St.dropL, qD, resultV, ↓reduceIte, Nat.reduceBEq, Nat.reduceAdd, Nat.reduceSub, Nat.reduceMul, Nat.reduceEqDiff, Nat.reduceLeDiff, Nat.reduceLT, qJ, qK, zV, zW, qL, qM, qN, qO, Eff.ap, qP, qQ, xW, qR, zI, onto, dropO, xA, sized, zP, eqT, eqG, minV, evUn, qS, zQ, zR, zS, qC, qT, upO, evSlice0, optInt, xC, qV, xD, del, xB, plain, plainL, zY, zZ, zT, qW, zU, zX, xY, qX, qY, qZ, xE, zJ, zK, zL, xF, xG, wit, xH, Option.isSome_some, xI, qH, xJ, evPre, St.with, xK, xL, zD, xM, xN, xO, Array.size, te, einl, inls, efr]
  generalize hr : loopAt _ _ _ _ _ _ = r; revert r
  refine loop_inv (ι := { n : Nat // n ≤ hiN h + 1 - loN h ∧ (d = 0 → n = 0) }) (fun i => [(10, .int .i64 ((loN h + i.1 : Nat) : Int))]) (fun i => [(9, ob1 (bL 109 (stepG f d (loN h) i.1)))]) (fun i => 10 - i.1) ⟨0, Nat.zero_le _, fun _ => rfl⟩ (by simp (maxSteps := 1000000) (implicitDefEqProofs := false) only [ob1_eq, Nat.add_zero, ss, List.replicate, zH, qG, zF, zG, St.eval, St.put, St.get, constV, List.set, lenV, qE, qF, qB, zC, norm, xQ, look, xP, xX, zO, zM, zE, zN, qA, qI, St.alloc, St.drop, killL, kill, xU, xV, zA, upd, cells?, part, retag, xT, putIn, refFree, xR, isNew, xS, Ty.isAgg, zB, idsL, ids, idsLL, reach, depth, St.dropL, qD, resultV, ↓reduceIte, Nat.reduceBEq, Nat.reduceAdd, Nat.reduceSub, Nat.reduceMul, Nat.reduceEqDiff, Nat.reduceLeDiff, Nat.reduceLT, qJ, qK, zV, zW, qL, qM, qN, qO, Eff.ap, qP, qQ, xW, qR, zI, onto, dropO, xA, sized, zP, eqT, eqG, minV, evUn, qS, zQ, zR, zS, qC, qT, upO, evSlice0, optInt, xC, qV, xD, del, xB, plain, plainL, zY, zZ, zT, qW, zU, zX, xY, qX, qY, qZ, xE, zJ, zK, zL, xF, xG, wit, xH, Option.isSome_some, xI, qH, xJ, evPre, St.with, xK, xL, zD, xM, xN, xO, Array.size, te, einl, inls, efr]; rw [e109]; rfl) ?_
  rintro ⟨n, hn, hn0⟩
  dsimp only
  have fin : ∀ F : Nat → Bool, bL 109 F = bL 109 (reachB f d h) → ∃ l, l = bL 109 F ∧ rowsV f d h ++ [.sl true l] = rowsV f d (h + 1) := fun F e => ⟨_, rfl, by rw [e]; exact rowsV_succ f d h⟩
  have hroom : roomy (h + 1) 24 = true := by simp [roomy]; omega
  have hbig : h + 1 ≤ 4294967296 := by omega
  have tkb : ∀ F : Nat → Bool, (bL 109 F).take 109 = bL 109 F := fun F => List.take_of_length_le (by rw [bL_len]; exact Nat.le_refl _)
  have lpl := fun F => bL_plain 109 F
  by_cases hstop : n = hiN h + 1 - loN h ∨ d = 0
  · have e0 : bL 109 (stepG f d (loN h) n) = bL 109 (reachB f d h) := by
      rcases hstop with rfl | rfl
      · exact bL_ext fun s _ => reach_step f d h s
      · rfl
    obtain ⟨l, hl, e1⟩ := fin _ e0
    rw [hl] at e1
    have test : (((loN h + n : Nat) : Int) ≤ (hiN h : Int) ∧ ¬ (0 : Int) < d) ∨ ¬ ((loN h + n : Nat) : Int) ≤ (hiN h : Int) := by
      unfold loN hiN at *
      omega
    rcases test with ⟨t1, t2⟩ | t1
    · simp (maxSteps := 1000000) (implicitDefEqProofs := false) only [ob1_eq, t1, t2, w2, w3, hhi, bL_len, lr, lq, lpl, tkb, hroom, hbig, e1, Nat.le_refl, Int.natCast_nonneg, Int.toNat_natCast, List.getElem?_map, List.length_map, ss, List.replicate, zH, qG, zF, zG, St.eval, St.put, St.get, constV, List.set, lenV, qE, qF, qB, zC, norm, xQ, look, xP, xX, zO, zM, zE, zN, qA, qI, St.alloc, St.drop, killL, kill, xU, xV, zA, upd, cells?, part, retag, xT, putIn, refFree, xR, isNew, xS, Ty.isAgg, zB, idsL, ids, idsLL, reach, depth, St.dropL, qD, resultV, ↓reduceIte, Nat.reduceBEq, Nat.reduceAdd, Nat.reduceSub, Nat.reduceMul, Nat.reduceEqDiff, Nat.reduceLeDiff, Nat.reduceLT, qJ, qK, zV, zW, qL, qM, qN, qO, Eff.ap, qP, qQ, xW, qR, zI, onto, dropO, xA, sized, zP, eqT, eqG, minV, evUn, qS, zQ, zR, zS, qC, qT, upO, evSlice0, optInt, xC, qV, xD, del, xB, plain, plainL, zY, zZ, zT, qW, zU, zX, xY, qX, qY, qZ, xE, zJ, zK, zL, xF, xG, wit, xH, Option.isSome_some, xI, qH, xJ, evPre, St.with, xK, xL, zD, xM, xN, xO, Array.size, te, einl, inls, efr]
      exact ⟨⟨h + 1, by omega⟩, rfl, by dsimp only; omega⟩
    · simp (maxSteps := 1000000) (implicitDefEqProofs := false) only [ob1_eq, t1, w2, w3, hhi, bL_len, lr, lq, lpl, tkb, hroom, hbig, e1, Nat.le_refl, Int.natCast_nonneg, Int.toNat_natCast, List.getElem?_map, List.length_map, ss, List.replicate, zH, qG, zF, zG, St.eval, St.put, St.get, constV, List.set, lenV, qE, qF, qB, zC, norm, xQ, look, xP, xX, zO, zM, zE, zN, qA, qI, St.alloc, St.drop, killL, kill, xU, xV, zA, upd, cells?, part, retag, xT, putIn, refFree, xR, isNew, xS, Ty.isAgg, zB, idsL, ids, idsLL, reach, depth, St.dropL, qD, resultV, ↓reduceIte, Nat.reduceBEq, Nat.reduceAdd, Nat.reduceSub, Nat.reduceMul, Nat.reduceEqDiff, Nat.reduceLeDiff, Nat.reduceLT, qJ, qK, zV, zW, qL, qM, qN, qO, Eff.ap, qP, qQ, xW, qR, zI, onto, dropO, xA, sized, zP, eqT, eqG, minV, evUn, qS, zQ, zR, zS, qC, qT, upO, evSlice0, optInt, xC, qV, xD, del, xB, plain, plainL, zY, zZ, zT, qW, zU, zX, xY, qX, qY, qZ, xE, zJ, zK, zL, xF, xG, wit, xH, Option.isSome_some, xI, qH, xJ, evPre, St.with, xK, xL, zD, xM, xN, xO, Array.size, te, einl, inls, efr]
      exact ⟨⟨h + 1, by omega⟩, rfl, by dsimp only; omega⟩
  · obtain ⟨d, rfl⟩ : ∃ k, d = k + 1 := ⟨d - 1, by omega⟩
    have t1 : ((loN h + n : Nat) : Int) ≤ (hiN h : Int) := by omega
    have t2 : (0 : Int) < ((d + 1 : Nat) : Int) := by omega
    have g4 : loN h + n ≤ 4 := by unfold hiN at t1; omega
    have g1 := rateAt_get f5 (n := ((loN h + n : Nat) : Int)) (by omega) (by omega)
    have g2 := rateAt_in hf ((loN h + n : Nat) : Int)
    have g3 : rateAt f ((loN h + n : Nat) : Int) = ((rN f (loN h + n) : Nat) : Int) := by unfold rN; omega
    have g5 : rN f (loN h + n) ≤ 9 := by omega
    rw [Int.toNat_natCast, g3] at g1
    have w4 : IntKind.i64.wrap (((loN h + n : Nat) : Int) + 1) = ((loN h + (n + 1) : Nat) : Int) := by rw [wrap_in (by omega)]; omega
    simp (maxSteps := 1000000) (implicitDefEqProofs := false) only [ob1_eq, t1, t2, w2, w3, hhi, ss, List.replicate, zH, qG, zF, zG, St.eval, St.put, St.get, constV, List.set, lenV, qE, qF, qB, zC, norm, xQ, look, xP, xX, zO, zM, zE, zN, qA, qI, St.alloc, St.drop, killL, kill, xU, xV, zA, upd, cells?, part, retag, xT, putIn, refFree, xR, isNew, xS, Ty.isAgg, zB, idsL, ids, idsLL, reach, depth, St.dropL, qD, resultV, ↓reduceIte, Nat.reduceBEq, Nat.reduceAdd, Nat.reduceSub, Nat.reduceMul, Nat.reduceEqDiff, Nat.reduceLeDiff, Nat.reduceLT, qJ, qK, zV, zW, qL, qM, qN, qO, Eff.ap, qP, qQ, xW, qR, zI, onto, dropO, xA, sized, zP, eqT, eqG, minV, evUn, qS, zQ, zR, zS, qC, qT, upO, evSlice0, optInt, xC, qV, xD, del, xB, plain, plainL, zY, zZ, zT, qW, zU, zX, xY, qX, qY, qZ, xE, zJ, zK, zL, xF, xG, wit, xH, Option.isSome_some, xI, qH, xJ, evPre, St.with, xK, xL, zD, xM, xN, xO, Array.size, te, einl, inls, efr]
    generalize hr : loopAt _ _ _ _ _ _ = r; revert r
    refine loop_inv (ι := { S : Nat // S ≤ 109 }) (fun i => [(11, .int .i64 i.1)]) (fun i => [(9, ob1 (bL 109 (curS f d (loN h) n i.1)))]) (fun i => 109 - i.1) ⟨0, by omega⟩ (by simp (maxSteps := 1000000) (implicitDefEqProofs := false) only [ob1_eq, Int.natCast_zero, ss, List.replicate, zH, qG, zF, zG, St.eval, St.put, St.get, constV, List.set, lenV, qE, qF, qB, zC, norm, xQ, look, xP, xX, zO, zM, zE, zN, qA, qI, St.alloc, St.drop, killL, kill, xU, xV, zA, upd, cells?, part, retag, xT, putIn, refFree, xR, isNew, xS, Ty.isAgg, zB, idsL, ids, idsLL, reach, depth, St.dropL, qD, resultV, ↓reduceIte, Nat.reduceBEq, Nat.reduceAdd, Nat.reduceSub, Nat.reduceMul, Nat.reduceEqDiff, Nat.reduceLeDiff, Nat.reduceLT, qJ, qK, zV, zW, qL, qM, qN, qO, Eff.ap, qP, qQ, xW, qR, zI, onto, dropO, xA, sized, zP, eqT, eqG, minV, evUn, qS, zQ, zR, zS, qC, qT, upO, evSlice0, optInt, xC, qV, xD, del, xB, plain, plainL, zY, zZ, zT, qW, zU, zX, xY, qX, qY, qZ, xE, zJ, zK, zL, xF, xG, wit, xH, Option.isSome_some, xI, qH, xJ, evPre, St.with, xK, xL, zD, xM, xN, xO, Array.size, te, einl, inls, efr]; rw [bL_ext fun s _ => cur_zero f d (loN h) n s]) ?_
    rintro ⟨S, hS⟩
    dsimp only
    have w5 : IntKind.i64.wrap ((S : Int) + ((rN f (loN h + n) : Nat) : Int)) = ((S + rN f (loN h + n) : Nat) : Int) := by rw [wrap_in (by omega)]; omega
    have w6 : IntKind.i64.wrap ((S : Int) + 1) = ((S + 1 : Nat) : Int) := by rw [wrap_in (by omega)]; omega
    by_cases hlt : S + rN f (loN h + n) < 109
    case neg =>
      have hlt' : ¬ ((S + rN f (loN h + n) : Nat) : Int) < 109 := by omega
      have e2 : bL 109 (curS f d (loN h) n S) = bL 109 (stepG f (d + 1) (loN h) (n + 1)) := bL_ext fun s hs => cur_end f d (loN h) n S s (by omega)
      simp (maxSteps := 1000000) (implicitDefEqProofs := false) only [ob1_eq, g1, vI_def, w4, w5, c109, hlt', bL_len, e2, Int.natCast_nonneg, Int.toNat_natCast, List.getElem?_map, List.length_map, ss, List.replicate, zH, qG, zF, zG, St.eval, St.put, St.get, constV, List.set, lenV, qE, qF, qB, zC, norm, xQ, look, xP, xX, zO, zM, zE, zN, qA, qI, St.alloc, St.drop, killL, kill, xU, xV, zA, upd, cells?, part, retag, xT, putIn, refFree, xR, isNew, xS, Ty.isAgg, zB, idsL, ids, idsLL, reach, depth, St.dropL, qD, resultV, ↓reduceIte, Nat.reduceBEq, Nat.reduceAdd, Nat.reduceSub, Nat.reduceMul, Nat.reduceEqDiff, Nat.reduceLeDiff, Nat.reduceLT, qJ, qK, zV, zW, qL, qM, qN, qO, Eff.ap, qP, qQ, xW, qR, zI, onto, dropO, xA, sized, zP, eqT, eqG, minV, evUn, qS, zQ, zR, zS, qC, qT, upO, evSlice0, optInt, xC, qV, xD, del, xB, plain, plainL, zY, zZ, zT, qW, zU, zX, xY, qX, qY, qZ, xE, zJ, zK, zL, xF, xG, wit, xH, Option.isSome_some, xI, qH, xJ, evPre, St.with, xK, xL, zD, xM, xN, xO, Array.size, te, einl, inls, efr]
      exact ⟨⟨n + 1, by omega, fun h => by omega⟩, rfl, by dsimp only; unfold hiN at t1; omega⟩
    case pos =>
      have hlt' : ((S + rN f (loN h + n) : Nat) : Int) < 109 := by omega
      have gb := bL_get (curS f d (loN h) n S) hlt
      have at' := cur_at f d (loN h) n S
      have e3 : (bL 109 (curS f d (loN h) n S)).set (S + rN f (loN h + n)) (.bool (curS f d (loN h) n (S + 1) (S + rN f (loN h + n)))) = bL 109 (curS f d (loN h) n (S + 1)) := bL_set hlt fun s hs => cur_same f d (loN h) n S s hs
      have w7 : IntKind.i64.wrap (((d + 1 : Nat) : Int) - 1) = (d : Int) := by rw [wrap_in (by omega)]; omega
      have gl := levelsV_get (f := f) (n := d + 1) (k := d) (by omega)
      unfold levelV at gl
      have gr := rowsV_get (f := f) (d := d) (n := 5) (k := loN h + n) (by omega)
      unfold rowV at gr
      have gs := bL_get (reachB f d (loN h + n)) (k := S) (N := 109) (by omega)
      have c1 : (d : Int) < ((d + 1 : Nat) : Int) := by omega
      have c2 : S + rN f (loN h + n) < 109 := hlt
      cases hb2 : curS f d (loN h) n S (S + rN f (loN h + n)) with
      | true =>
        rw [hb2] at gb at'
        rw [at', Bool.true_or] at e3
        simp (maxSteps := 1000000) (implicitDefEqProofs := false) only [ob1_eq, g1, vI_def, w4, w5, w6, w7, c109, c1, hlt, hlt', bL_len, gb, e3, evRegion_st hok, Int.natCast_nonneg, Int.toNat_natCast, List.getElem?_map, List.length_map, ss, List.replicate, zH, qG, zF, zG, St.eval, St.put, St.get, constV, List.set, lenV, qE, qF, qB, zC, norm, xQ, look, xP, xX, zO, zM, zE, zN, qA, qI, St.alloc, St.drop, killL, kill, xU, xV, zA, upd, cells?, part, retag, xT, putIn, refFree, xR, isNew, xS, Ty.isAgg, zB, idsL, ids, idsLL, reach, depth, St.dropL, qD, resultV, ↓reduceIte, Nat.reduceBEq, Nat.reduceAdd, Nat.reduceSub, Nat.reduceMul, Nat.reduceEqDiff, Nat.reduceLeDiff, Nat.reduceLT, qJ, qK, zV, zW, qL, qM, qN, qO, Eff.ap, qP, qQ, xW, qR, zI, onto, dropO, xA, sized, zP, eqT, eqG, minV, evUn, qS, zQ, zR, zS, qC, qT, upO, evSlice0, optInt, xC, qV, xD, del, xB, plain, plainL, zY, zZ, zT, qW, zU, zX, xY, qX, qY, qZ, xE, zJ, zK, zL, xF, xG, wit, xH, Option.isSome_some, xI, qH, xJ, evPre, St.with, xK, xL, zD, xM, xN, xO, Array.size, te, einl, inls, efr]
        exact ⟨⟨S + 1, by omega⟩, rfl, by dsimp only; omega⟩
      | false =>
        rw [hb2] at gb at'
        rw [at', Bool.false_or] at e3
        simp (maxSteps := 1000000) (implicitDefEqProofs := false) only [ob1_eq, g1, vI_def, w4, w5, w6, w7, c109, c1, hlt, hlt', ld, bL_len, gb, gl, gr, gs, e3, evRegion_st hok, Int.natCast_nonneg, Int.toNat_natCast, List.getElem?_map, List.length_map, ss, List.replicate, zH, qG, zF, zG, St.eval, St.put, St.get, constV, List.set, lenV, qE, qF, qB, zC, norm, xQ, look, xP, xX, zO, zM, zE, zN, qA, qI, St.alloc, St.drop, killL, kill, xU, xV, zA, upd, cells?, part, retag, xT, putIn, refFree, xR, isNew, xS, Ty.isAgg, zB, idsL, ids, idsLL, reach, depth, St.dropL, qD, resultV, ↓reduceIte, Nat.reduceBEq, Nat.reduceAdd, Nat.reduceSub, Nat.reduceMul, Nat.reduceEqDiff, Nat.reduceLeDiff, Nat.reduceLT, qJ, qK, zV, zW, qL, qM, qN, qO, Eff.ap, qP, qQ, xW, qR, zI, onto, dropO, xA, sized, zP, eqT, eqG, minV, evUn, qS, zQ, zR, zS, qC, qT, upO, evSlice0, optInt, xC, qV, xD, del, xB, plain, plainL, zY, zZ, zT, qW, zU, zX, xY, qX, qY, qZ, xE, zJ, zK, zL, xF, xG, wit, xH, Option.isSome_some, xI, qH, xJ, evPre, St.with, xK, xL, zD, xM, xN, xO, Array.size, te, einl, inls, efr]
        exact ⟨⟨S + 1, by omega⟩, rfl, by dsimp only; omega⟩
end Go.AM.B

