/-
Minors, determinants and cofactors (blend).
-/
import Derived.Test.YtkacpekakpbalaaEBlend
import Derived.Test.YtkacpekakpbalaaEOptP
set_option linter.unusedVariables false
set_option linter.unusedSimpArgs false
set_option maxRecDepth 20000

namespace Go.AM.E
open Go Go.AM Go.Proofs

def encI (r : List Int) : V := .sl true (r.map vI)
def encM (t : Bool) (M : List (List Int)) : V := .sl t (M.map encI)
def minorL (M : List (List Int)) (r k : Nat) : List (List Int) := (M.eraseIdx r).map fun l => l.eraseIdx k
theorem erase_take {α : Type} {l : List α} {j k : Nat} {x : α} (h : l[j]? = some x) : (l.take (j + 1)).eraseIdx k = if j = k then (l.take j).eraseIdx k else (l.take j).eraseIdx k ++ [x] := by
  have hj : j < l.length := (List.getElem?_eq_some_iff.1 h).1
  have e : l.take (j + 1) = l.take j ++ [x] := by rw [List.take_add_one, h]; rfl
  have hl : (l.take j).length = j := by rw [List.length_take]; omega
  rw [e]
  by_cases hk : j = k
  · subst hk
    rw [if_pos rfl, List.eraseIdx_append_of_length_le (by omega), hl, Nat.sub_self]
    show List.take j l ++ [] = _
    rw [List.append_nil, List.eraseIdx_of_length_le (by omega)]
  · rw [if_neg hk]
    by_cases hlt : k < j
    · rw [List.eraseIdx_append_of_lt_length (by omega)]
    · rw [List.eraseIdx_append_of_length_le (by omega), hl, List.eraseIdx_of_length_le (by simp; omega), List.eraseIdx_of_length_le (by omega)]
theorem sized_encI : ∀ M : List (List Int), sized 1 (M.map encI) = true
  | [] => rfl
  | r :: M => by
    show (true && sized 1 (M.map encI)) = true
    rw [sized_encI M]; rfl
def grow (es : Nat) (vs : List V) : Ob := { es := es, flat := true, t := true, app := true, elems := vs }
def lineTo (l : List Int) (k j : Nat) : List Int := (l.take j).eraseIdx k
def rowsTo (M : List (List Int)) (r k i : Nat) : List (List Int) := minorL (M.take i) r k
theorem line_zero (l : List Int) (k : Nat) : lineTo l k 0 = [] := by unfold lineTo; simp
theorem line_same {l : List Int} {k : Nat} {x : Int} (h : l[k]? = some x) : lineTo l k (k + 1) = lineTo l k k := by unfold lineTo; rw [erase_take h, if_pos rfl]
theorem line_more {l : List Int} {k j : Nat} {x : Int} (h : l[j]? = some x) (hne : ¬ j = k) : lineTo l k (j + 1) = lineTo l k j ++ [x] := by unfold lineTo; rw [erase_take h, if_neg hne]
theorem line_all (l : List Int) (k : Nat) : lineTo l k l.length = l.eraseIdx k := by unfold lineTo; rw [List.take_length]
theorem line_len (l : List Int) (k j : Nat) : (lineTo l k j).length ≤ l.length := by
  unfold lineTo; rw [List.length_eraseIdx, List.length_take]; split <;> omega
theorem rows_zero (M : List (List Int)) (r k : Nat) : rowsTo M r k 0 = [] := by unfold rowsTo minorL; simp
theorem rows_same {M : List (List Int)} {r k : Nat} {l : List Int} (h : M[r]? = some l) : rowsTo M r k (r + 1) = rowsTo M r k r := by unfold rowsTo minorL; rw [erase_take h, if_pos rfl]
theorem rows_more {M : List (List Int)} {r k i : Nat} {l : List Int} (h : M[i]? = some l) (hne : ¬ i = r) : rowsTo M r k (i + 1) = rowsTo M r k i ++ [l.eraseIdx k] := by
  unfold rowsTo minorL; rw [erase_take h, if_neg hne, List.map_append]; rfl
theorem rows_all (M : List (List Int)) (r k : Nat) : rowsTo M r k M.length = minorL M r k := by unfold rowsTo; rw [List.take_length]
theorem rows_len (M : List (List Int)) (r k i : Nat) : (rowsTo M r k i).length ≤ M.length := by
  unfold rowsTo minorL; rw [List.length_map, List.length_eraseIdx, List.length_take]; split <;> omega
theorem nat_beq {a b : Nat} (h : ¬ a = b) : (((a : Nat) : Int) == (b : Int)) = false := by simp; omega
set_option maxRecDepth 20000 in
set_option maxHeartbeats 8000000 in
theorem c101 (M : List (List Int)) (r k : Nat) (hM : M.length ≤ 1000) (hr : ∀ l ∈ M, l.length ≤ 1000) : (orcω E XS).call 101 [encM false M, .int .i64 (r : Nat), .int .i64 (k : Nat)] = some (encM true (minorL M r k)) := by
  refine call_of rfl fn101 rfl ?_
  unfold encM
  have z0 := rows_zero M r k
  have zl := rows_all M r k
  have rl := rows_len M r k
  have rs := fun l => rows_same (M := M) (r := r) (k := k) (l := l)
  have rm := fun i l => rows_more (M := M) (r := r) (k := k) (i := i) (l := l)
  generalize rowsTo M r k = rt at *
  generalize minorL M r k = mm at *
  simp (maxSteps := 1000000) (implicitDefEqProofs := false) only [Try.ntmps101, Try.results101, efc101, fc101, List.length_map, ss, sd, zI, qG, zG, zH, St.get, qE, qF, qB, zD, norm, look, zF, qA, qI, St.alloc, St.drop, zA, part, zC, depth, qD, ↓reduceIte, Nat.reduceBEq, Nat.reduceAdd, Nat.reduceSub, Nat.reduceMul, Nat.reduceEqDiff, Nat.reduceLeDiff, Nat.reduceLT, qJ, qK, qL, qM, qN, qO, qP, qQ, qR, zJ, qS, qC, qT, evSlice0, qV, qW, qX, qY, qZ, zK, fixed, zL, wit, Option.isSome_some, qH, evSliceP, evPre, St.with, zE, Array.size, te, einl, inls, efr]
  generalize hr : loopAt _ _ _ _ _ _ = r; revert r
  refine loop_nat M.length (fun i _ => [(7, .own 7 0 (rt i).length), (15, .int .i64 (i : Nat))]) (fun i _ => [(7, grow 1 ((rt i).map encI))]) (fun _ (_ : Unit) => True) () (by omega) (by simp (maxSteps := 1000000) (implicitDefEqProofs := false) only [grow, z0, Int.natCast_zero, List.map_nil, List.length_nil, ss, sd, zI, qG, zG, zH, St.get, qE, qF, qB, zD, norm, look, zF, qA, qI, St.alloc, St.drop, zA, part, zC, depth, qD, ↓reduceIte, Nat.reduceBEq, Nat.reduceAdd, Nat.reduceSub, Nat.reduceMul, Nat.reduceEqDiff, Nat.reduceLeDiff, Nat.reduceLT, qJ, qK, qL, qM, qN, qO, qP, qQ, qR, zJ, qS, qC, qT, evSlice0, qV, qW, qX, qY, qZ, zK, fixed, zL, wit, Option.isSome_some, qH, evSliceP, evPre, St.with, zE, Array.size, te, einl, inls, efr]) trivial (fun _ _ => ?_) (fun i _ _ a1 a2 a3 => ?_)
  · have t1 : ((rt M.length).map encI).take (rt M.length).length = (rt M.length).map encI := List.take_of_length_le (by simp)
    rw [zl] at t1 ⊢
    simp (maxSteps := 1000000) (implicitDefEqProofs := false) only [Int.lt_irrefl, grow, t1, List.length_map, Try.ntmps101, Try.results101, efc101, fc101, ss, sd, zI, qG, zG, zH, St.get, qE, qF, qB, zD, norm, look, zF, qA, qI, St.alloc, St.drop, zA, part, zC, depth, qD, ↓reduceIte, Nat.reduceBEq, Nat.reduceAdd, Nat.reduceSub, Nat.reduceMul, Nat.reduceEqDiff, Nat.reduceLeDiff, Nat.reduceLT, qJ, qK, qL, qM, qN, qO, qP, qQ, qR, zJ, qS, qC, qT, evSlice0, qV, qW, qX, qY, qZ, zK, fixed, zL, wit, Option.isSome_some, qH, evSliceP, evPre, St.with, zE, Array.size, te, einl, inls, efr]
  · have g1 : M[i]? = some M[i] := List.getElem?_eq_getElem a1
    have hl := hr M[i] (List.getElem_mem _)
    by_cases hir : i = r
    · subst hir
      have e1 := rs _ g1
      generalize M[i] = l at *
      simp (maxSteps := 1000000) (implicitDefEqProofs := false) only [a1, a2, a3, g1, e1, grow, encI, beq_self_eq_true, Int.natCast_nonneg, Int.toNat_natCast, List.getElem?_map, List.length_map, ss, sd, zI, qG, zG, zH, St.get, qE, qF, qB, zD, norm, look, zF, qA, qI, St.alloc, St.drop, zA, part, zC, depth, qD, ↓reduceIte, Nat.reduceBEq, Nat.reduceAdd, Nat.reduceSub, Nat.reduceMul, Nat.reduceEqDiff, Nat.reduceLeDiff, Nat.reduceLT, qJ, qK, qL, qM, qN, qO, qP, qQ, qR, zJ, qS, qC, qT, evSlice0, qV, qW, qX, qY, qZ, zK, fixed, zL, wit, Option.isSome_some, qH, evSliceP, evPre, St.with, zE, Array.size, te, einl, inls, efr]
      (first | exact ⟨(), trivial⟩ | refine ⟨(), ?_, trivial⟩ | skip)
    · have q1 := nat_beq hir
      have e1 := rm i _ g1 hir
      have rli := rl i
      generalize M[i] = l at *
      have w0 := line_zero l k
      have wl := line_all l k
      have ll := line_len l k
      have ws := fun x => line_same (l := l) (k := k) (x := x)
      have wm := fun j x => line_more (l := l) (k := k) (j := j) (x := x)
      generalize lineTo l k = lt at *
      simp (maxSteps := 1000000) (implicitDefEqProofs := false) only [a1, a2, a3, g1, q1, grow, encI, Int.natCast_nonneg, Int.toNat_natCast, List.getElem?_map, List.length_map, ss, sd, zI, qG, zG, zH, St.get, qE, qF, qB, zD, norm, look, zF, qA, qI, St.alloc, St.drop, zA, part, zC, depth, qD, ↓reduceIte, Nat.reduceBEq, Nat.reduceAdd, Nat.reduceSub, Nat.reduceMul, Nat.reduceEqDiff, Nat.reduceLeDiff, Nat.reduceLT, qJ, qK, qL, qM, qN, qO, qP, qQ, qR, zJ, qS, qC, qT, evSlice0, qV, qW, qX, qY, qZ, zK, fixed, zL, wit, Option.isSome_some, qH, evSliceP, evPre, St.with, zE, Array.size, te, einl, inls, efr]
      generalize hr : loopAt _ _ _ _ _ _ = r; revert r
      refine loop_nat l.length (fun j _ => [(10, .own 10 0 (lt j).length), (25, .int .i64 (j : Nat))]) (fun j _ => [(10, grow 1 ((lt j).map vI))]) (fun _ (_ : Unit) => True) () (by omega) (by simp (maxSteps := 1000000) (implicitDefEqProofs := false) only [grow, w0, Int.natCast_zero, List.map_nil, List.length_nil, ss, sd, zI, qG, zG, zH, St.get, qE, qF, qB, zD, norm, look, zF, qA, qI, St.alloc, St.drop, zA, part, zC, depth, qD, ↓reduceIte, Nat.reduceBEq, Nat.reduceAdd, Nat.reduceSub, Nat.reduceMul, Nat.reduceEqDiff, Nat.reduceLeDiff, Nat.reduceLT, qJ, qK, qL, qM, qN, qO, qP, qQ, qR, zJ, qS, qC, qT, evSlice0, qV, qW, qX, qY, qZ, zK, fixed, zL, wit, Option.isSome_some, qH, evSliceP, evPre, St.with, zE, Array.size, te, einl, inls, efr]) trivial (fun _ _ => ?_) (fun j _ _ b1 b2 b3 => ?_)
      · have t1 : ((lt l.length).map vI).take (lt l.length).length = (lt l.length).map vI := List.take_of_length_le (by simp)
        have hroom : roomy ((rt i).length + 1) 24 = true := by simp [roomy]; omega
        have hbig : (rt i).length + 1 ≤ 4294967296 := by omega
        have z2 := sized_encI (rt i)
        have e3 : (rt i).map encI ++ [.sl true ((l.eraseIdx k).map vI)] = (rt i ++ [l.eraseIdx k]).map encI := by simp [encI]
        have e4 : (rt i ++ [l.eraseIdx k]).length = (rt i).length + 1 := by simp
        rw [wl] at t1 ⊢
        simp (maxSteps := 1000000) (implicitDefEqProofs := false) only [Int.lt_irrefl, a3, e1, e3, e4, hroom, hbig, z2, grow, t1, List.length_map, ss, sd, zI, qG, zG, zH, St.get, qE, qF, qB, zD, norm, look, zF, qA, qI, St.alloc, St.drop, zA, part, zC, depth, qD, ↓reduceIte, Nat.reduceBEq, Nat.reduceAdd, Nat.reduceSub, Nat.reduceMul, Nat.reduceEqDiff, Nat.reduceLeDiff, Nat.reduceLT, qJ, qK, qL, qM, qN, qO, qP, qQ, qR, zJ, qS, qC, qT, evSlice0, qV, qW, qX, qY, qZ, zK, fixed, zL, wit, Option.isSome_some, qH, evSliceP, evPre, St.with, zE, Array.size, te, einl, inls, efr]
        (first | exact ⟨(), trivial⟩ | refine ⟨(), ?_, trivial⟩ | skip)
      · have g2 : l[j]? = some l[j] := List.getElem?_eq_getElem b1
        by_cases hjk : j = k
        · subst hjk
          have e5 := ws _ g2
          generalize l[j] = n at *
          simp (maxSteps := 1000000) (implicitDefEqProofs := false) only [b1, b2, b3, g2, e5, grow, vI, bne_self_eq_false, Int.natCast_nonneg, Int.toNat_natCast, List.getElem?_map, List.length_map, ss, sd, zI, qG, zG, zH, St.get, qE, qF, qB, zD, norm, look, zF, qA, qI, St.alloc, St.drop, zA, part, zC, depth, qD, ↓reduceIte, Nat.reduceBEq, Nat.reduceAdd, Nat.reduceSub, Nat.reduceMul, Nat.reduceEqDiff, Nat.reduceLeDiff, Nat.reduceLT, qJ, qK, qL, qM, qN, qO, qP, qQ, qR, zJ, qS, qC, qT, evSlice0, qV, qW, qX, qY, qZ, zK, fixed, zL, wit, Option.isSome_some, qH, evSliceP, evPre, St.with, zE, Array.size, te, einl, inls, efr]
          (first | exact ⟨(), trivial⟩ | refine ⟨(), ?_, trivial⟩ | skip)
        · have q2 : (((j : Nat) : Int) != (k : Int)) = true := cast_ne hjk
          have e5 := wm j _ g2 hjk
          have hroom : roomy ((lt j).length + 1) 8 = true := by have := ll j; simp [roomy]; omega
          have hbig : (lt j).length + 1 ≤ 4294967296 := by have := ll j; omega
          have z2 : sized 1 ((lt j).map vI) = true := sized_vI _
          generalize l[j] = n at *
          have e6 : (lt j).map vI ++ [.int .i64 n] = (lt j ++ [n]).map vI := by simp [vI]
          have e7 : (lt j ++ [n]).length = (lt j).length + 1 := by simp
          simp (maxSteps := 1000000) (implicitDefEqProofs := false) only [b1, b2, b3, g2, q2, e5, e6, e7, hroom, hbig, z2, grow, vI, Int.natCast_nonneg, Int.toNat_natCast, List.getElem?_map, List.length_map, ss, sd, zI, qG, zG, zH, St.get, qE, qF, qB, zD, norm, look, zF, qA, qI, St.alloc, St.drop, zA, part, zC, depth, qD, ↓reduceIte, Nat.reduceBEq, Nat.reduceAdd, Nat.reduceSub, Nat.reduceMul, Nat.reduceEqDiff, Nat.reduceLeDiff, Nat.reduceLT, qJ, qK, qL, qM, qN, qO, qP, qQ, qR, zJ, qS, qC, qT, evSlice0, qV, qW, qX, qY, qZ, zK, fixed, zL, wit, Option.isSome_some, qH, evSliceP, evPre, St.with, zE, Array.size, te, einl, inls, efr]
          (first | exact ⟨(), trivial⟩ | refine ⟨(), ?_, trivial⟩ | skip)

theorem minor_in {M : List (List Int)} {r k : Nat} (h : ∀ l ∈ M, ∀ x ∈ l, -20 ≤ x ∧ x ≤ 20) : ∀ l ∈ minorL M r k, ∀ x ∈ l, -20 ≤ x ∧ x ≤ 20 := by
  intro l hl x hx
  obtain ⟨l0, h0, rfl⟩ := List.mem_map.1 hl
  exact h l0 (List.mem_of_mem_eraseIdx h0) x (List.mem_of_mem_eraseIdx hx)
theorem minor_len {M : List (List Int)} {r k : Nat} {n : Nat} (h : ∀ l ∈ M, l.length = n + 1) (hk : k < n + 1) : ∀ l ∈ minorL M r k, l.length = n := by
  intro l hl
  obtain ⟨l0, h0, rfl⟩ := List.mem_map.1 hl
  have := h l0 (List.mem_of_mem_eraseIdx h0)
  rw [List.length_eraseIdx, this, if_pos hk]; omega
theorem sgn_in (i : Nat) : sgn i = 1 ∨ sgn i = -1 := by unfold sgn; split <;> simp
theorem sgn_succ (i : Nat) : sgn (i + 1) = -sgn i := by
  unfold sgn
  by_cases h : i % 2 = 0
  · rw [if_pos h, if_neg (by omega)]
  · rw [if_neg h, if_pos (by omega)]; rfl
theorem mul_ab {a b A B : Int} (h1 : -A ≤ a ∧ a ≤ A) (h2 : -B ≤ b ∧ b ≤ B) : -(A * B) ≤ a * b ∧ a * b ≤ A * B := by
  have e1 := Int.mul_nonneg (a := A - a) (b := B - b) (by omega) (by omega)
  have e2 := Int.mul_nonneg (a := A - a) (b := B + b) (by omega) (by omega)
  have e3 := Int.mul_nonneg (a := A + a) (b := B - b) (by omega) (by omega)
  have e4 := Int.mul_nonneg (a := A + a) (b := B + b) (by omega) (by omega)
  constructor <;> grind
theorem detB_small' : ∀ n, n ≤ 4 → detBound n ≤ 3840000 := by decide
set_option maxRecDepth 20000 in
set_option maxHeartbeats 8000000 in
theorem c88_step (n : Nat) (r : List Int) (rest : List (List Int)) (hn : n + 1 ≤ 4) (hM : (r :: rest).length = n + 1) (hl : ∀ l ∈ r :: rest, l.length = n + 1) (hx : ∀ l ∈ r :: rest, ∀ x ∈ l, -20 ≤ x ∧ x ≤ 20)
    (ih : ∀ M : List (List Int), M.length = n → (∀ l ∈ M, l.length = n) → (∀ l ∈ M, ∀ x ∈ l, -20 ≤ x ∧ x ≤ 20) → (orcω E XS).call 88 [encM false M] = some (.int .i64 (detF n M))) :
    (orcω E XS).call 88 [encM false (r :: rest)] = some (.int .i64 (detF (n + 1) (r :: rest))) := by
  refine call_of rfl fn88 rfl ?_
  have hrl := hl r (by simp)
  have k1 := fun (k : Nat) => c101 (r :: rest) 0 k (by simp at hM ⊢; omega) (fun l h => by rw [hl l h]; omega)
  have em : ∀ k, minorL (r :: rest) 0 k = rest.map fun l => l.eraseIdx k := fun k => rfl
  have k2 := fun (k : Nat) (hk : k < n + 1) => ih (minorL (r :: rest) 0 k) (by rw [em]; simpa using hM) (minor_len hl hk) (minor_in hx)
  have hB := fun (k : Nat) (hk : k < n + 1) => det_in n (minorL (r :: rest) 0 k) (fun l h => by rw [minor_len hl hk l h]; omega) (minor_in hx)
  have hB4 := detB_small' (n + 1) hn
  have hBn : detBound n ≤ 48000 := by
    have h : ∀ n, n ≤ 3 → detBound n ≤ 48000 := by decide
    exact h n (by omega)
  have hlap := lap_in (f := fun k => detF n (minorL (r :: rest) 0 k)) (r := r) (a := 20) (B := 48000) (hx r (by simp)) (by decide) (fun i hi => by have := hB i (by omega); omega)
  have hdet : detF (n + 1) (r :: rest) = lapTo (fun k => detF n (minorL (r :: rest) 0 k)) r r.length := rfl
  have hstep : ∀ i x, r[i]? = some x → lapTo (fun k => detF n (minorL (r :: rest) 0 k)) r (i + 1) = lapTo (fun k => detF n (minorL (r :: rest) 0 k)) r i + sgn i * x * detF n (minorL (r :: rest) 0 i) := by
    intro i x h
    show _ + _ * r.getD i 0 * _ = _
    rw [List.getD_eq_getElem?_getD, h]
    rfl
  have h00 : lapTo (fun k => detF n (minorL (r :: rest) 0 k)) r 0 = 0 := rfl
  have hxr := hx r (by simp)
  rw [hdet]
  clear ih hl hx em hdet
  generalize lapTo (fun k => detF n (minorL (r :: rest) 0 k)) r = lp at *
  generalize minorL (r :: rest) 0 = mn at *
  have p1 : (0 : Int) < (rest.length : Int) + 1 := by omega
  have p2 : (((rest.length : Int) + 1) == 0) = false := by simp; omega
  have s0 : sgn 0 = 1 := rfl
  unfold encM at k1 k2 ⊢
  simp only [List.map_cons, encI, Int.natCast_zero] at k1 k2 ⊢
  simp (maxSteps := 1000000) (implicitDefEqProofs := false) only [Try.ntmps88, Try.results88, efc88, fc88, p1, p2, Int.le_refl, Int.toNat_zero, List.getElem?_cons_zero, List.length_cons, List.length_map, Int.natCast_add, Int.natCast_one, ss, sd, zI, qG, zG, zH, St.get, qE, qF, qB, zD, norm, look, zF, qA, qI, St.alloc, St.drop, zA, part, zC, depth, qD, ↓reduceIte, Nat.reduceBEq, Nat.reduceAdd, Nat.reduceSub, Nat.reduceMul, Nat.reduceEqDiff, Nat.reduceLeDiff, Nat.reduceLT, qJ, qK, qL, qM, qN, qO, qP, qQ, qR, zJ, qS, qC, qT, evSlice0, qV, qW, qX, qY, qZ, zK, fixed, zL, wit, Option.isSome_some, qH, evSliceP, evPre, St.with, zE, Array.size, te, einl, inls, efr]
  generalize hr : loopAt _ _ _ _ _ _ = r; revert r
  refine loop_nat r.length (fun i _ => [(3, .int .i64 (lp i)), (4, .int .i64 (sgn i)), (14, .int .i64 (i : Nat))]) (fun _ _ => []) (fun _ (_ : Unit) => True) () (by omega) (by simp (maxSteps := 1000000) (implicitDefEqProofs := false) only [h00, s0, Int.natCast_zero, ss, sd, zI, qG, zG, zH, St.get, qE, qF, qB, zD, norm, look, zF, qA, qI, St.alloc, St.drop, zA, part, zC, depth, qD, ↓reduceIte, Nat.reduceBEq, Nat.reduceAdd, Nat.reduceSub, Nat.reduceMul, Nat.reduceEqDiff, Nat.reduceLeDiff, Nat.reduceLT, qJ, qK, qL, qM, qN, qO, qP, qQ, qR, zJ, qS, qC, qT, evSlice0, qV, qW, qX, qY, qZ, zK, fixed, zL, wit, Option.isSome_some, qH, evSliceP, evPre, St.with, zE, Array.size, te, einl, inls, efr]) trivial (fun _ _ => ?_) (fun i _ _ a1 a2 a3 => ?_)
  · simp (maxSteps := 1000000) (implicitDefEqProofs := false) only [Int.lt_irrefl, List.length_map, Try.ntmps88, Try.results88, efc88, fc88, ss, sd, zI, qG, zG, zH, St.get, qE, qF, qB, zD, norm, look, zF, qA, qI, St.alloc, St.drop, zA, part, zC, depth, qD, ↓reduceIte, Nat.reduceBEq, Nat.reduceAdd, Nat.reduceSub, Nat.reduceMul, Nat.reduceEqDiff, Nat.reduceLeDiff, Nat.reduceLT, qJ, qK, qL, qM, qN, qO, qP, qQ, qR, zJ, qS, qC, qT, evSlice0, qV, qW, qX, qY, qZ, zK, fixed, zL, wit, Option.isSome_some, qH, evSliceP, evPre, St.with, zE, Array.size, te, einl, inls, efr]
  · have g1 : r[i]? = some r[i] := List.getElem?_eq_getElem a1
    have b1 := hxr r[i] (List.getElem_mem _)
    have e1 := hstep i _ g1
    have k1 := k1 i
    have k2 := k2 i (by omega)
    have b2 := hB i (by omega)
    have b3 := hlap i (by omega)
    have b4 := hlap (i + 1) (by omega)
    have ss := sgn_succ i
    have b5 := sgn_in i
    generalize r[i] = x at *
    generalize mn i = mi at *
    generalize detF n mi = d at *
    generalize sgn (i + 1) = s1 at *
    generalize sgn i = s at *
    generalize lp (i + 1) = l1 at *
    generalize lp i = l0 at *
    subst ss
    have w1 : IntKind.i64.wrap (0 - s) = -s := by rw [wrap_in (by omega)]; omega
    by_cases h0 : x = 0
    · subst h0
      have e2 : l1 = l0 := by rw [e1]; simp
      subst e2
      simp (maxSteps := 1000000) (implicitDefEqProofs := false) only [a1, a2, a3, g1, w1, vI, bne_self_eq_false, Int.natCast_nonneg, Int.toNat_natCast, List.getElem?_map, List.length_map, ss, sd, zI, qG, zG, zH, St.get, qE, qF, qB, zD, norm, look, zF, qA, qI, St.alloc, St.drop, zA, part, zC, depth, qD, ↓reduceIte, Nat.reduceBEq, Nat.reduceAdd, Nat.reduceSub, Nat.reduceMul, Nat.reduceEqDiff, Nat.reduceLeDiff, Nat.reduceLT, qJ, qK, qL, qM, qN, qO, qP, qQ, qR, zJ, qS, qC, qT, evSlice0, qV, qW, qX, qY, qZ, zK, fixed, zL, wit, Option.isSome_some, qH, evSliceP, evPre, St.with, zE, Array.size, te, einl, inls, efr]
      (first | exact ⟨(), trivial⟩ | refine ⟨(), ?_, trivial⟩ | skip)
    · have q1 : (x != 0) = true := by simpa using h0
      have b6 : -20 ≤ s * x ∧ s * x ≤ 20 := by rcases b5 with h | h <;> subst h <;> omega
      have b7 := mul_ab b6 (show -48000 ≤ d ∧ d ≤ 48000 by omega)
      have w2 : IntKind.i64.wrap (s * x) = s * x := wrap_in (by omega)
      have w3 : IntKind.i64.wrap (s * x * d) = s * x * d := wrap_in (by omega)
      have w4 : IntKind.i64.wrap (l0 + s * x * d) = l1 := by rw [← e1]; exact wrap_in (by omega)
      simp (maxSteps := 1000000) (implicitDefEqProofs := false) only [a1, a2, a3, g1, w1, w2, w3, w4, q1, k1, k2, vI, Int.natCast_nonneg, Int.toNat_natCast, List.getElem?_map, List.length_map, ss, sd, zI, qG, zG, zH, St.get, qE, qF, qB, zD, norm, look, zF, qA, qI, St.alloc, St.drop, zA, part, zC, depth, qD, ↓reduceIte, Nat.reduceBEq, Nat.reduceAdd, Nat.reduceSub, Nat.reduceMul, Nat.reduceEqDiff, Nat.reduceLeDiff, Nat.reduceLT, qJ, qK, qL, qM, qN, qO, qP, qQ, qR, zJ, qS, qC, qT, evSlice0, qV, qW, qX, qY, qZ, zK, fixed, zL, wit, Option.isSome_some, qH, evSliceP, evPre, St.with, zE, Array.size, te, einl, inls, efr]
      (first | exact ⟨(), trivial⟩ | refine ⟨(), ?_, trivial⟩ | skip)
theorem c88 : ∀ (n : Nat) (M : List (List Int)), n ≤ 4 → M.length = n → (∀ l ∈ M, l.length = n) → (∀ l ∈ M, ∀ x ∈ l, -20 ≤ x ∧ x ≤ 20) → (orcω E XS).call 88 [encM false M] = some (.int .i64 (detF n M))
  | 0, M, _, hM, _, _ => by
    obtain rfl : M = [] := List.length_eq_zero_iff.1 hM
    refine call_of rfl fn88 rfl ?_
    simp (maxSteps := 1000000) (implicitDefEqProofs := false) only [Try.ntmps88, Try.results88, efc88, fc88, encM, detF, beq_self_eq_true, List.map_nil, List.length_nil, ss, sd, zI, qG, zG, zH, St.get, qE, qF, qB, zD, norm, look, zF, qA, qI, St.alloc, St.drop, zA, part, zC, depth, qD, ↓reduceIte, Nat.reduceBEq, Nat.reduceAdd, Nat.reduceSub, Nat.reduceMul, Nat.reduceEqDiff, Nat.reduceLeDiff, Nat.reduceLT, qJ, qK, qL, qM, qN, qO, qP, qQ, qR, zJ, qS, qC, qT, evSlice0, qV, qW, qX, qY, qZ, zK, fixed, zL, wit, Option.isSome_some, qH, evSliceP, evPre, St.with, zE, Array.size, te, einl, inls, efr]
  | n + 1, [], _, hM, _, _ => by simp at hM
  | n + 1, r :: rest, hn, hM, hl, hx => c88_step n r rest hn hM hl hx fun M h1 h2 h3 => c88 n M (by omega) h1 h2 h3
end Go.AM.E

