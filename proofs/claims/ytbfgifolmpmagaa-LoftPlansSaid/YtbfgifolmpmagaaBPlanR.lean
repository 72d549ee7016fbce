/-
Pieces of the reference's plan: the order, sets with one more number, a load of goods alone.
-/
import Derived.Test.YtbfgifolmpmagaaBPlanP
import Derived.Test.YtbfgifolmpmagaaBLarge
set_option linter.unusedVariables false
set_option linter.unusedSimpArgs false

namespace Go.AM.B
open Go Go.AM Go.Proofs

theorem ixs_len (n : Nat) : (ixs n).length = n := by simp [ixs]
theorem ixs_succ (n : Nat) : ixs (n + 1) = ixs n ++ [(n : Int)] := by simp [ixs, List.range_succ]
theorem ixs_up (n : Nat) : (ixs n).Pairwise (fun a b => a < b) := by
  unfold ixs
  refine List.Pairwise.map _ ?_ List.pairwise_lt_range
  intro a b h
  omega
def dueN (gs : List Goods) (n : Int) : Int := (goodAt gs n).due
theorem order_by {gs : List Goods} (hg : ∀ g ∈ gs, goodsOk g = true) : orderM gs = byKey (dueN gs) (ixs 61) (ixs gs.length) := by
  refine byKey_sort (ixs_up 61) _ fun x hx => ?_
  have h1 := ixs_mem.1 hx
  have := goodsOk_iff.1 (hg _ (goodAt_mem h1))
  exact ixs_mem.2 (by omega)
theorem byKey_succ {gs : List Goods} (d : Nat) (l : List Int) : byKey (dueN gs) (ixs (d + 1)) l = byKey (dueN gs) (ixs d) l ++ l.filter (fun x => dueN gs x == (d : Int)) := by
  unfold byKey
  rw [ixs_succ, List.flatMap_append]
  simp

set_option maxHeartbeats 8000000 in
theorem c102 (gs : List Goods) (hg : ∀ g ∈ gs, goodsOk g = true) (hm : gs.length ≤ 1000) : (orcω E X0).call 102 [.sl false (gs.map encG)] = some (.sl true ((orderM gs).map vI)) := by
  refine call_of rfl fn102 rfl ?_
  rw [order_by hg]
  simp (maxSteps := 1000000) (implicitDefEqProofs := false) only [Try.ntmps102, Try.results102, efc102, fc102, ss, List.replicate, zH, qG, zF, zG, St.eval, St.put, St.get, constV, List.set, lenV, qE, qF, qB, zC, norm, xQ, look, xP, xX, zO, zM, zE, zN, qA, qI, St.alloc, St.drop, killL, kill, xU, xV, zA, upd, cells?, part, retag, xT, putIn, refFree, xR, isNew, xS, Ty.isAgg, zB, idsL, ids, idsLL, reach, depth, St.dropL, qD, resultV, ↓reduceIte, Nat.reduceBEq, Nat.reduceAdd, Nat.reduceSub, Nat.reduceMul, Nat.reduceEqDiff, Nat.reduceLeDiff, Nat.reduceLT, qJ, qK, zV, zW, qL, qM, qN, qO, Eff.ap, qP, qQ, xW, qR, zI, onto, dropO, xA, sized, zP, eqT, eqG, minV, evUn, qS, zQ, zR, zS, qC, qT, upO, evSlice0, optInt, xC, qV, xD, del, xB, plain, plainL, zY, zZ, zT, qW, zU, zX, xY, qX, qY, qZ, xE, zJ, zK, zL, xF, xG, wit, xH, Option.isSome_some, xI, qH, xJ, evPre, St.with, xK, xL, zD, xM, xN, xO, Array.size, te, einl, inls, efr]
  generalize hr : loopAt _ _ _ _ _ _ = r; revert r
  refine loop_inv (ι := { d : Nat // d ≤ 61 }) (fun d => [(3, .own 3 0 (byKey (dueN gs) (ixs d.1) (ixs gs.length)).length), (4, .int .i64 d.1)]) (fun d => [(3, { es := 1, flat := true, t := true, app := true, elems := (byKey (dueN gs) (ixs d.1) (ixs gs.length)).map vI })]) (fun d => 61 - d.1) ⟨0, by omega⟩ (by simp (maxSteps := 1000000) (implicitDefEqProofs := false) only [byKey, ixs, List.range_zero, List.map_nil, List.flatMap_nil, List.length_nil, Int.natCast_zero, ss, List.replicate, zH, qG, zF, zG, St.eval, St.put, St.get, constV, List.set, lenV, qE, qF, qB, zC, norm, xQ, look, xP, xX, zO, zM, zE, zN, qA, qI, St.alloc, St.drop, killL, kill, xU, xV, zA, upd, cells?, part, retag, xT, putIn, refFree, xR, isNew, xS, Ty.isAgg, zB, idsL, ids, idsLL, reach, depth, St.dropL, qD, resultV, ↓reduceIte, Nat.reduceBEq, Nat.reduceAdd, Nat.reduceSub, Nat.reduceMul, Nat.reduceEqDiff, Nat.reduceLeDiff, Nat.reduceLT, qJ, qK, zV, zW, qL, qM, qN, qO, Eff.ap, qP, qQ, xW, qR, zI, onto, dropO, xA, sized, zP, eqT, eqG, minV, evUn, qS, zQ, zR, zS, qC, qT, upO, evSlice0, optInt, xC, qV, xD, del, xB, plain, plainL, zY, zZ, zT, qW, zU, zX, xY, qX, qY, qZ, xE, zJ, zK, zL, xF, xG, wit, xH, Option.isSome_some, xI, qH, xJ, evPre, St.with, xK, xL, zD, xM, xN, xO, Array.size, te, einl, inls, efr]) ?_
  rintro ⟨d, hd⟩
  dsimp only
  by_cases hlt : (d : Int) ≤ 60
  case neg =>
    obtain rfl : d = 61 := by omega
    simp (maxSteps := 1000000) (implicitDefEqProofs := false) only [hlt, Try.ntmps102, Try.results102, efc102, fc102, List.length_map, ss, List.replicate, zH, qG, zF, zG, St.eval, St.put, St.get, constV, List.set, lenV, qE, qF, qB, zC, norm, xQ, look, xP, xX, zO, zM, zE, zN, qA, qI, St.alloc, St.drop, killL, kill, xU, xV, zA, upd, cells?, part, retag, xT, putIn, refFree, xR, isNew, xS, Ty.isAgg, zB, idsL, ids, idsLL, reach, depth, St.dropL, qD, resultV, ↓reduceIte, Nat.reduceBEq, Nat.reduceAdd, Nat.reduceSub, Nat.reduceMul, Nat.reduceEqDiff, Nat.reduceLeDiff, Nat.reduceLT, qJ, qK, zV, zW, qL, qM, qN, qO, Eff.ap, qP, qQ, xW, qR, zI, onto, dropO, xA, sized, zP, eqT, eqG, minV, evUn, qS, zQ, zR, zS, qC, qT, upO, evSlice0, optInt, xC, qV, xD, del, xB, plain, plainL, zY, zZ, zT, qW, zU, zX, xY, qX, qY, qZ, xE, zJ, zK, zL, xF, xG, wit, xH, Option.isSome_some, xI, qH, xJ, evPre, St.with, xK, xL, zD, xM, xN, xO, Array.size, te, einl, inls, efr]
  case pos =>
  have w1 : IntKind.i64.wrap ((d : Int) + 1) = ((d + 1 : Nat) : Int) := by rw [wrap_in (by omega)]; omega
  have bs := byKey_succ (gs := gs) d (ixs gs.length)
  have bl : (byKey (dueN gs) (ixs d) (ixs gs.length)).length ≤ gs.length := by
    have h1 : byKey (dueN gs) (ixs d) (ixs gs.length) = (ixs d).flatMap fun d => (ixs gs.length).filter fun x => dueN gs x == d := rfl
    have h2 : (orderM gs).length = gs.length := order_len gs
    rw [order_by hg] at h2
    have h3 : ∀ (a b : Nat), (byKey (dueN gs) (ixs a) (ixs gs.length)).length ≤ (byKey (dueN gs) (ixs (a + b)) (ixs gs.length)).length := by
      intro a b
      induction b with
      | zero => exact Nat.le_refl _
      | succ b ih =>
        rw [← Nat.add_assoc, byKey_succ, List.length_append]
        omega
    have := h3 d (61 - d)
    rw [show d + (61 - d) = 61 by omega] at this
    omega
  generalize byKey (dueN gs) (ixs d) (ixs gs.length) = Bd at *
  simp (maxSteps := 1000000) (implicitDefEqProofs := false) only [hlt, ss, List.replicate, zH, qG, zF, zG, St.eval, St.put, St.get, constV, List.set, lenV, qE, qF, qB, zC, norm, xQ, look, xP, xX, zO, zM, zE, zN, qA, qI, St.alloc, St.drop, killL, kill, xU, xV, zA, upd, cells?, part, retag, xT, putIn, refFree, xR, isNew, xS, Ty.isAgg, zB, idsL, ids, idsLL, reach, depth, St.dropL, qD, resultV, ↓reduceIte, Nat.reduceBEq, Nat.reduceAdd, Nat.reduceSub, Nat.reduceMul, Nat.reduceEqDiff, Nat.reduceLeDiff, Nat.reduceLT, qJ, qK, zV, zW, qL, qM, qN, qO, Eff.ap, qP, qQ, xW, qR, zI, onto, dropO, xA, sized, zP, eqT, eqG, minV, evUn, qS, zQ, zR, zS, qC, qT, upO, evSlice0, optInt, xC, qV, xD, del, xB, plain, plainL, zY, zZ, zT, qW, zU, zX, xY, qX, qY, qZ, xE, zJ, zK, zL, xF, xG, wit, xH, Option.isSome_some, xI, qH, xJ, evPre, St.with, xK, xL, zD, xM, xN, xO, Array.size, te, einl, inls, efr]
  generalize hr : loopAt _ _ _ _ _ _ = r; revert r
  refine loop_list gs (fun pre _ => [(3, .own 3 0 (Bd ++ (ixs pre.length).filter (fun x => dueN gs x == (d : Int))).length), (5, .int .i64 pre.length)]) (fun pre _ => [(3, { es := 1, flat := true, t := true, app := true, elems := (Bd ++ (ixs pre.length).filter (fun x => dueN gs x == (d : Int))).map vI })]) (fun _ (_ : Unit) => True) () (by omega) (by simp (maxSteps := 1000000) (implicitDefEqProofs := false) only [ixs, List.range_zero, List.map_nil, List.filter_nil, List.append_nil, List.length_nil, Int.natCast_zero, ss, List.replicate, zH, qG, zF, zG, St.eval, St.put, St.get, constV, List.set, lenV, qE, qF, qB, zC, norm, xQ, look, xP, xX, zO, zM, zE, zN, qA, qI, St.alloc, St.drop, killL, kill, xU, xV, zA, upd, cells?, part, retag, xT, putIn, refFree, xR, isNew, xS, Ty.isAgg, zB, idsL, ids, idsLL, reach, depth, St.dropL, qD, resultV, ↓reduceIte, Nat.reduceBEq, Nat.reduceAdd, Nat.reduceSub, Nat.reduceMul, Nat.reduceEqDiff, Nat.reduceLeDiff, Nat.reduceLT, qJ, qK, zV, zW, qL, qM, qN, qO, Eff.ap, qP, qQ, xW, qR, zI, onto, dropO, xA, sized, zP, eqT, eqG, minV, evUn, qS, zQ, zR, zS, qC, qT, upO, evSlice0, optInt, xC, qV, xD, del, xB, plain, plainL, zY, zZ, zT, qW, zU, zX, xY, qX, qY, qZ, xE, zJ, zK, zL, xF, xG, wit, xH, Option.isSome_some, xI, qH, xJ, evPre, St.with, xK, xL, zD, xM, xN, xO, Array.size, te, einl, inls, efr]) trivial (fun _ _ => ?_) (fun pre x post _ hq _ g1 g2 g3 g4 => ?_)
  · rw [← bs]
    simp (maxSteps := 1000000) (implicitDefEqProofs := false) only [Int.lt_irrefl, w1, List.length_map, ss, List.replicate, zH, qG, zF, zG, St.eval, St.put, St.get, constV, List.set, lenV, qE, qF, qB, zC, norm, xQ, look, xP, xX, zO, zM, zE, zN, qA, qI, St.alloc, St.drop, killL, kill, xU, xV, zA, upd, cells?, part, retag, xT, putIn, refFree, xR, isNew, xS, Ty.isAgg, zB, idsL, ids, idsLL, reach, depth, St.dropL, qD, resultV, ↓reduceIte, Nat.reduceBEq, Nat.reduceAdd, Nat.reduceSub, Nat.reduceMul, Nat.reduceEqDiff, Nat.reduceLeDiff, Nat.reduceLT, qJ, qK, zV, zW, qL, qM, qN, qO, Eff.ap, qP, qQ, xW, qR, zI, onto, dropO, xA, sized, zP, eqT, eqG, minV, evUn, qS, zQ, zR, zS, qC, qT, upO, evSlice0, optInt, xC, qV, xD, del, xB, plain, plainL, zY, zZ, zT, qW, zU, zX, xY, qX, qY, qZ, xE, zJ, zK, zL, xF, xG, wit, xH, Option.isSome_some, xI, qH, xJ, evPre, St.with, xK, xL, zD, xM, xN, xO, Array.size, te, einl, inls, efr]
    exact ⟨⟨d + 1, by omega⟩, rfl, by dsimp only; omega⟩
  · have e0 : dueN gs (pre.length : Int) = x.due := by
      unfold dueN goodAt
      rw [Int.toNat_natCast, g3]
      rfl
    have fl : ((ixs pre.length).filter (fun x => dueN gs x == (d : Int))).length ≤ pre.length := by
      have := List.length_filter_le (fun x => dueN gs x == (d : Int)) (ixs pre.length)
      rwa [ixs_len] at this
    have e1 : (ixs (pre ++ [x]).length).filter (fun x => dueN gs x == (d : Int)) = (ixs pre.length).filter (fun x => dueN gs x == (d : Int)) ++ (if (x.due == (d : Int)) = true then [(pre.length : Int)] else []) := by
      rw [List.length_append, List.length_singleton, ixs_succ, List.filter_append, List.filter_cons, e0]
      rfl
    rw [e1]
    generalize (ixs pre.length).filter (fun x => dueN gs x == (d : Int)) = Fd at *
    cases hc : (x.due == (d : Int)) with
    | false =>
      simp (maxSteps := 1000000) (implicitDefEqProofs := false) only [g1, g2, g3, g4, hc, encG, Int.natCast_nonneg, Int.toNat_natCast, List.getElem?_map, List.length_map, Bool.false_eq_true, ↓reduceIte, List.append_nil, ss, List.replicate, zH, qG, zF, zG, St.eval, St.put, St.get, constV, List.set, lenV, qE, qF, qB, zC, norm, xQ, look, xP, xX, zO, zM, zE, zN, qA, qI, St.alloc, St.drop, killL, kill, xU, xV, zA, upd, cells?, part, retag, xT, putIn, refFree, xR, isNew, xS, Ty.isAgg, zB, idsL, ids, idsLL, reach, depth, St.dropL, qD, resultV, ↓reduceIte, Nat.reduceBEq, Nat.reduceAdd, Nat.reduceSub, Nat.reduceMul, Nat.reduceEqDiff, Nat.reduceLeDiff, Nat.reduceLT, qJ, qK, zV, zW, qL, qM, qN, qO, Eff.ap, qP, qQ, xW, qR, zI, onto, dropO, xA, sized, zP, eqT, eqG, minV, evUn, qS, zQ, zR, zS, qC, qT, upO, evSlice0, optInt, xC, qV, xD, del, xB, plain, plainL, zY, zZ, zT, qW, zU, zX, xY, qX, qY, qZ, xE, zJ, zK, zL, xF, xG, wit, xH, Option.isSome_some, xI, qH, xJ, evPre, St.with, xK, xL, zD, xM, xN, xO, Array.size, te, einl, inls, efr]
      exact ⟨(), trivial⟩
    | true =>
      have hroom : roomy ((Bd ++ Fd).length + 1) 8 = true := by simp [roomy]; omega
      have hbig : (Bd ++ Fd).length + 1 ≤ 4294967296 := by simp; omega
      have e2 : (Bd ++ Fd).map vI ++ [.int .i64 (pre.length : Int)] = (Bd ++ (Fd ++ [(pre.length : Int)])).map vI := by simp [vI_def]
      have e3 : (Bd ++ Fd).length + 1 = (Bd ++ (Fd ++ [(pre.length : Int)])).length := by simp <;> omega
      rw [e3] at hroom hbig
      simp (maxSteps := 1000000) (implicitDefEqProofs := false) only [g1, g2, g3, g4, hc, hroom, hbig, e2, e3, encG, Int.natCast_nonneg, Int.toNat_natCast, List.getElem?_map, List.length_map, ↓reduceIte, ss, List.replicate, zH, qG, zF, zG, St.eval, St.put, St.get, constV, List.set, lenV, qE, qF, qB, zC, norm, xQ, look, xP, xX, zO, zM, zE, zN, qA, qI, St.alloc, St.drop, killL, kill, xU, xV, zA, upd, cells?, part, retag, xT, putIn, refFree, xR, isNew, xS, Ty.isAgg, zB, idsL, ids, idsLL, reach, depth, St.dropL, qD, resultV, ↓reduceIte, Nat.reduceBEq, Nat.reduceAdd, Nat.reduceSub, Nat.reduceMul, Nat.reduceEqDiff, Nat.reduceLeDiff, Nat.reduceLT, qJ, qK, zV, zW, qL, qM, qN, qO, Eff.ap, qP, qQ, xW, qR, zI, onto, dropO, xA, sized, zP, eqT, eqG, minV, evUn, qS, zQ, zR, zS, qC, qT, upO, evSlice0, optInt, xC, qV, xD, del, xB, plain, plainL, zY, zZ, zT, qW, zU, zX, xY, qX, qY, qZ, xE, zJ, zK, zL, xF, xG, wit, xH, Option.isSome_some, xI, qH, xJ, evPre, St.with, xK, xL, zD, xM, xN, xO, Array.size, te, einl, inls, efr]
      exact ⟨(), trivial⟩

theorem put_at {n : Int} : ∀ (k : Nat) (l : List Int), k ≤ l.length → (∀ x ∈ l.take k, x < n) → (∀ y, l[k]? = some y → ¬ y < n) → putM l n = l.take k ++ n :: l.drop k
  | 0, [], _, _, _ => rfl
  | 0, y :: l, _, _, h => by
    rw [putM, if_neg (h y rfl)]
    rfl
  | k + 1, [], h, _, _ => by cases h
  | k + 1, y :: l, hk, h1, h2 => by
    rw [putM, if_pos (h1 y (by simp)), put_at k l (by simpa using hk) (fun x hx => h1 x (by simp [hx])) (fun z hz => h2 z (by simpa using hz))]
    rfl

set_option maxHeartbeats 8000000 in
theorem c103 (l : List Int) (n : Int) (hn : l.length ≤ 1000000) : (orcω E X0).call 103 [.sl false (l.map vI), .int .i64 n] = some (.sl false ((putM l n).map vI)) := by
  refine call_of rfl fn103 rfl ?_
  simp (maxSteps := 1000000) (implicitDefEqProofs := false) only [Try.ntmps103, Try.results103, efc103, fc103, ss, List.replicate, zH, qG, zF, zG, St.eval, St.put, St.get, constV, List.set, lenV, qE, qF, qB, zC, norm, xQ, look, xP, xX, zO, zM, zE, zN, qA, qI, St.alloc, St.drop, killL, kill, xU, xV, zA, upd, cells?, part, retag, xT, putIn, refFree, xR, isNew, xS, Ty.isAgg, zB, idsL, ids, idsLL, reach, depth, St.dropL, qD, resultV, ↓reduceIte, Nat.reduceBEq, Nat.reduceAdd, Nat.reduceSub, Nat.reduceMul, Nat.reduceEqDiff, Nat.reduceLeDiff, Nat.reduceLT, qJ, qK, zV, zW, qL, qM, qN, qO, Eff.ap, qP, qQ, xW, qR, zI, onto, dropO, xA, sized, zP, eqT, eqG, minV, evUn, qS, zQ, zR, zS, qC, qT, upO, evSlice0, optInt, xC, qV, xD, del, xB, plain, plainL, zY, zZ, zT, qW, zU, zX, xY, qX, qY, qZ, xE, zJ, zK, zL, xF, xG, wit, xH, Option.isSome_some, xI, qH, xJ, evPre, St.with, xK, xL, zD, xM, xN, xO, Array.size, te, einl, inls, efr]
  generalize hr : loopAt _ _ _ _ _ _ = r; revert r
  refine loop_inv (ι := { i : Nat // i ≤ l.length ∧ ∀ x ∈ l.take i, x < n }) (fun i => [(5, .own 5 0 i.1), (6, .int .i64 i.1)]) (fun i => [(5, { es := 1, flat := true, t := true, app := true, elems := (l.take i.1).map vI })]) (fun i => l.length - i.1) ⟨0, Nat.zero_le _, by simp⟩ (by simp (maxSteps := 1000000) (implicitDefEqProofs := false) only [List.take_zero, List.map_nil, Int.natCast_zero, ss, List.replicate, zH, qG, zF, zG, St.eval, St.put, St.get, constV, List.set, lenV, qE, qF, qB, zC, norm, xQ, look, xP, xX, zO, zM, zE, zN, qA, qI, St.alloc, St.drop, killL, kill, xU, xV, zA, upd, cells?, part, retag, xT, putIn, refFree, xR, isNew, xS, Ty.isAgg, zB, idsL, ids, idsLL, reach, depth, St.dropL, qD, resultV, ↓reduceIte, Nat.reduceBEq, Nat.reduceAdd, Nat.reduceSub, Nat.reduceMul, Nat.reduceEqDiff, Nat.reduceLeDiff, Nat.reduceLT, qJ, qK, zV, zW, qL, qM, qN, qO, Eff.ap, qP, qQ, xW, qR, zI, onto, dropO, xA, sized, zP, eqT, eqG, minV, evUn, qS, zQ, zR, zS, qC, qT, upO, evSlice0, optInt, xC, qV, xD, del, xB, plain, plainL, zY, zZ, zT, qW, zU, zX, xY, qX, qY, qZ, xE, zJ, zK, zL, xF, xG, wit, xH, Option.isSome_some, xI, qH, xJ, evPre, St.with, xK, xL, zD, xM, xN, xO, Array.size, te, einl, inls, efr]) ?_
  rintro ⟨k, hk, hb⟩
  dsimp only
  have hroom : roomy (k + 1) 8 = true := by simp [roomy]; omega
  have hbig : k + 1 ≤ 4294967296 := by omega
  have tl : ((l.take k).map vI).length = k := by rw [List.length_map, List.length_take]; omega
  have tl2 : (l.take k).length = k := by rw [List.length_take]; omega
  have w1 : IntKind.i64.wrap ((k : Int) + 1) = ((k + 1 : Nat) : Int) := by rw [wrap_in (by omega)]; omega
  have m1 : ((l.length : Int) - (k : Int)).toNat = l.length - k := by omega
  have m2 : (k : Int) ≤ (l.length : Int) := by omega
  have m3 : ((l.map vI).drop k).take (l.length - k) = (l.drop k).map vI := by rw [← List.map_drop]; exact List.take_of_length_le (by simp)
  have m4 : (l.drop k).length = l.length - k := List.length_drop
  have hroom2 : roomy (k + 1 + (l.length - k)) 8 = true := by simp [roomy]; omega
  have hbig2 : k + 1 + (l.length - k) ≤ 4294967296 := by omega
  have e8 : (l.take k).map vI ++ [.int .i64 n] = (l.take k ++ [n]).map vI := by simp [vI_def]
  have e7 : (l.take k ++ [n]).length = k + 1 := by simp [tl2]
  have e9 : (l.take k ++ [n]).map vI ++ (l.drop k).map vI = (l.take k ++ n :: l.drop k).map vI := by simp
  have e10 : (l.take k ++ n :: l.drop k).length = k + 1 + (l.length - k) := by rw [List.length_append, List.length_cons, tl2, m4]; omega
  by_cases hlt : (k : Int) < l.length
  case pos =>
    have hlt' : k < l.length := by omega
    have gx : l[k]? = some l[k] := List.getElem?_eq_getElem hlt'
    by_cases hx : l[k] < n
    · have e1 : (l.take k).map vI ++ [.int .i64 l[k]] = (l.take (k + 1)).map vI := by rw [List.take_succ_eq_append_getElem hlt', List.map_append]; rfl
      simp (maxSteps := 1000000) (implicitDefEqProofs := false) only [hlt, hlt', gx, hx, e1, tl2, hroom, hbig, w1, vI_def, Int.natCast_nonneg, Int.toNat_natCast, List.getElem?_map, List.length_map, ss, List.replicate, zH, qG, zF, zG, St.eval, St.put, St.get, constV, List.set, lenV, qE, qF, qB, zC, norm, xQ, look, xP, xX, zO, zM, zE, zN, qA, qI, St.alloc, St.drop, killL, kill, xU, xV, zA, upd, cells?, part, retag, xT, putIn, refFree, xR, isNew, xS, Ty.isAgg, zB, idsL, ids, idsLL, reach, depth, St.dropL, qD, resultV, ↓reduceIte, Nat.reduceBEq, Nat.reduceAdd, Nat.reduceSub, Nat.reduceMul, Nat.reduceEqDiff, Nat.reduceLeDiff, Nat.reduceLT, qJ, qK, zV, zW, qL, qM, qN, qO, Eff.ap, qP, qQ, xW, qR, zI, onto, dropO, xA, sized, zP, eqT, eqG, minV, evUn, qS, zQ, zR, zS, qC, qT, upO, evSlice0, optInt, xC, qV, xD, del, xB, plain, plainL, zY, zZ, zT, qW, zU, zX, xY, qX, qY, qZ, xE, zJ, zK, zL, xF, xG, wit, xH, Option.isSome_some, xI, qH, xJ, evPre, St.with, xK, xL, zD, xM, xN, xO, Array.size, te, einl, inls, efr]
      refine ⟨⟨k + 1, hlt', fun x hx2 => ?_⟩, rfl, by dsimp only; omega⟩
      rw [List.take_succ_eq_append_getElem hlt', List.mem_append] at hx2
      rcases hx2 with h | h
      · exact hb x h
      · rw [List.mem_singleton.1 h]; exact hx
    · have e1 := put_at (n := n) k l hk hb (fun y hy => by rw [gx] at hy; cases hy; exact hx)
      rw [e1]
      simp (maxSteps := 1000000) (implicitDefEqProofs := false) only [hlt, hlt', gx, hx, tl2, m1, m2, m3, m4, hroom, hbig, hroom2, hbig2, e7, e8, e9, Int.le_refl, and_self, vI_def, Try.ntmps103, Try.results103, efc103, fc103, Int.natCast_nonneg, Int.toNat_natCast, List.getElem?_map, List.length_map, ss, List.replicate, zH, qG, zF, zG, St.eval, St.put, St.get, constV, List.set, lenV, qE, qF, qB, zC, norm, xQ, look, xP, xX, zO, zM, zE, zN, qA, qI, St.alloc, St.drop, killL, kill, xU, xV, zA, upd, cells?, part, retag, xT, putIn, refFree, xR, isNew, xS, Ty.isAgg, zB, idsL, ids, idsLL, reach, depth, St.dropL, qD, resultV, ↓reduceIte, Nat.reduceBEq, Nat.reduceAdd, Nat.reduceSub, Nat.reduceMul, Nat.reduceEqDiff, Nat.reduceLeDiff, Nat.reduceLT, qJ, qK, zV, zW, qL, qM, qN, qO, Eff.ap, qP, qQ, xW, qR, zI, onto, dropO, xA, sized, zP, eqT, eqG, minV, evUn, qS, zQ, zR, zS, qC, qT, upO, evSlice0, optInt, xC, qV, xD, del, xB, plain, plainL, zY, zZ, zT, qW, zU, zX, xY, qX, qY, qZ, xE, zJ, zK, zL, xF, xG, wit, xH, Option.isSome_some, xI, qH, xJ, evPre, St.with, xK, xL, zD, xM, xN, xO, Array.size, te, einl, inls, efr]
      rw [if_pos (by omega), List.take_of_length_le (by rw [List.length_map]; omega)]
  case neg =>
    have e1 := put_at (n := n) k l hk hb (fun y hy => by rw [List.getElem?_eq_none (by omega)] at hy; cases hy)
    rw [e1]
    simp (maxSteps := 1000000) (implicitDefEqProofs := false) only [hlt, tl2, m1, m2, m3, m4, hroom, hbig, hroom2, hbig2, e7, e8, e9, Int.le_refl, and_self, vI_def, Try.ntmps103, Try.results103, efc103, fc103, Int.natCast_nonneg, Int.toNat_natCast, List.getElem?_map, List.length_map, ss, List.replicate, zH, qG, zF, zG, St.eval, St.put, St.get, constV, List.set, lenV, qE, qF, qB, zC, norm, xQ, look, xP, xX, zO, zM, zE, zN, qA, qI, St.alloc, St.drop, killL, kill, xU, xV, zA, upd, cells?, part, retag, xT, putIn, refFree, xR, isNew, xS, Ty.isAgg, zB, idsL, ids, idsLL, reach, depth, St.dropL, qD, resultV, ↓reduceIte, Nat.reduceBEq, Nat.reduceAdd, Nat.reduceSub, Nat.reduceMul, Nat.reduceEqDiff, Nat.reduceLeDiff, Nat.reduceLT, qJ, qK, zV, zW, qL, qM, qN, qO, Eff.ap, qP, qQ, xW, qR, zI, onto, dropO, xA, sized, zP, eqT, eqG, minV, evUn, qS, zQ, zR, zS, qC, qT, upO, evSlice0, optInt, xC, qV, xD, del, xB, plain, plainL, zY, zZ, zT, qW, zU, zX, xY, qX, qY, qZ, xE, zJ, zK, zL, xF, xG, wit, xH, Option.isSome_some, xI, qH, xJ, evPre, St.with, xK, xL, zD, xM, xN, xO, Array.size, te, einl, inls, efr]
    rw [if_pos (by omega), List.take_of_length_le (by rw [List.length_map]; omega)]

abbrev TL := Load × Bool × Bool
def encTL (x : TL) : V := .agg [.int .i64 x.1.loft, .int .i64 x.1.start, .sl x.2.1 (x.1.heats.map vI), .sl x.2.2 (x.1.goods.map vI)]
def loadsOf (ts : List TL) : List Load := ts.map (·.1)
set_option maxHeartbeats 4000000 in
theorem c92T (plan : List TL) (loft a b : Int) (hp : plan.length ≤ 1000000) (hg : ∀ x ∈ plan, 0 ≤ x.1.start ∧ x.1.start ≤ 1000000 ∧ x.1.heats.length ≤ 1000000) : (orcω E X0).call 92 [.sl false (plan.map encTL), .int .i64 loft, .int .i64 a, .int .i64 b] = some (.bool (takenM (loadsOf plan) loft a b)) := by
  refine call_of rfl fn92 rfl ?_
  simp (maxSteps := 1000000) (implicitDefEqProofs := false) only [Try.ntmps92, Try.results92, efc92, fc92, ss, List.replicate, zH, qG, zF, zG, St.eval, St.put, St.get, constV, List.set, lenV, qE, qF, qB, zC, norm, xQ, look, xP, xX, zO, zM, zE, zN, qA, qI, St.alloc, St.drop, killL, kill, xU, xV, zA, upd, cells?, part, retag, xT, putIn, refFree, xR, isNew, xS, Ty.isAgg, zB, idsL, ids, idsLL, reach, depth, St.dropL, qD, resultV, ↓reduceIte, Nat.reduceBEq, Nat.reduceAdd, Nat.reduceSub, Nat.reduceMul, Nat.reduceEqDiff, Nat.reduceLeDiff, Nat.reduceLT, qJ, qK, zV, zW, qL, qM, qN, qO, Eff.ap, qP, qQ, xW, qR, zI, onto, dropO, xA, sized, zP, eqT, eqG, minV, evUn, qS, zQ, zR, zS, qC, qT, upO, evSlice0, optInt, xC, qV, xD, del, xB, plain, plainL, zY, zZ, zT, qW, zU, zX, xY, qX, qY, qZ, xE, zJ, zK, zL, xF, xG, wit, xH, Option.isSome_some, xI, qH, xJ, evPre, St.with, xK, xL, zD, xM, xN, xO, Array.size, te, einl, inls, efr]
  generalize hr : loopAt _ _ _ _ _ _ = r; revert r
  refine loop_list plan (fun pre _ => [(9, .int .i64 pre.length)]) (fun _ _ => []) (fun pre (_ : Unit) => takenM (loadsOf pre) loft a b = false) () (by omega) (by simp (maxSteps := 1000000) (implicitDefEqProofs := false) only [ss, List.replicate, zH, qG, zF, zG, St.eval, St.put, St.get, constV, List.set, lenV, qE, qF, qB, zC, norm, xQ, look, xP, xX, zO, zM, zE, zN, qA, qI, St.alloc, St.drop, killL, kill, xU, xV, zA, upd, cells?, part, retag, xT, putIn, refFree, xR, isNew, xS, Ty.isAgg, zB, idsL, ids, idsLL, reach, depth, St.dropL, qD, resultV, ↓reduceIte, Nat.reduceBEq, Nat.reduceAdd, Nat.reduceSub, Nat.reduceMul, Nat.reduceEqDiff, Nat.reduceLeDiff, Nat.reduceLT, qJ, qK, zV, zW, qL, qM, qN, qO, Eff.ap, qP, qQ, xW, qR, zI, onto, dropO, xA, sized, zP, eqT, eqG, minV, evUn, qS, zQ, zR, zS, qC, qT, upO, evSlice0, optInt, xC, qV, xD, del, xB, plain, plainL, zY, zZ, zT, qW, zU, zX, xY, qX, qY, qZ, xE, zJ, zK, zL, xF, xG, wit, xH, Option.isSome_some, xI, qH, xJ, evPre, St.with, xK, xL, zD, xM, xN, xO, Array.size, te, einl, inls, efr]) rfl (fun _ hi => ?_) (fun pre x post _ hq hi g1 g2 g3 g4 => ?_)
  · simp (maxSteps := 1000000) (implicitDefEqProofs := false) only [Int.lt_irrefl, hi, Try.ntmps92, Try.results92, efc92, fc92, List.length_map, ss, List.replicate, zH, qG, zF, zG, St.eval, St.put, St.get, constV, List.set, lenV, qE, qF, qB, zC, norm, xQ, look, xP, xX, zO, zM, zE, zN, qA, qI, St.alloc, St.drop, killL, kill, xU, xV, zA, upd, cells?, part, retag, xT, putIn, refFree, xR, isNew, xS, Ty.isAgg, zB, idsL, ids, idsLL, reach, depth, St.dropL, qD, resultV, ↓reduceIte, Nat.reduceBEq, Nat.reduceAdd, Nat.reduceSub, Nat.reduceMul, Nat.reduceEqDiff, Nat.reduceLeDiff, Nat.reduceLT, qJ, qK, zV, zW, qL, qM, qN, qO, Eff.ap, qP, qQ, xW, qR, zI, onto, dropO, xA, sized, zP, eqT, eqG, minV, evUn, qS, zQ, zR, zS, qC, qT, upO, evSlice0, optInt, xC, qV, xD, del, xB, plain, plainL, zY, zZ, zT, qW, zU, zX, xY, qX, qY, qZ, xE, zJ, zK, zL, xF, xG, wit, xH, Option.isSome_some, xI, qH, xJ, evPre, St.with, xK, xL, zD, xM, xN, xO, Array.size, te, einl, inls, efr]
  · have hx := hg x (List.mem_of_getElem? g3)
    have k1 := c93 x.1 hx
    unfold encLd at k1
    have e1 : takenM (loadsOf (pre ++ [x])) loft a b = meetsM x.1 loft a b := by
      have : takenM (loadsOf (pre ++ [x])) loft a b = (takenM (loadsOf pre) loft a b || meetsM x.1 loft a b) := by simp [takenM, loadsOf]
      rw [this, hi]; rfl
    have e2 : meetsM x.1 loft a b = true → takenM (loadsOf plan) loft a b = true := fun h => List.any_eq_true.2 ⟨x.1, List.mem_map.2 ⟨x, List.mem_of_getElem? g3, rfl⟩, h⟩
    unfold meetsM at e1 e2
    by_cases c1 : x.1.loft = loft
    case neg =>
      have c1' : (x.1.loft == loft) = false := by simpa using c1
      rw [decide_eq_false c1] at e1
      simp (maxSteps := 1000000) (implicitDefEqProofs := false) only [g1, g2, g3, g4, c1', encTL, Int.natCast_nonneg, Int.toNat_natCast, List.getElem?_map, List.length_map, ss, List.replicate, zH, qG, zF, zG, St.eval, St.put, St.get, constV, List.set, lenV, qE, qF, qB, zC, norm, xQ, look, xP, xX, zO, zM, zE, zN, qA, qI, St.alloc, St.drop, killL, kill, xU, xV, zA, upd, cells?, part, retag, xT, putIn, refFree, xR, isNew, xS, Ty.isAgg, zB, idsL, ids, idsLL, reach, depth, St.dropL, qD, resultV, ↓reduceIte, Nat.reduceBEq, Nat.reduceAdd, Nat.reduceSub, Nat.reduceMul, Nat.reduceEqDiff, Nat.reduceLeDiff, Nat.reduceLT, qJ, qK, zV, zW, qL, qM, qN, qO, Eff.ap, qP, qQ, xW, qR, zI, onto, dropO, xA, sized, zP, eqT, eqG, minV, evUn, qS, zQ, zR, zS, qC, qT, upO, evSlice0, optInt, xC, qV, xD, del, xB, plain, plainL, zY, zZ, zT, qW, zU, zX, xY, qX, qY, qZ, xE, zJ, zK, zL, xF, xG, wit, xH, Option.isSome_some, xI, qH, xJ, evPre, St.with, xK, xL, zD, xM, xN, xO, Array.size, te, einl, inls, efr]
      exact ⟨(), e1⟩
    case pos =>
    have c1' : (x.1.loft == loft) = true := by simpa using c1
    rw [decide_eq_true c1] at e1 e2
    by_cases c2 : x.1.start < b
    case neg =>
      rw [decide_eq_false c2] at e1
      simp (maxSteps := 1000000) (implicitDefEqProofs := false) only [g1, g2, g3, g4, c1', c2, encTL, Int.natCast_nonneg, Int.toNat_natCast, List.getElem?_map, List.length_map, ss, List.replicate, zH, qG, zF, zG, St.eval, St.put, St.get, constV, List.set, lenV, qE, qF, qB, zC, norm, xQ, look, xP, xX, zO, zM, zE, zN, qA, qI, St.alloc, St.drop, killL, kill, xU, xV, zA, upd, cells?, part, retag, xT, putIn, refFree, xR, isNew, xS, Ty.isAgg, zB, idsL, ids, idsLL, reach, depth, St.dropL, qD, resultV, ↓reduceIte, Nat.reduceBEq, Nat.reduceAdd, Nat.reduceSub, Nat.reduceMul, Nat.reduceEqDiff, Nat.reduceLeDiff, Nat.reduceLT, qJ, qK, zV, zW, qL, qM, qN, qO, Eff.ap, qP, qQ, xW, qR, zI, onto, dropO, xA, sized, zP, eqT, eqG, minV, evUn, qS, zQ, zR, zS, qC, qT, upO, evSlice0, optInt, xC, qV, xD, del, xB, plain, plainL, zY, zZ, zT, qW, zU, zX, xY, qX, qY, qZ, xE, zJ, zK, zL, xF, xG, wit, xH, Option.isSome_some, xI, qH, xJ, evPre, St.with, xK, xL, zD, xM, xN, xO, Array.size, te, einl, inls, efr]
      exact ⟨(), e1⟩
    case pos =>
    rw [decide_eq_true c2] at e1 e2
    by_cases c3 : a < endM x.1
    case neg =>
      rw [decide_eq_false c3] at e1
      simp (maxSteps := 1000000) (implicitDefEqProofs := false) only [g1, g2, g3, g4, c1', c2, c3, k1, encTL, Int.natCast_nonneg, Int.toNat_natCast, List.getElem?_map, List.length_map, ss, List.replicate, zH, qG, zF, zG, St.eval, St.put, St.get, constV, List.set, lenV, qE, qF, qB, zC, norm, xQ, look, xP, xX, zO, zM, zE, zN, qA, qI, St.alloc, St.drop, killL, kill, xU, xV, zA, upd, cells?, part, retag, xT, putIn, refFree, xR, isNew, xS, Ty.isAgg, zB, idsL, ids, idsLL, reach, depth, St.dropL, qD, resultV, ↓reduceIte, Nat.reduceBEq, Nat.reduceAdd, Nat.reduceSub, Nat.reduceMul, Nat.reduceEqDiff, Nat.reduceLeDiff, Nat.reduceLT, qJ, qK, zV, zW, qL, qM, qN, qO, Eff.ap, qP, qQ, xW, qR, zI, onto, dropO, xA, sized, zP, eqT, eqG, minV, evUn, qS, zQ, zR, zS, qC, qT, upO, evSlice0, optInt, xC, qV, xD, del, xB, plain, plainL, zY, zZ, zT, qW, zU, zX, xY, qX, qY, qZ, xE, zJ, zK, zL, xF, xG, wit, xH, Option.isSome_some, xI, qH, xJ, evPre, St.with, xK, xL, zD, xM, xN, xO, Array.size, te, einl, inls, efr]
      exact ⟨(), e1⟩
    case pos =>
      rw [decide_eq_true c3] at e2
      have e3 := e2 rfl
      simp (maxSteps := 1000000) (implicitDefEqProofs := false) only [g1, g2, g3, g4, c1', c2, c3, k1, e3, encTL, Try.ntmps92, Try.results92, efc92, fc92, Int.natCast_nonneg, Int.toNat_natCast, List.getElem?_map, List.length_map, ss, List.replicate, zH, qG, zF, zG, St.eval, St.put, St.get, constV, List.set, lenV, qE, qF, qB, zC, norm, xQ, look, xP, xX, zO, zM, zE, zN, qA, qI, St.alloc, St.drop, killL, kill, xU, xV, zA, upd, cells?, part, retag, xT, putIn, refFree, xR, isNew, xS, Ty.isAgg, zB, idsL, ids, idsLL, reach, depth, St.dropL, qD, resultV, ↓reduceIte, Nat.reduceBEq, Nat.reduceAdd, Nat.reduceSub, Nat.reduceMul, Nat.reduceEqDiff, Nat.reduceLeDiff, Nat.reduceLT, qJ, qK, zV, zW, qL, qM, qN, qO, Eff.ap, qP, qQ, xW, qR, zI, onto, dropO, xA, sized, zP, eqT, eqG, minV, evUn, qS, zQ, zR, zS, qC, qT, upO, evSlice0, optInt, xC, qV, xD, del, xB, plain, plainL, zY, zZ, zT, qW, zU, zX, xY, qX, qY, qZ, xE, zJ, zK, zL, xF, xG, wit, xH, Option.isSome_some, xI, qH, xJ, evPre, St.with, xK, xL, zD, xM, xN, xO, Array.size, te, einl, inls, efr]

def encBeg : Option Load → V
  | none => .tup [.agg [.int .i64 0, .int .i64 0, .sl true [], .sl true []], .bool false]
  | some x => .tup [encTL (x, true, true), .bool true]
theorem okT104 : okCode (Try.f104.body.getD .skip) = true := by decide +kernel
set_option maxRecDepth 20000 in
set_option maxHeartbeats 16000000 in
theorem c104 (l : List Loft) (gs : List Goods) (ts : List TL) (ks : List Load) (hts : loadsOf ts = ks) (n : Int) (i : Nat) (f : Loft) (hif : l[i]? = some f) (hl : ∀ f ∈ l, loftOk f = true) (hg : ∀ g ∈ gs, goodsOk g = true) (hx : ∀ x ∈ ks, Sound l gs x) (hn : 0 ≤ n ∧ n < gs.length) (hk : ks.length ≤ 1000000) :
    (orcω E X0).call 104 [.sl false (l.map encL), .sl false (gs.map encG), .sl false (ts.map encTL), .int .i64 (i : Nat), .int .i64 n] = some (encBeg (beginM gs ks n i f)) := by
  refine call_of rfl fn104 rfl ?_
  have hok := okT104
  simp only [Try.f104, Option.getD_some, okCode, Bool.and_eq_true, Bool.and_true, Bool.true_and] at hok
  obtain ⟨hk1, hk2⟩ := hok
  have hgm := hg _ (goodAt_mem hn)
  have gk := goodsOk_iff.1 hgm
  have g0 := goodAt_get hn.1 hn.2
  have hf := hl f (List.mem_of_getElem? hif)
  have hil : i < l.length := (List.getElem?_eq_some_iff.1 hif).1
  have hil' : (i : Int) < l.length := by omega
  have hbd : ∀ x ∈ ts, 0 ≤ x.1.start ∧ x.1.start ≤ 1000000 ∧ x.1.heats.length ≤ 1000000 := fun x h => by
    have s := hx x.1 (by rw [← hts]; exact List.mem_map.2 ⟨x, h, rfl⟩)
    have := (validHs_iff.1 s.heats).1
    have := s.start
    omega
  have hends : ∀ x ∈ ks, endM x ≤ 60 := fun x h => sound_end hg (hx x h)
  have k1 := c33 f (goodAt gs n).need (goodAt gs n).most
  rw [progR_ok hf hgm] at k1
  have k2 := fun a b => c92T ts (i : Int) a b (by rw [← hts] at hk; simpa [loadsOf] using hk) hbd
  rw [hts] at k2
  unfold beginM
  by_cases hp : f.poles < (goodAt gs n).poles
  · have hp' : ¬ ((goodAt gs n).poles ≤ f.poles) := by omega
    cases hs : progS f (goodAt gs n).need (goodAt gs n).most with
    | none =>
      rw [hs] at k1
      simp only [encP, encL] at k1
      simp (maxSteps := 1000000) (implicitDefEqProofs := false) only [Try.ntmps104, Try.results104, efc104, fc104, g0, hn.1, hn.2, hif, hil, hil', k1, hp, encG, encL, encBeg, Int.natCast_nonneg, Int.toNat_natCast, List.getElem?_map, List.length_map, evRegion_st hk1, evRegion_st hk2, ss, List.replicate, zH, qG, zF, zG, St.eval, St.put, St.get, constV, List.set, lenV, qE, qF, qB, zC, norm, xQ, look, xP, xX, zO, zM, zE, zN, qA, qI, St.alloc, St.drop, killL, kill, xU, xV, zA, upd, cells?, part, retag, xT, putIn, refFree, xR, isNew, xS, Ty.isAgg, zB, idsL, ids, idsLL, reach, depth, St.dropL, qD, resultV, ↓reduceIte, Nat.reduceBEq, Nat.reduceAdd, Nat.reduceSub, Nat.reduceMul, Nat.reduceEqDiff, Nat.reduceLeDiff, Nat.reduceLT, qJ, qK, zV, zW, qL, qM, qN, qO, Eff.ap, qP, qQ, xW, qR, zI, onto, dropO, xA, sized, zP, eqT, eqG, minV, evUn, qS, zQ, zR, zS, qC, qT, upO, evSlice0, optInt, xC, qV, xD, del, xB, plain, plainL, zY, zZ, zT, qW, zU, zX, xY, qX, qY, qZ, xE, zJ, zK, zL, xF, xG, wit, xH, Option.isSome_some, xI, qH, xJ, evPre, St.with, xK, xL, zD, xM, xN, xO, Array.size, te, einl, inls, efr]
    | some h =>
      rw [hs] at k1
      simp only [encP, encL] at k1
      simp (maxSteps := 1000000) (implicitDefEqProofs := false) only [Try.ntmps104, Try.results104, efc104, fc104, g0, hn.1, hn.2, hif, hil, hil', k1, hp, hp', encG, encL, encBeg, false_and, if_false, Int.natCast_nonneg, Int.toNat_natCast, List.getElem?_map, List.length_map, evRegion_st hk1, evRegion_st hk2, ss, List.replicate, zH, qG, zF, zG, St.eval, St.put, St.get, constV, List.set, lenV, qE, qF, qB, zC, norm, xQ, look, xP, xX, zO, zM, zE, zN, qA, qI, St.alloc, St.drop, killL, kill, xU, xV, zA, upd, cells?, part, retag, xT, putIn, refFree, xR, isNew, xS, Ty.isAgg, zB, idsL, ids, idsLL, reach, depth, St.dropL, qD, resultV, ↓reduceIte, Nat.reduceBEq, Nat.reduceAdd, Nat.reduceSub, Nat.reduceMul, Nat.reduceEqDiff, Nat.reduceLeDiff, Nat.reduceLT, qJ, qK, zV, zW, qL, qM, qN, qO, Eff.ap, qP, qQ, xW, qR, zI, onto, dropO, xA, sized, zP, eqT, eqG, minV, evUn, qS, zQ, zR, zS, qC, qT, upO, evSlice0, optInt, xC, qV, xD, del, xB, plain, plainL, zY, zZ, zT, qW, zU, zX, xY, qX, qY, qZ, xE, zJ, zK, zL, xF, xG, wit, xH, Option.isSome_some, xI, qH, xJ, evPre, St.with, xK, xL, zD, xM, xN, xO, Array.size, te, einl, inls, efr]
  · have hp' : (goodAt gs n).poles ≤ f.poles := by omega
    cases hs : progS f (goodAt gs n).need (goodAt gs n).most with
    | none =>
      rw [hs] at k1
      simp only [encP, encL] at k1
      simp (maxSteps := 1000000) (implicitDefEqProofs := false) only [Try.ntmps104, Try.results104, efc104, fc104, g0, hn.1, hn.2, hif, hil, hil', k1, hp, encG, encL, encBeg, Int.natCast_nonneg, Int.toNat_natCast, List.getElem?_map, List.length_map, evRegion_st hk1, evRegion_st hk2, ss, List.replicate, zH, qG, zF, zG, St.eval, St.put, St.get, constV, List.set, lenV, qE, qF, qB, zC, norm, xQ, look, xP, xX, zO, zM, zE, zN, qA, qI, St.alloc, St.drop, killL, kill, xU, xV, zA, upd, cells?, part, retag, xT, putIn, refFree, xR, isNew, xS, Ty.isAgg, zB, idsL, ids, idsLL, reach, depth, St.dropL, qD, resultV, ↓reduceIte, Nat.reduceBEq, Nat.reduceAdd, Nat.reduceSub, Nat.reduceMul, Nat.reduceEqDiff, Nat.reduceLeDiff, Nat.reduceLT, qJ, qK, zV, zW, qL, qM, qN, qO, Eff.ap, qP, qQ, xW, qR, zI, onto, dropO, xA, sized, zP, eqT, eqG, minV, evUn, qS, zQ, zR, zS, qC, qT, upO, evSlice0, optInt, xC, qV, xD, del, xB, plain, plainL, zY, zZ, zT, qW, zU, zX, xY, qX, qY, qZ, xE, zJ, zK, zL, xF, xG, wit, xH, Option.isSome_some, xI, qH, xJ, evPre, St.with, xK, xL, zD, xM, xN, xO, Array.size, te, einl, inls, efr]
    | some h =>
      rw [hs] at k1
      simp only [encP, encL] at k1
      dsimp only
      obtain ⟨q1, q2, q3, q4⟩ := prog_right hf 12 1 h (Nat.le_refl _) hs
      simp (maxSteps := 1000000) (implicitDefEqProofs := false) only [Try.ntmps104, Try.results104, efc104, fc104, g0, hn.1, hn.2, hif, hil, hil', k1, hp, hp', encG, encL, true_and, Int.natCast_nonneg, Int.toNat_natCast, List.getElem?_map, List.length_map, evRegion_st hk1, evRegion_st hk2, ss, List.replicate, zH, qG, zF, zG, St.eval, St.put, St.get, constV, List.set, lenV, qE, qF, qB, zC, norm, xQ, look, xP, xX, zO, zM, zE, zN, qA, qI, St.alloc, St.drop, killL, kill, xU, xV, zA, upd, cells?, part, retag, xT, putIn, refFree, xR, isNew, xS, Ty.isAgg, zB, idsL, ids, idsLL, reach, depth, St.dropL, qD, resultV, ↓reduceIte, Nat.reduceBEq, Nat.reduceAdd, Nat.reduceSub, Nat.reduceMul, Nat.reduceEqDiff, Nat.reduceLeDiff, Nat.reduceLT, qJ, qK, zV, zW, qL, qM, qN, qO, Eff.ap, qP, qQ, xW, qR, zI, onto, dropO, xA, sized, zP, eqT, eqG, minV, evUn, qS, zQ, zR, zS, qC, qT, upO, evSlice0, optInt, xC, qV, xD, del, xB, plain, plainL, zY, zZ, zT, qW, zU, zX, xY, qX, qY, qZ, xE, zJ, zK, zL, xF, xG, wit, xH, Option.isSome_some, xI, qH, xJ, evPre, St.with, xK, xL, zD, xM, xN, xO, Array.size, te, einl, inls, efr]
      generalize hr : loopAt _ _ _ _ _ _ = r; revert r
      generalize hS : startM ks (i : Int) (h.length : Int) 200 (goodAt gs n).ready = S at *
      refine loop_inv (ι := { p : Int × Nat // p.1 + p.2 = (goodAt gs n).ready + 200 ∧ (goodAt gs n).ready ≤ p.1 ∧ startM ks (i : Int) (h.length : Int) p.2 p.1 = S }) (fun p => [(16, .int .i64 p.1.1)]) (fun _ => []) (fun p => p.1.2) ⟨((goodAt gs n).ready, 200), rfl, Int.le_refl _, hS⟩ (by simp (maxSteps := 1000000) (implicitDefEqProofs := false) only [ss, List.replicate, zH, qG, zF, zG, St.eval, St.put, St.get, constV, List.set, lenV, qE, qF, qB, zC, norm, xQ, look, xP, xX, zO, zM, zE, zN, qA, qI, St.alloc, St.drop, killL, kill, xU, xV, zA, upd, cells?, part, retag, xT, putIn, refFree, xR, isNew, xS, Ty.isAgg, zB, idsL, ids, idsLL, reach, depth, St.dropL, qD, resultV, ↓reduceIte, Nat.reduceBEq, Nat.reduceAdd, Nat.reduceSub, Nat.reduceMul, Nat.reduceEqDiff, Nat.reduceLeDiff, Nat.reduceLT, qJ, qK, zV, zW, qL, qM, qN, qO, Eff.ap, qP, qQ, xW, qR, zI, onto, dropO, xA, sized, zP, eqT, eqG, minV, evUn, qS, zQ, zR, zS, qC, qT, upO, evSlice0, optInt, xC, qV, xD, del, xB, plain, plainL, zY, zZ, zT, qW, zU, zX, xY, qX, qY, qZ, xE, zJ, zK, zL, xF, xG, wit, xH, Option.isSome_some, xI, qH, xJ, evPre, St.with, xK, xL, zD, xM, xN, xO, Array.size, te, einl, inls, efr]) ?_
      rintro ⟨⟨s, m⟩, i1, i2, i3⟩
      dsimp only at i1 i2 i3 ⊢
      have w1 : IntKind.i64.wrap (s + (h.length : Int)) = s + h.length := wrap_in (by omega)
      have w2 : IntKind.i64.wrap (s + 1) = s + 1 := wrap_in (by omega)
      have ge := start_ge ks (i : Int) (h.length : Int) m s
      rw [i3] at ge
      by_cases hd : s + (h.length : Int) ≤ (goodAt gs n).due
      case neg =>
        have hd' : ¬ (S + (h.length : Int) ≤ (goodAt gs n).due) := by omega
        simp (maxSteps := 1000000) (implicitDefEqProofs := false) only [w1, hd, hd', encBeg, if_false, Try.ntmps104, Try.results104, efc104, fc104, List.length_map, ss, List.replicate, zH, qG, zF, zG, St.eval, St.put, St.get, constV, List.set, lenV, qE, qF, qB, zC, norm, xQ, look, xP, xX, zO, zM, zE, zN, qA, qI, St.alloc, St.drop, killL, kill, xU, xV, zA, upd, cells?, part, retag, xT, putIn, refFree, xR, isNew, xS, Ty.isAgg, zB, idsL, ids, idsLL, reach, depth, St.dropL, qD, resultV, ↓reduceIte, Nat.reduceBEq, Nat.reduceAdd, Nat.reduceSub, Nat.reduceMul, Nat.reduceEqDiff, Nat.reduceLeDiff, Nat.reduceLT, qJ, qK, zV, zW, qL, qM, qN, qO, Eff.ap, qP, qQ, xW, qR, zI, onto, dropO, xA, sized, zP, eqT, eqG, minV, evUn, qS, zQ, zR, zS, qC, qT, upO, evSlice0, optInt, xC, qV, xD, del, xB, plain, plainL, zY, zZ, zT, qW, zU, zX, xY, qX, qY, qZ, xE, zJ, zK, zL, xF, xG, wit, xH, Option.isSome_some, xI, qH, xJ, evPre, St.with, xK, xL, zD, xM, xN, xO, Array.size, te, einl, inls, efr]
      case pos =>
      have k3 := k2 s (s + h.length)
      cases hT : takenM ks (i : Int) s (s + h.length) with
      | true =>
        rw [hT] at k3
        cases m with
        | zero => omega
        | succ m =>
          rw [startM, if_pos hT] at i3
          simp (maxSteps := 1000000) (implicitDefEqProofs := false) only [w1, w2, hd, k3, List.length_map, ss, List.replicate, zH, qG, zF, zG, St.eval, St.put, St.get, constV, List.set, lenV, qE, qF, qB, zC, norm, xQ, look, xP, xX, zO, zM, zE, zN, qA, qI, St.alloc, St.drop, killL, kill, xU, xV, zA, upd, cells?, part, retag, xT, putIn, refFree, xR, isNew, xS, Ty.isAgg, zB, idsL, ids, idsLL, reach, depth, St.dropL, qD, resultV, ↓reduceIte, Nat.reduceBEq, Nat.reduceAdd, Nat.reduceSub, Nat.reduceMul, Nat.reduceEqDiff, Nat.reduceLeDiff, Nat.reduceLT, qJ, qK, zV, zW, qL, qM, qN, qO, Eff.ap, qP, qQ, xW, qR, zI, onto, dropO, xA, sized, zP, eqT, eqG, minV, evUn, qS, zQ, zR, zS, qC, qT, upO, evSlice0, optInt, xC, qV, xD, del, xB, plain, plainL, zY, zZ, zT, qW, zU, zX, xY, qX, qY, qZ, xE, zJ, zK, zL, xF, xG, wit, xH, Option.isSome_some, xI, qH, xJ, evPre, St.with, xK, xL, zD, xM, xN, xO, Array.size, te, einl, inls, efr]
          exact ⟨⟨(s + 1, m), by dsimp only; omega, by dsimp only; omega, i3⟩, rfl, Nat.lt_succ_self _⟩
      | false =>
        rw [hT] at k3
        have eS : s = S := by
          cases m with
          | zero => exact i3
          | succ m =>
            rw [startM, if_neg (by rw [hT]; decide)] at i3
            exact i3
        subst eS
        simp (maxSteps := 1000000) (implicitDefEqProofs := false) only [w1, hd, k3, encBeg, encTL, if_true, Try.ntmps104, Try.results104, efc104, fc104, List.length_map, List.map_cons, List.map_nil, vI_def, ss, List.replicate, zH, qG, zF, zG, St.eval, St.put, St.get, constV, List.set, lenV, qE, qF, qB, zC, norm, xQ, look, xP, xX, zO, zM, zE, zN, qA, qI, St.alloc, St.drop, killL, kill, xU, xV, zA, upd, cells?, part, retag, xT, putIn, refFree, xR, isNew, xS, Ty.isAgg, zB, idsL, ids, idsLL, reach, depth, St.dropL, qD, resultV, ↓reduceIte, Nat.reduceBEq, Nat.reduceAdd, Nat.reduceSub, Nat.reduceMul, Nat.reduceEqDiff, Nat.reduceLeDiff, Nat.reduceLT, qJ, qK, zV, zW, qL, qM, qN, qO, Eff.ap, qP, qQ, xW, qR, zI, onto, dropO, xA, sized, zP, eqT, eqG, minV, evUn, qS, zQ, zR, zS, qC, qT, upO, evSlice0, optInt, xC, qV, xD, del, xB, plain, plainL, zY, zZ, zT, qW, zU, zX, xY, qX, qY, qZ, xE, zJ, zK, zL, xF, xG, wit, xH, Option.isSome_some, xI, qH, xJ, evPre, St.with, xK, xL, zD, xM, xN, xO, Array.size, te, einl, inls, efr]
end Go.AM.B

