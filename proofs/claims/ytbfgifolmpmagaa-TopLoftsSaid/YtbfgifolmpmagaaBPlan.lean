/-
The plan of loads, as the program makes it.
-/
import Derived.Test.YtbfgifolmpmagaaBFresh
import Derived.Test.YtbfgifolmpmagaaBPlanS
import Derived.Test.YtbfgifolmpmagaaBLarge
set_option linter.unusedVariables false
set_option linter.unusedSimpArgs false

namespace Go.AM.B
open Go Go.AM Go.Proofs

def planV (l : List Loft) (gs : List Goods) : V := if bothE l gs ≠ 0 then .tup [.sl true [], .sl true [], .int .i64 (bothE l gs)] else
  .tup [.sl (planP l gs).1.isEmpty ((planP l gs).1.map encLd), .sl true ((isort ltI (planP l gs).2).map vI), .int .i64 0]

theorem c94f (b id pid : Nat) (gs : List Goods) (l : List Int) (hn : l.length < 20) (t app : Bool) (hr : ∀ x ∈ l, 0 ≤ x ∧ x < gs.length) : ∃ f : List (List V) → List (Nat × Ob) → List V, ∀ outer objs,
    look objs id = some { es := 1, flat := true, t := t, app := app, elems := l.map vI } → upd objs id { es := 1, flat := true, t := t, app := app, elems := l.map vI } = objs → (∀ X, look (upd objs id X) pid = some (obG gs)) →
    (orcω E X0).inl b 94 [.own id 0 l.length, .clo 95 [] [.ptr pid 0 0]] { slots := [], outer := outer, objs := objs } = some (.tup [], { slots := f outer objs, outer := outer, objs := upd objs id { es := 1, flat := true, t := t, app := app, elems := (isort (ltD gs) l).map vI } }) := by
  classical
  refine ⟨fun outer objs => if h : look objs id = some { es := 1, flat := true, t := t, app := app, elems := l.map vI } ∧ upd objs id { es := 1, flat := true, t := t, app := app, elems := l.map vI } = objs ∧ (∀ X, look (upd objs id X) pid = some (obG gs)) then (c94 b id pid outer objs gs l hn t app h.1 h.2.1 h.2.2 hr).choose else [], fun outer objs g1 g2 g3 => ?_⟩
  dsimp only
  rw [dif_pos ⟨g1, g2, g3⟩]
  exact (c94 b id pid outer objs gs l hn t app g1 g2 g3 hr).choose_spec




theorem c100f (l : List Loft) (gs : List Goods) (ks : List Load) (n : Int) (hl : ∀ f ∈ l, loftOk f = true) (hg : ∀ g ∈ gs, goodsOk g = true) (hx : ∀ x ∈ ks, Sound l gs x) (hn : 0 ≤ n ∧ n < gs.length) (hm : gs.length ≤ 8) (hln : l.length ≤ 1000) (hk : ks.length ≤ 1000000) (T : Bool) (ord left : List Int) : ∃ f : List V → List V, ∀ sl,
    (∀ id, 1000 ≤ id → killL id sl = sl) → idsL sl = [2, 3, 10, 11, 13, 8, 8, 10, 2, 3, 13, 10] →
    (orcω E X0).inl 1000 100 [.sl false (l.map encL), .sl false (gs.map encG), .own 10 0 ks.length, .int .i64 n] { slots := [], outer := [sl], objs := obs54 l gs ord ks T left n } =
      some (.tup [.agg (cB l gs (freshM l gs ks n)), .bool (freshM l gs ks n).isSome], { slots := f sl, outer := [sl], objs := obs54 l gs ord ks T left n ++ [(1008, bOb l gs (freshM l gs ks n)), (1010, gOb gs n), (1011, bOb l gs (freshM l gs ks n))] }) := by
  classical
  refine ⟨fun sl => if h : (∀ id, 1000 ≤ id → killL id sl = sl) ∧ idsL sl = [2, 3, 10, 11, 13, 8, 8, 10, 2, 3, 13, 10] then (c100 l gs ks n hl hg hx hn hm hln hk T ord left sl h.1 h.2).choose else [], fun sl h0 h1 => ?_⟩
  dsimp only
  rw [dif_pos ⟨h0, h1⟩]
  exact (c100 l gs ks n hl hg hx hn hm hln hk T ord left sl h0 h1).choose_spec

theorem okT54 : okCode (Try.f54.body.getD .skip) = true := by decide +kernel
set_option maxRecDepth 20000 in
set_option maxHeartbeats 16000000 in
theorem c54 (l : List Loft) (gs : List Goods) (hm : gs.length ≤ 1000000) : (orcω E X0).call 54 [.sl false (l.map encL), .sl false (gs.map encG)] = some (planV l gs) := by
  refine call_of rfl fn54 rfl ?_
  have hok := okT54
  simp only [Try.f54, Option.getD_some, okCode, Bool.and_eq_true, Bool.and_true, Bool.true_and] at hok
  have k67 := c67 l gs (by omega)
  unfold planV
  by_cases hb : bothE l gs = 0
  case neg =>
    have hb' : (bothE l gs != 0) = true := by simpa using hb
    simp (maxSteps := 1000000) (implicitDefEqProofs := false) only [Try.ntmps54, Try.results54, efc54, fc54, k67, hb', ne_eq, hb, not_false_eq_true, if_true, ss, List.replicate, zH, qG, zF, zG, St.eval, St.put, St.get, constV, List.set, lenV, qE, qF, qB, zC, norm, xQ, look, xP, xX, zO, zM, zE, zN, qA, qI, St.alloc, St.drop, killL, kill, xU, xV, zA, upd, cells?, part, retag, xT, putIn, refFree, xR, isNew, xS, Ty.isAgg, zB, idsL, ids, idsLL, reach, depth, St.dropL, qD, resultV, ↓reduceIte, Nat.reduceBEq, Nat.reduceAdd, Nat.reduceSub, Nat.reduceMul, Nat.reduceEqDiff, Nat.reduceLeDiff, Nat.reduceLT, qJ, qK, zV, zW, qL, qM, qN, qO, Eff.ap, qP, qQ, xW, qR, zI, onto, dropO, xA, sized, zP, eqT, eqG, minV, evUn, qS, zQ, zR, zS, qC, qT, upO, evSlice0, optInt, xC, qV, xD, del, xB, plain, plainL, zY, zZ, zT, qW, zU, zX, xY, qX, qY, qZ, xE, zJ, zK, zL, xF, xG, wit, xH, Option.isSome_some, xI, qH, xJ, evPre, St.with, xK, xL, zD, xM, xN, xO, Array.size, te, einl, inls, efr]
  case pos =>
  rw [hb] at k67 ⊢
  obtain ⟨hl, hln, hg, hgn⟩ := both_facts hb
  have hg8 : gs.length ≤ 8 := by
    obtain ⟨_, h2⟩ := bothE_zero hb
    exact (goodsE_zero h2).1
  simp (maxSteps := 1000000) (implicitDefEqProofs := false) only [Try.ntmps54, Try.results54, efc54, fc54, k67, bne_self_eq_false, List.length_map, ne_eq, not_true_eq_false, if_false, ss, List.replicate, zH, qG, zF, zG, St.eval, St.put, St.get, constV, List.set, lenV, qE, qF, qB, zC, norm, xQ, look, xP, xX, zO, zM, zE, zN, qA, qI, St.alloc, St.drop, killL, kill, xU, xV, zA, upd, cells?, part, retag, xT, putIn, refFree, xR, isNew, xS, Ty.isAgg, zB, idsL, ids, idsLL, reach, depth, St.dropL, qD, resultV, ↓reduceIte, Nat.reduceBEq, Nat.reduceAdd, Nat.reduceSub, Nat.reduceMul, Nat.reduceEqDiff, Nat.reduceLeDiff, Nat.reduceLT, qJ, qK, zV, zW, qL, qM, qN, qO, Eff.ap, qP, qQ, xW, qR, zI, onto, dropO, xA, sized, zP, eqT, eqG, minV, evUn, qS, zQ, zR, zS, qC, qT, upO, evSlice0, optInt, xC, qV, xD, del, xB, plain, plainL, zY, zZ, zT, qW, zU, zX, xY, qX, qY, qZ, xE, zJ, zK, zL, xF, xG, wit, xH, Option.isSome_some, xI, qH, xJ, evPre, St.with, xK, xL, zD, xM, xN, xO, Array.size, te, einl, inls, efr]
  generalize hr : loopAt _ _ _ _ _ _ = r; revert r
  refine loop_list gs (fun pre _ => [(8, .own 8 0 pre.length), (28, .int .i64 pre.length)]) (fun pre _ => [(8, { es := 1, flat := true, t := true, app := true, elems := (ixs pre.length).map vI })]) (fun _ (_ : Unit) => True) () (by omega) (by simp (maxSteps := 1000000) (implicitDefEqProofs := false) only [ixs, List.range_zero, List.map_nil, List.length_nil, Int.natCast_zero, ss, List.replicate, zH, qG, zF, zG, St.eval, St.put, St.get, constV, List.set, lenV, qE, qF, qB, zC, norm, xQ, look, xP, xX, zO, zM, zE, zN, qA, qI, St.alloc, St.drop, killL, kill, xU, xV, zA, upd, cells?, part, retag, xT, putIn, refFree, xR, isNew, xS, Ty.isAgg, zB, idsL, ids, idsLL, reach, depth, St.dropL, qD, resultV, ↓reduceIte, Nat.reduceBEq, Nat.reduceAdd, Nat.reduceSub, Nat.reduceMul, Nat.reduceEqDiff, Nat.reduceLeDiff, Nat.reduceLT, qJ, qK, zV, zW, qL, qM, qN, qO, Eff.ap, qP, qQ, xW, qR, zI, onto, dropO, xA, sized, zP, eqT, eqG, minV, evUn, qS, zQ, zR, zS, qC, qT, upO, evSlice0, optInt, xC, qV, xD, del, xB, plain, plainL, zY, zZ, zT, qW, zU, zX, xY, qX, qY, qZ, xE, zJ, zK, zL, xF, xG, wit, xH, Option.isSome_some, xI, qH, xJ, evPre, St.with, xK, xL, zD, xM, xN, xO, Array.size, te, einl, inls, efr]) trivial (fun _ _ => ?_) (fun pre x post _ hq _ g1 g2 g3 g4 => ?_)
  rotate_left
  · have hroom : roomy (pre.length + 1) 8 = true := by simp [roomy]; omega
    have hbig : pre.length + 1 ≤ 4294967296 := by omega
    have e1 : (ixs pre.length).map vI ++ [.int .i64 (pre.length : Int)] = (ixs (pre.length + 1)).map vI := by rw [ixs_succ, List.map_append]; rfl
    have lx : (pre ++ [x]).length = pre.length + 1 := by simp
    simp (maxSteps := 1000000) (implicitDefEqProofs := false) only [g1, g2, g3, g4, hroom, hbig, e1, ixs_len, Int.natCast_nonneg, Int.toNat_natCast, List.length_map, ss, List.replicate, zH, qG, zF, zG, St.eval, St.put, St.get, constV, List.set, lenV, qE, qF, qB, zC, norm, xQ, look, xP, xX, zO, zM, zE, zN, qA, qI, St.alloc, St.drop, killL, kill, xU, xV, zA, upd, cells?, part, retag, xT, putIn, refFree, xR, isNew, xS, Ty.isAgg, zB, idsL, ids, idsLL, reach, depth, St.dropL, qD, resultV, ↓reduceIte, Nat.reduceBEq, Nat.reduceAdd, Nat.reduceSub, Nat.reduceMul, Nat.reduceEqDiff, Nat.reduceLeDiff, Nat.reduceLT, qJ, qK, zV, zW, qL, qM, qN, qO, Eff.ap, qP, qQ, xW, qR, zI, onto, dropO, xA, sized, zP, eqT, eqG, minV, evUn, qS, zQ, zR, zS, qC, qT, upO, evSlice0, optInt, xC, qV, xD, del, xB, plain, plainL, zY, zZ, zT, qW, zU, zX, xY, qX, qY, qZ, xE, zJ, zK, zL, xF, xG, wit, xH, Option.isSome_some, xI, qH, xJ, evPre, St.with, xK, xL, zD, xM, xN, xO, Array.size, te, einl, inls, efr]
    refine ⟨(), ?_⟩
    rw [lx]
  · obtain ⟨fs, k94⟩ := c94f 1000 8 3 gs (ixs gs.length) (by rw [ixs_len]; omega) true true (fun x hx => ixs_mem.1 hx)
    rw [ixs_len] at k94
    have e2 : isort (ltD gs) (ixs gs.length) = orderM gs := rfl
    rw [e2] at k94
    have ol := order_len gs
    simp (maxSteps := 1000000) (implicitDefEqProofs := false) only [Int.lt_irrefl, List.length_map, ss, List.replicate, zH, qG, zF, zG, St.eval, St.put, St.get, constV, List.set, lenV, qE, qF, qB, zC, norm, xQ, look, xP, xX, zO, zM, zE, zN, qA, qI, St.alloc, St.drop, killL, kill, xU, xV, zA, upd, cells?, part, retag, xT, putIn, refFree, xR, isNew, xS, Ty.isAgg, zB, idsL, ids, idsLL, reach, depth, St.dropL, qD, resultV, ↓reduceIte, Nat.reduceBEq, Nat.reduceAdd, Nat.reduceSub, Nat.reduceMul, Nat.reduceEqDiff, Nat.reduceLeDiff, Nat.reduceLT, qJ, qK, zV, zW, qL, qM, qN, qO, Eff.ap, qP, qQ, xW, qR, zI, onto, dropO, xA, sized, zP, eqT, eqG, minV, evUn, qS, zQ, zR, zS, qC, qT, upO, evSlice0, optInt, xC, qV, xD, del, xB, plain, plainL, zY, zZ, zT, qW, zU, zX, xY, qX, qY, qZ, xE, zJ, zK, zL, xF, xG, wit, xH, Option.isSome_some, xI, qH, xJ, evPre, St.with, xK, xL, zD, xM, xN, xO, Array.size, te, einl, inls, efr]
    rw [k94 _ _ ?g1 ?g2 ?g3]
    case g1 => simp (maxSteps := 1000000) (implicitDefEqProofs := false) only [ss, List.replicate, zH, qG, zF, zG, St.eval, St.put, St.get, constV, List.set, lenV, qE, qF, qB, zC, norm, xQ, look, xP, xX, zO, zM, zE, zN, qA, qI, St.alloc, St.drop, killL, kill, xU, xV, zA, upd, cells?, part, retag, xT, putIn, refFree, xR, isNew, xS, Ty.isAgg, zB, idsL, ids, idsLL, reach, depth, St.dropL, qD, resultV, ↓reduceIte, Nat.reduceBEq, Nat.reduceAdd, Nat.reduceSub, Nat.reduceMul, Nat.reduceEqDiff, Nat.reduceLeDiff, Nat.reduceLT, qJ, qK, zV, zW, qL, qM, qN, qO, Eff.ap, qP, qQ, xW, qR, zI, onto, dropO, xA, sized, zP, eqT, eqG, minV, evUn, qS, zQ, zR, zS, qC, qT, upO, evSlice0, optInt, xC, qV, xD, del, xB, plain, plainL, zY, zZ, zT, qW, zU, zX, xY, qX, qY, qZ, xE, zJ, zK, zL, xF, xG, wit, xH, Option.isSome_some, xI, qH, xJ, evPre, St.with, xK, xL, zD, xM, xN, xO, Array.size, te, einl, inls, efr]
    case g2 => simp (maxSteps := 1000000) (implicitDefEqProofs := false) only [ss, List.replicate, zH, qG, zF, zG, St.eval, St.put, St.get, constV, List.set, lenV, qE, qF, qB, zC, norm, xQ, look, xP, xX, zO, zM, zE, zN, qA, qI, St.alloc, St.drop, killL, kill, xU, xV, zA, upd, cells?, part, retag, xT, putIn, refFree, xR, isNew, xS, Ty.isAgg, zB, idsL, ids, idsLL, reach, depth, St.dropL, qD, resultV, ↓reduceIte, Nat.reduceBEq, Nat.reduceAdd, Nat.reduceSub, Nat.reduceMul, Nat.reduceEqDiff, Nat.reduceLeDiff, Nat.reduceLT, qJ, qK, zV, zW, qL, qM, qN, qO, Eff.ap, qP, qQ, xW, qR, zI, onto, dropO, xA, sized, zP, eqT, eqG, minV, evUn, qS, zQ, zR, zS, qC, qT, upO, evSlice0, optInt, xC, qV, xD, del, xB, plain, plainL, zY, zZ, zT, qW, zU, zX, xY, qX, qY, qZ, xE, zJ, zK, zL, xF, xG, wit, xH, Option.isSome_some, xI, qH, xJ, evPre, St.with, xK, xL, zD, xM, xN, xO, Array.size, te, einl, inls, efr]
    case g3 =>
      intro X
      simp (maxSteps := 1000000) (implicitDefEqProofs := false) only [obG, ss, List.replicate, zH, qG, zF, zG, St.eval, St.put, St.get, constV, List.set, lenV, qE, qF, qB, zC, norm, xQ, look, xP, xX, zO, zM, zE, zN, qA, qI, St.alloc, St.drop, killL, kill, xU, xV, zA, upd, cells?, part, retag, xT, putIn, refFree, xR, isNew, xS, Ty.isAgg, zB, idsL, ids, idsLL, reach, depth, St.dropL, qD, resultV, ↓reduceIte, Nat.reduceBEq, Nat.reduceAdd, Nat.reduceSub, Nat.reduceMul, Nat.reduceEqDiff, Nat.reduceLeDiff, Nat.reduceLT, qJ, qK, zV, zW, qL, qM, qN, qO, Eff.ap, qP, qQ, xW, qR, zI, onto, dropO, xA, sized, zP, eqT, eqG, minV, evUn, qS, zQ, zR, zS, qC, qT, upO, evSlice0, optInt, xC, qV, xD, del, xB, plain, plainL, zY, zZ, zT, qW, zU, zX, xY, qX, qY, qZ, xE, zJ, zK, zL, xF, xG, wit, xH, Option.isSome_some, xI, qH, xJ, evPre, St.with, xK, xL, zD, xM, xN, xO, Array.size, te, einl, inls, efr]
    simp (maxSteps := 1000000) (implicitDefEqProofs := false) only [Try.ntmps54, Try.results54, efc54, fc54, List.length_map, ss, List.replicate, zH, qG, zF, zG, St.eval, St.put, St.get, constV, List.set, lenV, qE, qF, qB, zC, norm, xQ, look, xP, xX, zO, zM, zE, zN, qA, qI, St.alloc, St.drop, killL, kill, xU, xV, zA, upd, cells?, part, retag, xT, putIn, refFree, xR, isNew, xS, Ty.isAgg, zB, idsL, ids, idsLL, reach, depth, St.dropL, qD, resultV, ↓reduceIte, Nat.reduceBEq, Nat.reduceAdd, Nat.reduceSub, Nat.reduceMul, Nat.reduceEqDiff, Nat.reduceLeDiff, Nat.reduceLT, qJ, qK, zV, zW, qL, qM, qN, qO, Eff.ap, qP, qQ, xW, qR, zI, onto, dropO, xA, sized, zP, eqT, eqG, minV, evUn, qS, zQ, zR, zS, qC, qT, upO, evSlice0, optInt, xC, qV, xD, del, xB, plain, plainL, zY, zZ, zT, qW, zU, zX, xY, qX, qY, qZ, xE, zJ, zK, zL, xF, xG, wit, xH, Option.isSome_some, xI, qH, xJ, evPre, St.with, xK, xL, zD, xM, xN, xO, Array.size, te, einl, inls, efr]
    generalize hr : loopAt _ _ _ _ _ _ = r; revert r
    refine loop_list (orderM gs) (fun pre _ => [(10, .own 10 0 (planFrom l gs pre).1.length), (11, .own 11 0 (planFrom l gs pre).2.length), (41, .int .i64 pre.length)]) (fun pre _ => [(10, { es := 7, flat := true, t := (planFrom l gs pre).1.isEmpty, app := true, elems := ((planFrom l gs pre).1.map (seeM l gs)).map encK }), (11, { es := 1, flat := true, t := true, app := true, elems := (planFrom l gs pre).2.map vI })]) (fun _ (_ : Unit) => True) () (by omega) (by simp (maxSteps := 1000000) (implicitDefEqProofs := false) only [planFrom, List.foldl_nil, List.map_nil, List.length_nil, List.isEmpty_nil, Int.natCast_zero, ss, List.replicate, zH, qG, zF, zG, St.eval, St.put, St.get, constV, List.set, lenV, qE, qF, qB, zC, norm, xQ, look, xP, xX, zO, zM, zE, zN, qA, qI, St.alloc, St.drop, killL, kill, xU, xV, zA, upd, cells?, part, retag, xT, putIn, refFree, xR, isNew, xS, Ty.isAgg, zB, idsL, ids, idsLL, reach, depth, St.dropL, qD, resultV, ↓reduceIte, Nat.reduceBEq, Nat.reduceAdd, Nat.reduceSub, Nat.reduceMul, Nat.reduceEqDiff, Nat.reduceLeDiff, Nat.reduceLT, qJ, qK, zV, zW, qL, qM, qN, qO, Eff.ap, qP, qQ, xW, qR, zI, onto, dropO, xA, sized, zP, eqT, eqG, minV, evUn, qS, zQ, zR, zS, qC, qT, upO, evSlice0, optInt, xC, qV, xD, del, xB, plain, plainL, zY, zZ, zT, qW, zU, zX, xY, qX, qY, qZ, xE, zJ, zK, zL, xF, xG, wit, xH, Option.isSome_some, xI, qH, xJ, evPre, St.with, xK, xL, zD, xM, xN, xO, Array.size, te, einl, inls, efr]) trivial (fun _ _ => ?_) (fun pre n post _ hq _ g1 g2 g3 g4 => ?_)
    rotate_left
    · have hmade := plan_made hl hg pre (n :: post) hq
      have hnm : n ∈ orderM gs := by rw [hq]; simp
      have hn := order_mem.1 hnm
      have hpl := plan_len l gs pre
      rw [ol] at g1 g2
      have es := planFrom_snoc l gs pre n
      rw [es]
      generalize planFrom l gs pre = P at *
      obtain ⟨ks, left⟩ := P
      dsimp only at hmade hpl ⊢
      have hsnd := hmade.each
      have k97 := c97p l gs ks n hl hg hsnd hn hg8 (by omega)
      unfold fpL fpG fpN at k97
      have tk : ((ks.map (seeM l gs)).map encK).take ks.length = (ks.map (seeM l gs)).map encK := List.take_of_length_le (by simp)
      rcases step_cases l gs ks left n with ⟨A, x, B, hk, hq2, he, hs⟩ | ⟨he, y, hf, hs⟩ | ⟨he, hf, hs⟩
      · rw [hs]
        rw [he] at k97
        have hi : ks[A.length]? = some x := by rw [hk]; simp
        have hlt : (A.length : Int) < ks.length := by rw [hk]; simp <;> omega
        have hlt' : A.length < ks.length := by rw [hk]; simp
        have k99 := c99 l gs x n hl hg (hsnd x (by rw [hk]; simp)) hn hg8
        have est : ((ks.map (seeM l gs)).map encK).set A.length (encK (seeM l gs (addL x n))) = ((A ++ addL x n :: B).map (seeM l gs)).map encK := by rw [hk]; simp
        have eln : (A ++ addL x n :: B).length = ks.length := by rw [hk]; simp
        have em : ks.isEmpty = false := by rw [hk]; simp
        have em2 : (A ++ addL x n :: B).isEmpty = false := by simp
        unfold encK kCells at k99
        have est' := est
        rw [show encK (seeM l gs (addL x n)) = .agg (kCells (seeM l gs (addL x n))) from rfl] at est'
        unfold kCells at est'
        generalize hKx : seeM l gs x = Kx at *
        generalize seeM l gs (addL x n) = Ka at *
        have a0 : (0 : Int) ≤ (A.length : Int) := by omega
        simp (maxSteps := 1000000) (implicitDefEqProofs := false) only [g1, g2, g3, g4, vI_def, k97, k99, tk, hi, hlt, hlt', hKx, a0, encK, kCells, est', em, eln, em2, evRegion_st hok, Int.natCast_nonneg, Int.toNat_natCast, List.getElem?_map, List.length_map, ss, List.replicate, zH, qG, zF, zG, St.eval, St.put, St.get, constV, List.set, lenV, qE, qF, qB, zC, norm, xQ, look, xP, xX, zO, zM, zE, zN, qA, qI, St.alloc, St.drop, killL, kill, xU, xV, zA, upd, cells?, part, retag, xT, putIn, refFree, xR, isNew, xS, Ty.isAgg, zB, idsL, ids, idsLL, reach, depth, St.dropL, qD, resultV, ↓reduceIte, Nat.reduceBEq, Nat.reduceAdd, Nat.reduceSub, Nat.reduceMul, Nat.reduceEqDiff, Nat.reduceLeDiff, Nat.reduceLT, qJ, qK, zV, zW, qL, qM, qN, qO, Eff.ap, qP, qQ, xW, qR, zI, onto, dropO, xA, sized, zP, eqT, eqG, minV, evUn, qS, zQ, zR, zS, qC, qT, upO, evSlice0, optInt, xC, qV, xD, del, xB, plain, plainL, zY, zZ, zT, qW, zU, zX, xY, qX, qY, qZ, xE, zJ, zK, zL, xF, xG, wit, xH, Option.isSome_some, xI, qH, xJ, evPre, St.with, xK, xL, zD, xM, xN, xO, Array.size, te, einl, inls, efr]
        exact ⟨(), trivial⟩
      · rw [hs]
        obtain ⟨f100, k100⟩ := c100f l gs ks n hl hg hsnd hn hg8 hln (by omega) ks.isEmpty (orderM gs) left
        rw [hf] at k100
        simp only [obs54, ksOb, bOb, gOb, Option.isSome_some, Option.isNone_some, List.cons_append, List.nil_append] at k100
        rw [show cB l gs (some y) = kCells (seeM l gs y) from rfl] at k100
        unfold kCells at k100
        have hroom : roomy (ks.length + 1) 88 = true := by simp [roomy]; omega
        have hbig : ks.length + 1 ≤ 4294967296 := by omega
        have e5 : (ks.map (seeM l gs)).map encK ++ [encK (seeM l gs y)] = ((ks ++ [y]).map (seeM l gs)).map encK := by simp
        rw [show encK (seeM l gs y) = .agg (kCells (seeM l gs y)) from rfl] at e5
        unfold kCells at e5
        have e6 : (ks ++ [y]).isEmpty = false := by simp
        have e7 : (ks ++ [y]).length = ks.length + 1 := by simp
        generalize seeM l gs y = Ky at *
        simp (maxSteps := 1000000) (implicitDefEqProofs := false) only [g1, g2, g3, g4, vI_def, k97, tk, he, evRegion_st hok, Int.natCast_nonneg, Int.toNat_natCast, List.getElem?_map, List.length_map, ss, List.replicate, zH, qG, zF, zG, St.eval, St.put, St.get, constV, List.set, lenV, qE, qF, qB, zC, norm, xQ, look, xP, xX, zO, zM, zE, zN, qA, qI, St.alloc, St.drop, killL, kill, xU, xV, zA, upd, cells?, part, retag, xT, putIn, refFree, xR, isNew, xS, Ty.isAgg, zB, idsL, ids, idsLL, reach, depth, St.dropL, qD, resultV, ↓reduceIte, Nat.reduceBEq, Nat.reduceAdd, Nat.reduceSub, Nat.reduceMul, Nat.reduceEqDiff, Nat.reduceLeDiff, Nat.reduceLT, qJ, qK, zV, zW, qL, qM, qN, qO, Eff.ap, qP, qQ, xW, qR, zI, onto, dropO, xA, sized, zP, eqT, eqG, minV, evUn, qS, zQ, zR, zS, qC, qT, upO, evSlice0, optInt, xC, qV, xD, del, xB, plain, plainL, zY, zZ, zT, qW, zU, zX, xY, qX, qY, qZ, xE, zJ, zK, zL, xF, xG, wit, xH, Option.isSome_some, xI, qH, xJ, evPre, St.with, xK, xL, zD, xM, xN, xO, Array.size, te, einl, inls, efr]
        rw [k100 _ ?h1 ?h2]
        case h1 =>
          intro id hid
          have n1 : ¬ 2 = id := by omega
          have n2 : ¬ 3 = id := by omega
          have n3 : ¬ 8 = id := by omega
          have n4 : ¬ 10 = id := by omega
          have n5 : ¬ 11 = id := by omega
          have n6 : ¬ 13 = id := by omega
          simp (maxSteps := 1000000) (implicitDefEqProofs := false) only [n1, n2, n3, n4, n5, n6, ss, List.replicate, zH, qG, zF, zG, St.eval, St.put, St.get, constV, List.set, lenV, qE, qF, qB, zC, norm, xQ, look, xP, xX, zO, zM, zE, zN, qA, qI, St.alloc, St.drop, killL, kill, xU, xV, zA, upd, cells?, part, retag, xT, putIn, refFree, xR, isNew, xS, Ty.isAgg, zB, idsL, ids, idsLL, reach, depth, St.dropL, qD, resultV, ↓reduceIte, Nat.reduceBEq, Nat.reduceAdd, Nat.reduceSub, Nat.reduceMul, Nat.reduceEqDiff, Nat.reduceLeDiff, Nat.reduceLT, qJ, qK, zV, zW, qL, qM, qN, qO, Eff.ap, qP, qQ, xW, qR, zI, onto, dropO, xA, sized, zP, eqT, eqG, minV, evUn, qS, zQ, zR, zS, qC, qT, upO, evSlice0, optInt, xC, qV, xD, del, xB, plain, plainL, zY, zZ, zT, qW, zU, zX, xY, qX, qY, qZ, xE, zJ, zK, zL, xF, xG, wit, xH, Option.isSome_some, xI, qH, xJ, evPre, St.with, xK, xL, zD, xM, xN, xO, Array.size, te, einl, inls, efr]
        case h2 => simp (maxSteps := 1000000) (implicitDefEqProofs := false) only [ss, List.replicate, zH, qG, zF, zG, St.eval, St.put, St.get, constV, List.set, lenV, qE, qF, qB, zC, norm, xQ, look, xP, xX, zO, zM, zE, zN, qA, qI, St.alloc, St.drop, killL, kill, xU, xV, zA, upd, cells?, part, retag, xT, putIn, refFree, xR, isNew, xS, Ty.isAgg, zB, idsL, ids, idsLL, reach, depth, St.dropL, qD, resultV, ↓reduceIte, Nat.reduceBEq, Nat.reduceAdd, Nat.reduceSub, Nat.reduceMul, Nat.reduceEqDiff, Nat.reduceLeDiff, Nat.reduceLT, qJ, qK, zV, zW, qL, qM, qN, qO, Eff.ap, qP, qQ, xW, qR, zI, onto, dropO, xA, sized, zP, eqT, eqG, minV, evUn, qS, zQ, zR, zS, qC, qT, upO, evSlice0, optInt, xC, qV, xD, del, xB, plain, plainL, zY, zZ, zT, qW, zU, zX, xY, qX, qY, qZ, xE, zJ, zK, zL, xF, xG, wit, xH, Option.isSome_some, xI, qH, xJ, evPre, St.with, xK, xL, zD, xM, xN, xO, Array.size, te, einl, inls, efr]
        simp (maxSteps := 1000000) (implicitDefEqProofs := false) only [k100, hroom, hbig, e5, e6, e7, g4, Bool.and_false, Int.natCast_nonneg, Int.toNat_natCast, List.getElem?_map, List.length_map, ss, List.replicate, zH, qG, zF, zG, St.eval, St.put, St.get, constV, List.set, lenV, qE, qF, qB, zC, norm, xQ, look, xP, xX, zO, zM, zE, zN, qA, qI, St.alloc, St.drop, killL, kill, xU, xV, zA, upd, cells?, part, retag, xT, putIn, refFree, xR, isNew, xS, Ty.isAgg, zB, idsL, ids, idsLL, reach, depth, St.dropL, qD, resultV, ↓reduceIte, Nat.reduceBEq, Nat.reduceAdd, Nat.reduceSub, Nat.reduceMul, Nat.reduceEqDiff, Nat.reduceLeDiff, Nat.reduceLT, qJ, qK, zV, zW, qL, qM, qN, qO, Eff.ap, qP, qQ, xW, qR, zI, onto, dropO, xA, sized, zP, eqT, eqG, minV, evUn, qS, zQ, zR, zS, qC, qT, upO, evSlice0, optInt, xC, qV, xD, del, xB, plain, plainL, zY, zZ, zT, qW, zU, zX, xY, qX, qY, qZ, xE, zJ, zK, zL, xF, xG, wit, xH, Option.isSome_some, xI, qH, xJ, evPre, St.with, xK, xL, zD, xM, xN, xO, Array.size, te, einl, inls, efr]
        exact ⟨(), trivial⟩
      · rw [hs]
        obtain ⟨f100, k100⟩ := c100f l gs ks n hl hg hsnd hn hg8 hln (by omega) ks.isEmpty (orderM gs) left
        rw [hf] at k100
        simp only [obs54, ksOb, bOb, gOb, Option.isSome_none, Option.isNone_none, List.cons_append, List.nil_append] at k100
        rw [show cB l gs none = [.int .i64 0, .int .i64 0, .emp, .emp, .int .i64 0, .int .i64 0, .int .i64 0] from rfl] at k100
        have hroom : roomy (left.length + 1) 8 = true := by simp [roomy]; omega
        have hbig : left.length + 1 ≤ 4294967296 := by omega
        have e5 : left.map vI ++ [.int .i64 n] = (left ++ [n]).map vI := by simp [vI_def]
        have e7 : (left ++ [n]).length = left.length + 1 := by simp
        simp (maxSteps := 1000000) (implicitDefEqProofs := false) only [g1, g2, g3, g4, vI_def, k97, tk, he, evRegion_st hok, Int.natCast_nonneg, Int.toNat_natCast, List.getElem?_map, List.length_map, ss, List.replicate, zH, qG, zF, zG, St.eval, St.put, St.get, constV, List.set, lenV, qE, qF, qB, zC, norm, xQ, look, xP, xX, zO, zM, zE, zN, qA, qI, St.alloc, St.drop, killL, kill, xU, xV, zA, upd, cells?, part, retag, xT, putIn, refFree, xR, isNew, xS, Ty.isAgg, zB, idsL, ids, idsLL, reach, depth, St.dropL, qD, resultV, ↓reduceIte, Nat.reduceBEq, Nat.reduceAdd, Nat.reduceSub, Nat.reduceMul, Nat.reduceEqDiff, Nat.reduceLeDiff, Nat.reduceLT, qJ, qK, zV, zW, qL, qM, qN, qO, Eff.ap, qP, qQ, xW, qR, zI, onto, dropO, xA, sized, zP, eqT, eqG, minV, evUn, qS, zQ, zR, zS, qC, qT, upO, evSlice0, optInt, xC, qV, xD, del, xB, plain, plainL, zY, zZ, zT, qW, zU, zX, xY, qX, qY, qZ, xE, zJ, zK, zL, xF, xG, wit, xH, Option.isSome_some, xI, qH, xJ, evPre, St.with, xK, xL, zD, xM, xN, xO, Array.size, te, einl, inls, efr]
        rw [k100 _ ?h1 ?h2]
        case h1 =>
          intro id hid
          have n1 : ¬ 2 = id := by omega
          have n2 : ¬ 3 = id := by omega
          have n3 : ¬ 8 = id := by omega
          have n4 : ¬ 10 = id := by omega
          have n5 : ¬ 11 = id := by omega
          have n6 : ¬ 13 = id := by omega
          simp (maxSteps := 1000000) (implicitDefEqProofs := false) only [n1, n2, n3, n4, n5, n6, ss, List.replicate, zH, qG, zF, zG, St.eval, St.put, St.get, constV, List.set, lenV, qE, qF, qB, zC, norm, xQ, look, xP, xX, zO, zM, zE, zN, qA, qI, St.alloc, St.drop, killL, kill, xU, xV, zA, upd, cells?, part, retag, xT, putIn, refFree, xR, isNew, xS, Ty.isAgg, zB, idsL, ids, idsLL, reach, depth, St.dropL, qD, resultV, ↓reduceIte, Nat.reduceBEq, Nat.reduceAdd, Nat.reduceSub, Nat.reduceMul, Nat.reduceEqDiff, Nat.reduceLeDiff, Nat.reduceLT, qJ, qK, zV, zW, qL, qM, qN, qO, Eff.ap, qP, qQ, xW, qR, zI, onto, dropO, xA, sized, zP, eqT, eqG, minV, evUn, qS, zQ, zR, zS, qC, qT, upO, evSlice0, optInt, xC, qV, xD, del, xB, plain, plainL, zY, zZ, zT, qW, zU, zX, xY, qX, qY, qZ, xE, zJ, zK, zL, xF, xG, wit, xH, Option.isSome_some, xI, qH, xJ, evPre, St.with, xK, xL, zD, xM, xN, xO, Array.size, te, einl, inls, efr]
        case h2 => simp (maxSteps := 1000000) (implicitDefEqProofs := false) only [ss, List.replicate, zH, qG, zF, zG, St.eval, St.put, St.get, constV, List.set, lenV, qE, qF, qB, zC, norm, xQ, look, xP, xX, zO, zM, zE, zN, qA, qI, St.alloc, St.drop, killL, kill, xU, xV, zA, upd, cells?, part, retag, xT, putIn, refFree, xR, isNew, xS, Ty.isAgg, zB, idsL, ids, idsLL, reach, depth, St.dropL, qD, resultV, ↓reduceIte, Nat.reduceBEq, Nat.reduceAdd, Nat.reduceSub, Nat.reduceMul, Nat.reduceEqDiff, Nat.reduceLeDiff, Nat.reduceLT, qJ, qK, zV, zW, qL, qM, qN, qO, Eff.ap, qP, qQ, xW, qR, zI, onto, dropO, xA, sized, zP, eqT, eqG, minV, evUn, qS, zQ, zR, zS, qC, qT, upO, evSlice0, optInt, xC, qV, xD, del, xB, plain, plainL, zY, zZ, zT, qW, zU, zX, xY, qX, qY, qZ, xE, zJ, zK, zL, xF, xG, wit, xH, Option.isSome_some, xI, qH, xJ, evPre, St.with, xK, xL, zD, xM, xN, xO, Array.size, te, einl, inls, efr]
        simp (maxSteps := 1000000) (implicitDefEqProofs := false) only [k100, hroom, hbig, e5, e7, g4, Int.natCast_nonneg, Int.toNat_natCast, List.getElem?_map, List.length_map, ss, List.replicate, zH, qG, zF, zG, St.eval, St.put, St.get, constV, List.set, lenV, qE, qF, qB, zC, norm, xQ, look, xP, xX, zO, zM, zE, zN, qA, qI, St.alloc, St.drop, killL, kill, xU, xV, zA, upd, cells?, part, retag, xT, putIn, refFree, xR, isNew, xS, Ty.isAgg, zB, idsL, ids, idsLL, reach, depth, St.dropL, qD, resultV, ↓reduceIte, Nat.reduceBEq, Nat.reduceAdd, Nat.reduceSub, Nat.reduceMul, Nat.reduceEqDiff, Nat.reduceLeDiff, Nat.reduceLT, qJ, qK, zV, zW, qL, qM, qN, qO, Eff.ap, qP, qQ, xW, qR, zI, onto, dropO, xA, sized, zP, eqT, eqG, minV, evUn, qS, zQ, zR, zS, qC, qT, upO, evSlice0, optInt, xC, qV, xD, del, xB, plain, plainL, zY, zZ, zT, qW, zU, zX, xY, qX, qY, qZ, xE, zJ, zK, zL, xF, xG, wit, xH, Option.isSome_some, xI, qH, xJ, evPre, St.with, xK, xL, zD, xM, xN, xO, Array.size, te, einl, inls, efr]
        exact ⟨(), trivial⟩
    · have eP : planFrom l gs (orderM gs) = planP l gs := rfl
      rw [eP]
      have hpl := plan_len l gs (orderM gs)
      rw [eP] at hpl
      generalize planP l gs = P at *
      obtain ⟨ks, left⟩ := P
      dsimp only at hpl ⊢
      obtain ⟨f, k101⟩ := c101f 1000 11 left (by omega) true true
      simp (maxSteps := 1000000) (implicitDefEqProofs := false) only [Int.lt_irrefl, ol, List.length_map, ss, List.replicate, zH, qG, zF, zG, St.eval, St.put, St.get, constV, List.set, lenV, qE, qF, qB, zC, norm, xQ, look, xP, xX, zO, zM, zE, zN, qA, qI, St.alloc, St.drop, killL, kill, xU, xV, zA, upd, cells?, part, retag, xT, putIn, refFree, xR, isNew, xS, Ty.isAgg, zB, idsL, ids, idsLL, reach, depth, St.dropL, qD, resultV, ↓reduceIte, Nat.reduceBEq, Nat.reduceAdd, Nat.reduceSub, Nat.reduceMul, Nat.reduceEqDiff, Nat.reduceLeDiff, Nat.reduceLT, qJ, qK, zV, zW, qL, qM, qN, qO, Eff.ap, qP, qQ, xW, qR, zI, onto, dropO, xA, sized, zP, eqT, eqG, minV, evUn, qS, zQ, zR, zS, qC, qT, upO, evSlice0, optInt, xC, qV, xD, del, xB, plain, plainL, zY, zZ, zT, qW, zU, zX, xY, qX, qY, qZ, xE, zJ, zK, zL, xF, xG, wit, xH, Option.isSome_some, xI, qH, xJ, evPre, St.with, xK, xL, zD, xM, xN, xO, Array.size, te, einl, inls, efr]
      rw [k101 _ _ ?g1 ?g2]
      case g1 => simp (maxSteps := 1000000) (implicitDefEqProofs := false) only [ss, List.replicate, zH, qG, zF, zG, St.eval, St.put, St.get, constV, List.set, lenV, qE, qF, qB, zC, norm, xQ, look, xP, xX, zO, zM, zE, zN, qA, qI, St.alloc, St.drop, killL, kill, xU, xV, zA, upd, cells?, part, retag, xT, putIn, refFree, xR, isNew, xS, Ty.isAgg, zB, idsL, ids, idsLL, reach, depth, St.dropL, qD, resultV, ↓reduceIte, Nat.reduceBEq, Nat.reduceAdd, Nat.reduceSub, Nat.reduceMul, Nat.reduceEqDiff, Nat.reduceLeDiff, Nat.reduceLT, qJ, qK, zV, zW, qL, qM, qN, qO, Eff.ap, qP, qQ, xW, qR, zI, onto, dropO, xA, sized, zP, eqT, eqG, minV, evUn, qS, zQ, zR, zS, qC, qT, upO, evSlice0, optInt, xC, qV, xD, del, xB, plain, plainL, zY, zZ, zT, qW, zU, zX, xY, qX, qY, qZ, xE, zJ, zK, zL, xF, xG, wit, xH, Option.isSome_some, xI, qH, xJ, evPre, St.with, xK, xL, zD, xM, xN, xO, Array.size, te, einl, inls, efr]
      case g2 => simp (maxSteps := 1000000) (implicitDefEqProofs := false) only [ss, List.replicate, zH, qG, zF, zG, St.eval, St.put, St.get, constV, List.set, lenV, qE, qF, qB, zC, norm, xQ, look, xP, xX, zO, zM, zE, zN, qA, qI, St.alloc, St.drop, killL, kill, xU, xV, zA, upd, cells?, part, retag, xT, putIn, refFree, xR, isNew, xS, Ty.isAgg, zB, idsL, ids, idsLL, reach, depth, St.dropL, qD, resultV, ↓reduceIte, Nat.reduceBEq, Nat.reduceAdd, Nat.reduceSub, Nat.reduceMul, Nat.reduceEqDiff, Nat.reduceLeDiff, Nat.reduceLT, qJ, qK, zV, zW, qL, qM, qN, qO, Eff.ap, qP, qQ, xW, qR, zI, onto, dropO, xA, sized, zP, eqT, eqG, minV, evUn, qS, zQ, zR, zS, qC, qT, upO, evSlice0, optInt, xC, qV, xD, del, xB, plain, plainL, zY, zZ, zT, qW, zU, zX, xY, qX, qY, qZ, xE, zJ, zK, zL, xF, xG, wit, xH, Option.isSome_some, xI, qH, xJ, evPre, St.with, xK, xL, zD, xM, xN, xO, Array.size, te, einl, inls, efr]
      simp (maxSteps := 1000000) (implicitDefEqProofs := false) only [Try.ntmps54, Try.results54, efc54, fc54, List.length_map, ss, List.replicate, zH, qG, zF, zG, St.eval, St.put, St.get, constV, List.set, lenV, qE, qF, qB, zC, norm, xQ, look, xP, xX, zO, zM, zE, zN, qA, qI, St.alloc, St.drop, killL, kill, xU, xV, zA, upd, cells?, part, retag, xT, putIn, refFree, xR, isNew, xS, Ty.isAgg, zB, idsL, ids, idsLL, reach, depth, St.dropL, qD, resultV, ↓reduceIte, Nat.reduceBEq, Nat.reduceAdd, Nat.reduceSub, Nat.reduceMul, Nat.reduceEqDiff, Nat.reduceLeDiff, Nat.reduceLT, qJ, qK, zV, zW, qL, qM, qN, qO, Eff.ap, qP, qQ, xW, qR, zI, onto, dropO, xA, sized, zP, eqT, eqG, minV, evUn, qS, zQ, zR, zS, qC, qT, upO, evSlice0, optInt, xC, qV, xD, del, xB, plain, plainL, zY, zZ, zT, qW, zU, zX, xY, qX, qY, qZ, xE, zJ, zK, zL, xF, xG, wit, xH, Option.isSome_some, xI, qH, xJ, evPre, St.with, xK, xL, zD, xM, xN, xO, Array.size, te, einl, inls, efr]
      generalize hr : loopAt _ _ _ _ _ _ = r; revert r
      refine loop_list ks (fun pre _ => [(17, .own 17 0 pre.length), (83, .int .i64 pre.length)]) (fun pre _ => [(17, { es := 4, flat := true, t := pre.isEmpty, app := true, elems := pre.map encLd })]) (fun _ (_ : Unit) => True) () (by omega) (by simp (maxSteps := 1000000) (implicitDefEqProofs := false) only [List.map_nil, List.length_nil, List.isEmpty_nil, Int.natCast_zero, ss, List.replicate, zH, qG, zF, zG, St.eval, St.put, St.get, constV, List.set, lenV, qE, qF, qB, zC, norm, xQ, look, xP, xX, zO, zM, zE, zN, qA, qI, St.alloc, St.drop, killL, kill, xU, xV, zA, upd, cells?, part, retag, xT, putIn, refFree, xR, isNew, xS, Ty.isAgg, zB, idsL, ids, idsLL, reach, depth, St.dropL, qD, resultV, ↓reduceIte, Nat.reduceBEq, Nat.reduceAdd, Nat.reduceSub, Nat.reduceMul, Nat.reduceEqDiff, Nat.reduceLeDiff, Nat.reduceLT, qJ, qK, zV, zW, qL, qM, qN, qO, Eff.ap, qP, qQ, xW, qR, zI, onto, dropO, xA, sized, zP, eqT, eqG, minV, evUn, qS, zQ, zR, zS, qC, qT, upO, evSlice0, optInt, xC, qV, xD, del, xB, plain, plainL, zY, zZ, zT, qW, zU, zX, xY, qX, qY, qZ, xE, zJ, zK, zL, xF, xG, wit, xH, Option.isSome_some, xI, qH, xJ, evPre, St.with, xK, xL, zD, xM, xN, xO, Array.size, te, einl, inls, efr]) trivial (fun _ _ => ?_) (fun pre x post _ hq _ g1 g2 g3 g4 => ?_)
      · have tk1 : (ks.map encLd).take ks.length = ks.map encLd := List.take_of_length_le (by simp)
        have il := isort_len (lt := ltI) left
        have tk2 : ((isort ltI left).map vI).take left.length = (isort ltI left).map vI := List.take_of_length_le (by simp [il])
        simp (maxSteps := 1000000) (implicitDefEqProofs := false) only [Int.lt_irrefl, tk1, tk2, il, Try.ntmps54, Try.results54, efc54, fc54, List.length_map, ss, List.replicate, zH, qG, zF, zG, St.eval, St.put, St.get, constV, List.set, lenV, qE, qF, qB, zC, norm, xQ, look, xP, xX, zO, zM, zE, zN, qA, qI, St.alloc, St.drop, killL, kill, xU, xV, zA, upd, cells?, part, retag, xT, putIn, refFree, xR, isNew, xS, Ty.isAgg, zB, idsL, ids, idsLL, reach, depth, St.dropL, qD, resultV, ↓reduceIte, Nat.reduceBEq, Nat.reduceAdd, Nat.reduceSub, Nat.reduceMul, Nat.reduceEqDiff, Nat.reduceLeDiff, Nat.reduceLT, qJ, qK, zV, zW, qL, qM, qN, qO, Eff.ap, qP, qQ, xW, qR, zI, onto, dropO, xA, sized, zP, eqT, eqG, minV, evUn, qS, zQ, zR, zS, qC, qT, upO, evSlice0, optInt, xC, qV, xD, del, xB, plain, plainL, zY, zZ, zT, qW, zU, zX, xY, qX, qY, qZ, xE, zJ, zK, zL, xF, xG, wit, xH, Option.isSome_some, xI, qH, xJ, evPre, St.with, xK, xL, zD, xM, xN, xO, Array.size, te, einl, inls, efr]
      · have hroom : roomy (pre.length + 1) 64 = true := by simp [roomy]; omega
        have hbig : pre.length + 1 ≤ 4294967296 := by omega
        have e5 : pre.map encLd ++ [encLd x] = (pre ++ [x]).map encLd := by simp
        rw [show encLd x = .agg [.int .i64 x.loft, .int .i64 x.start, .sl false (x.heats.map vI), .sl false (x.goods.map vI)] from rfl] at e5
        have e6 : (pre ++ [x]).isEmpty = false := by simp
        have e7 : (pre ++ [x]).length = pre.length + 1 := by simp
        have e8 : ks.isEmpty = false := by rw [hq]; simp
        simp (maxSteps := 1000000) (implicitDefEqProofs := false) only [g1, g2, g3, g4, hroom, hbig, e5, e6, e7, e8, encK, kCells, seeM, Bool.and_false, Int.natCast_nonneg, Int.toNat_natCast, List.getElem?_map, List.length_map, ss, List.replicate, zH, qG, zF, zG, St.eval, St.put, St.get, constV, List.set, lenV, qE, qF, qB, zC, norm, xQ, look, xP, xX, zO, zM, zE, zN, qA, qI, St.alloc, St.drop, killL, kill, xU, xV, zA, upd, cells?, part, retag, xT, putIn, refFree, xR, isNew, xS, Ty.isAgg, zB, idsL, ids, idsLL, reach, depth, St.dropL, qD, resultV, ↓reduceIte, Nat.reduceBEq, Nat.reduceAdd, Nat.reduceSub, Nat.reduceMul, Nat.reduceEqDiff, Nat.reduceLeDiff, Nat.reduceLT, qJ, qK, zV, zW, qL, qM, qN, qO, Eff.ap, qP, qQ, xW, qR, zI, onto, dropO, xA, sized, zP, eqT, eqG, minV, evUn, qS, zQ, zR, zS, qC, qT, upO, evSlice0, optInt, xC, qV, xD, del, xB, plain, plainL, zY, zZ, zT, qW, zU, zX, xY, qX, qY, qZ, xE, zJ, zK, zL, xF, xG, wit, xH, Option.isSome_some, xI, qH, xJ, evPre, St.with, xK, xL, zD, xM, xN, xO, Array.size, te, einl, inls, efr]
        exact ⟨(), trivial⟩
end Go.AM.B

