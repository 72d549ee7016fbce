/-
What is known of a load, and its errors by itself (the program's).
-/
import Derived.Test.YtbfgifolmpmagaaBCheckA
import Derived.Test.YtbfgifolmpmagaaAmBad
set_option linter.unusedVariables false
set_option linter.unusedSimpArgs false

namespace Go.AM.B
open Go Go.AM Go.Proofs

structure Known where
  load : Load
  fin : Int
  warm : Int
  pol : Int
def kCells (k : Known) : List V := [.int .i64 k.load.loft, .int .i64 k.load.start, .sl false (k.load.heats.map vI), .sl false (k.load.goods.map vI), .int .i64 k.fin, .int .i64 k.warm, .int .i64 k.pol]
def encK (k : Known) : V := .agg (kCells k)

def loftAt (l : List Loft) (n : Int) : Loft := (l[n.toNat]?).getD ⟨0, []⟩
def seeM (l : List Loft) (gs : List Goods) (x : Load) : Known := ⟨x, endM x, warmM (loftAt l x.loft) x.heats, polesM gs x.goods⟩

theorem loftAt_get {l : List Loft} {n : Int} (h0 : 0 ≤ n) (h1 : n < l.length) : l[n.toNat]? = some (loftAt l n) := by
  have : n.toNat < l.length := by omega
  unfold loftAt
  rw [List.getElem?_eq_getElem this]
  rfl

def goodAt (gs : List Goods) (n : Int) : Goods := (gs[n.toNat]?).getD ⟨0, 0, 0, 0, 0⟩
theorem goodAt_get {gs : List Goods} {n : Int} (h0 : 0 ≤ n) (h1 : n < gs.length) : gs[n.toNat]? = some (goodAt gs n) := by
  have : n.toNat < gs.length := by omega
  unfold goodAt
  rw [List.getElem?_eq_getElem this]
  rfl
theorem polesOf_good {gs : List Goods} {n : Int} (h0 : 0 ≤ n) (h1 : n < gs.length) : polesOf gs n = (goodAt gs n).poles := by
  unfold polesOf
  rw [goodAt_get h0 h1]

theorem inf85 : (drawn (Try.f85.body.getD .skip)).map infosOf = [[([], false), ([], false), ([], false), ([], false), ([], false), ([], false), ([], false), ([], false), ([], false), ([], false), ([], false), ([], false), ([], false), ([], false), ([], false), ([], false), ([0, 2, 4, 9, 10, 11, 13, 14], false), ([], true)], [([], false), ([], false), ([], false), ([], false), ([], false), ([], false), ([], false), ([], true), ([], true), ([], true)]] := by decide +kernel
theorem okD85 : (drawn (Try.f85.body.getD .skip)).all okBad = true := by decide +kernel


set_option maxRecDepth 20000 in
set_option maxHeartbeats 8000000 in
theorem c85 (l : List Loft) (gs : List Goods) (x : Load) (hl : ∀ f ∈ l, loftOk f = true) (hg : ∀ g ∈ gs, goodsOk g = true) (h1 : 0 ≤ x.loft ∧ x.loft < l.length) (h2 : 0 ≤ x.start ∧ x.start ≤ 1000) (h3 : heatsFrom 0 x.heats = true) (h4 : x.heats.length ≤ 1000)
    (h5 : ∀ n ∈ x.goods, 0 ≤ n ∧ n < gs.length) (h6 : x.goods.length ≤ 1000000) : (orcω E X0).call 85 [.sl false (l.map encL), .sl false (gs.map encG), encLd x] = some (encK (seeM l gs x)) := by
  refine call_of rfl fn85 rfl ?_
  have hi := inf85
  have ho := okD85
  simp only [Try.f85, Option.getD_some, drawn, List.map_cons, List.map_nil, List.nil_append, List.append_nil, List.cons_append, List.cons.injEq, and_true] at hi
  simp only [Try.f85, Option.getD_some, drawn, List.nil_append, List.append_nil, List.cons_append, List.all_cons, List.all_nil, Bool.and_true, Bool.and_eq_true] at ho
  obtain ⟨hi1, hi2⟩ := hi
  obtain ⟨ho1, ho2⟩ := ho
  have e1 := loftAt_get h1.1 h1.2
  have hf : loftOk (loftAt l x.loft) = true := hl _ (List.mem_of_getElem? e1)
  have k1 := c62 (loftAt l x.loft) x.heats hf h3 h4
  have w1 : IntKind.i64.wrap (x.start + (x.heats.length : Int)) = endM x := wrap_in (by omega)
  unfold encLd encK kCells seeM
  unfold encL at k1
  simp (maxSteps := 1000000) (implicitDefEqProofs := false) only [Try.ntmps85, Try.results85, efc85, fc85, e1, k1, w1, h1.1, h1.2, encL, Int.natCast_nonneg, Int.toNat_natCast, List.getElem?_map, List.length_map, regT ho1 hi1, evBT_nil, evBT_cons, effT_true, effT_false, effT2_some, effT2_none, calmT, free, Eff.writes, supp, isBar, ss, List.replicate, zH, qG, zF, zG, St.eval, St.put, St.get, constV, List.set, lenV, qE, qF, qB, zC, norm, xQ, look, xP, xX, zO, zM, zE, zN, qA, qI, St.alloc, St.drop, killL, kill, xU, xV, zA, upd, cells?, part, retag, xT, putIn, refFree, xR, isNew, xS, Ty.isAgg, zB, idsL, ids, idsLL, reach, depth, St.dropL, qD, resultV, ↓reduceIte, Nat.reduceBEq, Nat.reduceAdd, Nat.reduceSub, Nat.reduceMul, Nat.reduceEqDiff, Nat.reduceLeDiff, Nat.reduceLT, qJ, qK, zV, zW, qL, qM, qN, qO, Eff.ap, qP, qQ, xW, qR, zI, onto, dropO, xA, sized, zP, eqT, eqG, minV, evUn, qS, zQ, zR, zS, qC, qT, upO, evSlice0, optInt, xC, qV, xD, del, xB, plain, plainL, zY, zZ, zT, qW, zU, zX, xY, qX, qY, qZ, xE, zJ, zK, zL, xF, xG, wit, xH, Option.isSome_some, xI, qH, xJ, evPre, St.with, xK, xL, zD, xM, xN, xO, Array.size, te, einl, inls, efr]
  generalize hr : loopAt _ _ _ _ _ _ = r; revert r
  refine loop_list x.goods (fun pre _ => [(29, .int .i64 pre.length)]) (fun pre _ => [(7, { es := 7, flat := true, t := false, app := false, elems := [.agg [.int .i64 x.loft, .int .i64 x.start, .sl false (x.heats.map vI), .sl false (x.goods.map vI), .int .i64 (endM x), .int .i64 (warmM (loftAt l x.loft) x.heats), .int .i64 (polesM gs pre)]] })]) (fun _ (_ : Unit) => True) () (by omega) (by simp (maxSteps := 1000000) (implicitDefEqProofs := false) only [polesM, List.map_nil, List.sum_nil, ss, List.replicate, zH, qG, zF, zG, St.eval, St.put, St.get, constV, List.set, lenV, qE, qF, qB, zC, norm, xQ, look, xP, xX, zO, zM, zE, zN, qA, qI, St.alloc, St.drop, killL, kill, xU, xV, zA, upd, cells?, part, retag, xT, putIn, refFree, xR, isNew, xS, Ty.isAgg, zB, idsL, ids, idsLL, reach, depth, St.dropL, qD, resultV, ↓reduceIte, Nat.reduceBEq, Nat.reduceAdd, Nat.reduceSub, Nat.reduceMul, Nat.reduceEqDiff, Nat.reduceLeDiff, Nat.reduceLT, qJ, qK, zV, zW, qL, qM, qN, qO, Eff.ap, qP, qQ, xW, qR, zI, onto, dropO, xA, sized, zP, eqT, eqG, minV, evUn, qS, zQ, zR, zS, qC, qT, upO, evSlice0, optInt, xC, qV, xD, del, xB, plain, plainL, zY, zZ, zT, qW, zU, zX, xY, qX, qY, qZ, xE, zJ, zK, zL, xF, xG, wit, xH, Option.isSome_some, xI, qH, xJ, evPre, St.with, xK, xL, zD, xM, xN, xO, Array.size, te, einl, inls, efr]) trivial (fun _ _ => ?_) (fun pre n post _ hq _ g1 g2 g3 g4 => ?_)
  · simp (maxSteps := 1000000) (implicitDefEqProofs := false) only [Int.lt_irrefl, Try.ntmps85, Try.results85, efc85, fc85, List.length_map, ss, List.replicate, zH, qG, zF, zG, St.eval, St.put, St.get, constV, List.set, lenV, qE, qF, qB, zC, norm, xQ, look, xP, xX, zO, zM, zE, zN, qA, qI, St.alloc, St.drop, killL, kill, xU, xV, zA, upd, cells?, part, retag, xT, putIn, refFree, xR, isNew, xS, Ty.isAgg, zB, idsL, ids, idsLL, reach, depth, St.dropL, qD, resultV, ↓reduceIte, Nat.reduceBEq, Nat.reduceAdd, Nat.reduceSub, Nat.reduceMul, Nat.reduceEqDiff, Nat.reduceLeDiff, Nat.reduceLT, qJ, qK, zV, zW, qL, qM, qN, qO, Eff.ap, qP, qQ, xW, qR, zI, onto, dropO, xA, sized, zP, eqT, eqG, minV, evUn, qS, zQ, zR, zS, qC, qT, upO, evSlice0, optInt, xC, qV, xD, del, xB, plain, plainL, zY, zZ, zT, qW, zU, zX, xY, qX, qY, qZ, xE, zJ, zK, zL, xF, xG, wit, xH, Option.isSome_some, xI, qH, xJ, evPre, St.with, xK, xL, zD, xM, xN, xO, Array.size, te, einl, inls, efr]
  · have hx := h5 n (List.mem_of_getElem? g3)
    have g5 := goodAt_get hx.1 hx.2
    have p1 := polesOf_in hg n
    have p2 := polesM_in hg pre
    rw [polesOf_good hx.1 hx.2] at p1
    have w2 : IntKind.i64.wrap (polesM gs pre + (goodAt gs n).poles) = polesM gs (pre ++ [n]) := by rw [polesM_snoc, polesOf_good hx.1 hx.2]; exact wrap_in (by omega)
    simp (maxSteps := 1000000) (implicitDefEqProofs := false) only [g1, g2, g3, g4, g5, hx.1, hx.2, w2, encG, vI_def, Int.natCast_nonneg, Int.toNat_natCast, List.getElem?_map, List.length_map, regT ho2 hi2, evBT_nil, evBT_cons, effT_true, effT_false, effT2_some, effT2_none, calmT, free, Eff.writes, supp, isBar, Option.toList_some, Option.toList_none, ss, List.replicate, zH, qG, zF, zG, St.eval, St.put, St.get, constV, List.set, lenV, qE, qF, qB, zC, norm, xQ, look, xP, xX, zO, zM, zE, zN, qA, qI, St.alloc, St.drop, killL, kill, xU, xV, zA, upd, cells?, part, retag, xT, putIn, refFree, xR, isNew, xS, Ty.isAgg, zB, idsL, ids, idsLL, reach, depth, St.dropL, qD, resultV, ↓reduceIte, Nat.reduceBEq, Nat.reduceAdd, Nat.reduceSub, Nat.reduceMul, Nat.reduceEqDiff, Nat.reduceLeDiff, Nat.reduceLT, qJ, qK, zV, zW, qL, qM, qN, qO, Eff.ap, qP, qQ, xW, qR, zI, onto, dropO, xA, sized, zP, eqT, eqG, minV, evUn, qS, zQ, zR, zS, qC, qT, upO, evSlice0, optInt, xC, qV, xD, del, xB, plain, plainL, zY, zZ, zT, qW, zU, zX, xY, qX, qY, qZ, xE, zJ, zK, zL, xF, xG, wit, xH, Option.isSome_some, xI, qH, xJ, evPre, St.with, xK, xL, zD, xM, xN, xO, Array.size, te, einl, inls, efr]
    (first | exact ⟨(), trivial⟩ | refine ⟨(), ?_, trivial⟩ | skip)

def fpK (k : Known) : V := .fp false (kCells k) 0
def fpG (gs : List Goods) : V := .fp false [.sl false (gs.map encG)] 0

theorem c114 (k : Known) (g : Goods) : (orcω E X0).call 114 [encG g, fpK k] = some (.bool (decide (k.load.start < g.ready))) := by
  refine call_of rfl fn114 rfl ?_
  unfold encG fpK kCells
  simp (maxSteps := 1000000) (implicitDefEqProofs := false) only [Try.ntmps114, Try.results114, efc114, ss, List.replicate, zH, qG, zF, zG, St.eval, St.put, St.get, constV, List.set, lenV, qE, qF, qB, zC, norm, xQ, look, xP, xX, zO, zM, zE, zN, qA, qI, St.alloc, St.drop, killL, kill, xU, xV, zA, upd, cells?, part, retag, xT, putIn, refFree, xR, isNew, xS, Ty.isAgg, zB, idsL, ids, idsLL, reach, depth, St.dropL, qD, resultV, ↓reduceIte, Nat.reduceBEq, Nat.reduceAdd, Nat.reduceSub, Nat.reduceMul, Nat.reduceEqDiff, Nat.reduceLeDiff, Nat.reduceLT, qJ, qK, zV, zW, qL, qM, qN, qO, Eff.ap, qP, qQ, xW, qR, zI, onto, dropO, xA, sized, zP, eqT, eqG, minV, evUn, qS, zQ, zR, zS, qC, qT, upO, evSlice0, optInt, xC, qV, xD, del, xB, plain, plainL, zY, zZ, zT, qW, zU, zX, xY, qX, qY, qZ, xE, zJ, zK, zL, xF, xG, wit, xH, Option.isSome_some, xI, qH, xJ, evPre, St.with, xK, xL, zD, xM, xN, xO, Array.size, te, einl, inls, efr]

theorem c115 (k : Known) (g : Goods) : (orcω E X0).call 115 [encG g, fpK k] = some (.bool (!inB k.warm g.need g.most)) := by
  refine call_of rfl fn115 rfl ?_
  have k1 := c58 k.warm g.need g.most
  unfold encG fpK kCells
  simp (maxSteps := 1000000) (implicitDefEqProofs := false) only [Try.ntmps115, Try.results115, efc115, k1, ss, List.replicate, zH, qG, zF, zG, St.eval, St.put, St.get, constV, List.set, lenV, qE, qF, qB, zC, norm, xQ, look, xP, xX, zO, zM, zE, zN, qA, qI, St.alloc, St.drop, killL, kill, xU, xV, zA, upd, cells?, part, retag, xT, putIn, refFree, xR, isNew, xS, Ty.isAgg, zB, idsL, ids, idsLL, reach, depth, St.dropL, qD, resultV, ↓reduceIte, Nat.reduceBEq, Nat.reduceAdd, Nat.reduceSub, Nat.reduceMul, Nat.reduceEqDiff, Nat.reduceLeDiff, Nat.reduceLT, qJ, qK, zV, zW, qL, qM, qN, qO, Eff.ap, qP, qQ, xW, qR, zI, onto, dropO, xA, sized, zP, eqT, eqG, minV, evUn, qS, zQ, zR, zS, qC, qT, upO, evSlice0, optInt, xC, qV, xD, del, xB, plain, plainL, zY, zZ, zT, qW, zU, zX, xY, qX, qY, qZ, xE, zJ, zK, zL, xF, xG, wit, xH, Option.isSome_some, xI, qH, xJ, evPre, St.with, xK, xL, zD, xM, xN, xO, Array.size, te, einl, inls, efr]

theorem c116 (k : Known) (g : Goods) : (orcω E X0).call 116 [encG g, fpK k] = some (.bool (decide (g.due < k.fin))) := by
  refine call_of rfl fn116 rfl ?_
  unfold encG fpK kCells
  simp (maxSteps := 1000000) (implicitDefEqProofs := false) only [Try.ntmps116, Try.results116, efc116, ss, List.replicate, zH, qG, zF, zG, St.eval, St.put, St.get, constV, List.set, lenV, qE, qF, qB, zC, norm, xQ, look, xP, xX, zO, zM, zE, zN, qA, qI, St.alloc, St.drop, killL, kill, xU, xV, zA, upd, cells?, part, retag, xT, putIn, refFree, xR, isNew, xS, Ty.isAgg, zB, idsL, ids, idsLL, reach, depth, St.dropL, qD, resultV, ↓reduceIte, Nat.reduceBEq, Nat.reduceAdd, Nat.reduceSub, Nat.reduceMul, Nat.reduceEqDiff, Nat.reduceLeDiff, Nat.reduceLT, qJ, qK, zV, zW, qL, qM, qN, qO, Eff.ap, qP, qQ, xW, qR, zI, onto, dropO, xA, sized, zP, eqT, eqG, minV, evUn, qS, zQ, zR, zS, qC, qT, upO, evSlice0, optInt, xC, qV, xD, del, xB, plain, plainL, zY, zZ, zT, qW, zU, zX, xY, qX, qY, qZ, xE, zJ, zK, zL, xF, xG, wit, xH, Option.isSome_some, xI, qH, xJ, evPre, St.with, xK, xL, zD, xM, xN, xO, Array.size, te, einl, inls, efr]
end Go.AM.B

