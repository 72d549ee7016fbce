/-
Loads: their errors by themselves, as the program finds them (closures that are handed on).
-/
import Derived.Test.YtbfgifolmpmagaaBCheckB
set_option linter.unusedVariables false
set_option linter.unusedSimpArgs false

namespace Go.AM.B
open Go Go.AM Go.Proofs

def idxF {α : Type} (q : α → Bool) : Nat → List α → Int
  | _, [] => -1
  | i, x :: r => if q x = true then (i : Int) else idxF q (i + 1) r
theorem idx_split {α : Type} {q : α → Bool} : ∀ (pre post : List α) (i : Nat), pre.any q = false → idxF q i (pre ++ post) = idxF q (i + pre.length) post
  | [], _, _, _ => rfl
  | x :: pre, post, i, h => by
    rw [List.any_cons, Bool.or_eq_false_iff] at h
    rw [List.cons_append, idxF, if_neg (by rw [h.1]; simp), idx_split pre post (i + 1) h.2, List.length_cons]
    congr 1
    omega
theorem idx_any {α : Type} {q : α → Bool} : ∀ (l : List α) (i : Nat), decide (0 ≤ idxF q i l) = l.any q
  | [], _ => rfl
  | x :: l, i => by
    rw [idxF, List.any_cons]
    cases h : q x with
    | true => simp
    | false => simpa using idx_any l (i + 1)

def NotI (fw : Nat) : Prop := (fw == 105) = false ∧ (fw == 79) = false ∧ (fw == 94) = false ∧ (fw == 121) = false ∧ (fw == 128) = false ∧ (fw == 101) = false ∧ (fw == 124) = false ∧ (fw == 130) = false ∧ (fw == 123) = false ∧ (fw == 100) = false

section
variable {k : Known} {gs : List Goods} {fw : Nat} {p : Goods → Bool}

theorem okT113 : okCode (Try.f113.body.getD .skip) = true := by decide +kernel

theorem c113 (h1 : NotI fw) (hW : ∀ g, (orcω E X0).call fw [encG g, fpK k] = some (.bool (p g))) (n : Int) (hn : 0 ≤ n ∧ n < gs.length) :
    (orcω E X0).call 113 [.int .i64 n, .fp false [.clo fw [] [fpK k]] 0, fpG gs] = some (.bool (p (goodAt gs n))) := by
  refine call_of rfl fn113 rfl ?_
  have hok := okT113
  simp only [Try.f113, Option.getD_some, okCode, Bool.and_eq_true, Bool.and_true, Bool.true_and] at hok
  simp only [NotI] at h1
  have k1 := hW (goodAt gs n)
  have g5 := goodAt_get hn.1 hn.2
  unfold encG at k1
  unfold fpK at k1 ⊢
  unfold fpG
  simp (maxSteps := 1000000) (implicitDefEqProofs := false) only [Try.ntmps113, Try.results113, efc113, k1, g5, hn.1, hn.2, h1, encG, List.getElem?_map, List.length_map, evRegion_st hok, ss, List.replicate, zH, qG, zF, zG, St.eval, St.put, St.get, constV, List.set, lenV, qE, qF, qB, zC, norm, xQ, look, xP, xX, zO, zM, zE, zN, qA, qI, St.alloc, St.drop, killL, kill, xU, xV, zA, upd, cells?, part, retag, xT, putIn, refFree, xR, isNew, xS, Ty.isAgg, zB, idsL, ids, idsLL, reach, depth, St.dropL, qD, resultV, ↓reduceIte, Nat.reduceBEq, Nat.reduceAdd, Nat.reduceSub, Nat.reduceMul, Nat.reduceEqDiff, Nat.reduceLeDiff, Nat.reduceLT, qJ, qK, zV, zW, qL, qM, qN, qO, Eff.ap, qP, qQ, xW, qR, zI, onto, dropO, xA, sized, zP, eqT, eqG, minV, evUn, qS, zQ, zR, zS, qC, qT, upO, evSlice0, optInt, xC, qV, xD, del, xB, plain, plainL, zY, zZ, zT, qW, zU, zX, xY, qX, qY, qZ, xE, zJ, zK, zL, xF, xG, wit, xH, Option.isSome_some, xI, qH, xJ, evPre, St.with, xK, xL, zD, xM, xN, xO, Array.size, te, einl, inls, efr]

set_option maxHeartbeats 4000000 in
theorem c127 (h1 : NotI fw) (hW : ∀ g, (orcω E X0).call fw [encG g, fpK k] = some (.bool (p g))) (ns : List Int) (hn : ∀ n ∈ ns, 0 ≤ n ∧ n < gs.length) (hl : ns.length ≤ 1000000) :
    (orcω E X0).call 127 [.sl false (ns.map vI), .clo 113 [] [.fp false [.clo fw [] [fpK k]] 0, fpG gs]] = some (.int .i64 (idxF (fun n => p (goodAt gs n)) 0 ns)) := by
  refine call_of rfl fn127 rfl ?_
  have k1 := fun n hn => c113 (k := k) (gs := gs) (fw := fw) (p := p) h1 hW n hn
  unfold fpK fpG at k1 ⊢
  simp (maxSteps := 1000000) (implicitDefEqProofs := false) only [Try.ntmps127, Try.results127, efc127, fc127, ss, List.replicate, zH, qG, zF, zG, St.eval, St.put, St.get, constV, List.set, lenV, qE, qF, qB, zC, norm, xQ, look, xP, xX, zO, zM, zE, zN, qA, qI, St.alloc, St.drop, killL, kill, xU, xV, zA, upd, cells?, part, retag, xT, putIn, refFree, xR, isNew, xS, Ty.isAgg, zB, idsL, ids, idsLL, reach, depth, St.dropL, qD, resultV, ↓reduceIte, Nat.reduceBEq, Nat.reduceAdd, Nat.reduceSub, Nat.reduceMul, Nat.reduceEqDiff, Nat.reduceLeDiff, Nat.reduceLT, qJ, qK, zV, zW, qL, qM, qN, qO, Eff.ap, qP, qQ, xW, qR, zI, onto, dropO, xA, sized, zP, eqT, eqG, minV, evUn, qS, zQ, zR, zS, qC, qT, upO, evSlice0, optInt, xC, qV, xD, del, xB, plain, plainL, zY, zZ, zT, qW, zU, zX, xY, qX, qY, qZ, xE, zJ, zK, zL, xF, xG, wit, xH, Option.isSome_some, xI, qH, xJ, evPre, St.with, xK, xL, zD, xM, xN, xO, Array.size, te, einl, inls, efr]
  generalize hr : loopAt _ _ _ _ _ _ = r; revert r
  refine loop_list ns (fun pre _ => [(8, .int .i64 pre.length)]) (fun _ _ => []) (fun pre (_ : Unit) => pre.any (fun n => p (goodAt gs n)) = false) () (by omega) (by simp (maxSteps := 1000000) (implicitDefEqProofs := false) only [ss, List.replicate, zH, qG, zF, zG, St.eval, St.put, St.get, constV, List.set, lenV, qE, qF, qB, zC, norm, xQ, look, xP, xX, zO, zM, zE, zN, qA, qI, St.alloc, St.drop, killL, kill, xU, xV, zA, upd, cells?, part, retag, xT, putIn, refFree, xR, isNew, xS, Ty.isAgg, zB, idsL, ids, idsLL, reach, depth, St.dropL, qD, resultV, ↓reduceIte, Nat.reduceBEq, Nat.reduceAdd, Nat.reduceSub, Nat.reduceMul, Nat.reduceEqDiff, Nat.reduceLeDiff, Nat.reduceLT, qJ, qK, zV, zW, qL, qM, qN, qO, Eff.ap, qP, qQ, xW, qR, zI, onto, dropO, xA, sized, zP, eqT, eqG, minV, evUn, qS, zQ, zR, zS, qC, qT, upO, evSlice0, optInt, xC, qV, xD, del, xB, plain, plainL, zY, zZ, zT, qW, zU, zX, xY, qX, qY, qZ, xE, zJ, zK, zL, xF, xG, wit, xH, Option.isSome_some, xI, qH, xJ, evPre, St.with, xK, xL, zD, xM, xN, xO, Array.size, te, einl, inls, efr]) rfl (fun _ hi => ?_) (fun pre x post _ hq hi g1 g2 g3 g4 => ?_)
  · have e1 : idxF (fun n => p (goodAt gs n)) 0 ns = -1 := by
      have := idx_split ns [] 0 hi
      rw [List.append_nil] at this
      rw [this]; rfl
    simp (maxSteps := 1000000) (implicitDefEqProofs := false) only [Int.lt_irrefl, e1, Try.ntmps127, Try.results127, efc127, fc127, List.length_map, ss, List.replicate, zH, qG, zF, zG, St.eval, St.put, St.get, constV, List.set, lenV, qE, qF, qB, zC, norm, xQ, look, xP, xX, zO, zM, zE, zN, qA, qI, St.alloc, St.drop, killL, kill, xU, xV, zA, upd, cells?, part, retag, xT, putIn, refFree, xR, isNew, xS, Ty.isAgg, zB, idsL, ids, idsLL, reach, depth, St.dropL, qD, resultV, ↓reduceIte, Nat.reduceBEq, Nat.reduceAdd, Nat.reduceSub, Nat.reduceMul, Nat.reduceEqDiff, Nat.reduceLeDiff, Nat.reduceLT, qJ, qK, zV, zW, qL, qM, qN, qO, Eff.ap, qP, qQ, xW, qR, zI, onto, dropO, xA, sized, zP, eqT, eqG, minV, evUn, qS, zQ, zR, zS, qC, qT, upO, evSlice0, optInt, xC, qV, xD, del, xB, plain, plainL, zY, zZ, zT, qW, zU, zX, xY, qX, qY, qZ, xE, zJ, zK, zL, xF, xG, wit, xH, Option.isSome_some, xI, qH, xJ, evPre, St.with, xK, xL, zD, xM, xN, xO, Array.size, te, einl, inls, efr]
  · have k2 := k1 x (hn x (List.mem_of_getElem? g3))
    have e1 := idx_split pre (x :: post) 0 hi
    rw [← hq, Nat.zero_add, idxF] at e1
    cases hp : p (goodAt gs x) with
    | true =>
      rw [hp] at k2 e1
      rw [if_pos rfl] at e1
      simp (maxSteps := 1000000) (implicitDefEqProofs := false) only [g1, g2, g3, g4, k2, e1, vI_def, Try.ntmps127, Try.results127, efc127, fc127, Int.natCast_nonneg, Int.toNat_natCast, List.getElem?_map, List.length_map, ss, List.replicate, zH, qG, zF, zG, St.eval, St.put, St.get, constV, List.set, lenV, qE, qF, qB, zC, norm, xQ, look, xP, xX, zO, zM, zE, zN, qA, qI, St.alloc, St.drop, killL, kill, xU, xV, zA, upd, cells?, part, retag, xT, putIn, refFree, xR, isNew, xS, Ty.isAgg, zB, idsL, ids, idsLL, reach, depth, St.dropL, qD, resultV, ↓reduceIte, Nat.reduceBEq, Nat.reduceAdd, Nat.reduceSub, Nat.reduceMul, Nat.reduceEqDiff, Nat.reduceLeDiff, Nat.reduceLT, qJ, qK, zV, zW, qL, qM, qN, qO, Eff.ap, qP, qQ, xW, qR, zI, onto, dropO, xA, sized, zP, eqT, eqG, minV, evUn, qS, zQ, zR, zS, qC, qT, upO, evSlice0, optInt, xC, qV, xD, del, xB, plain, plainL, zY, zZ, zT, qW, zU, zX, xY, qX, qY, qZ, xE, zJ, zK, zL, xF, xG, wit, xH, Option.isSome_some, xI, qH, xJ, evPre, St.with, xK, xL, zD, xM, xN, xO, Array.size, te, einl, inls, efr]
    | false =>
      rw [hp] at k2
      simp (maxSteps := 1000000) (implicitDefEqProofs := false) only [g1, g2, g3, g4, k2, vI_def, Int.natCast_nonneg, Int.toNat_natCast, List.getElem?_map, List.length_map, ss, List.replicate, zH, qG, zF, zG, St.eval, St.put, St.get, constV, List.set, lenV, qE, qF, qB, zC, norm, xQ, look, xP, xX, zO, zM, zE, zN, qA, qI, St.alloc, St.drop, killL, kill, xU, xV, zA, upd, cells?, part, retag, xT, putIn, refFree, xR, isNew, xS, Ty.isAgg, zB, idsL, ids, idsLL, reach, depth, St.dropL, qD, resultV, ↓reduceIte, Nat.reduceBEq, Nat.reduceAdd, Nat.reduceSub, Nat.reduceMul, Nat.reduceEqDiff, Nat.reduceLeDiff, Nat.reduceLT, qJ, qK, zV, zW, qL, qM, qN, qO, Eff.ap, qP, qQ, xW, qR, zI, onto, dropO, xA, sized, zP, eqT, eqG, minV, evUn, qS, zQ, zR, zS, qC, qT, upO, evSlice0, optInt, xC, qV, xD, del, xB, plain, plainL, zY, zZ, zT, qW, zU, zX, xY, qX, qY, qZ, xE, zJ, zK, zL, xF, xG, wit, xH, Option.isSome_some, xI, qH, xJ, evPre, St.with, xK, xL, zD, xM, xN, xO, Array.size, te, einl, inls, efr]
      exact ⟨(), by rw [List.any_append, hi]; simp [hp]⟩

theorem c112 (h1 : NotI fw) (hW : ∀ g, (orcω E X0).call fw [encG g, fpK k] = some (.bool (p g))) (ns : List Int) (hn : ∀ n ∈ ns, 0 ≤ n ∧ n < gs.length) (hl : ns.length ≤ 1000000) :
    (orcω E X0).call 112 [.sl false (ns.map vI), .clo 113 [] [.fp false [.clo fw [] [fpK k]] 0, fpG gs]] = some (.bool (ns.any fun n => p (goodAt gs n))) := by
  refine call_of rfl fn112 rfl ?_
  have k1 := c127 (k := k) (gs := gs) (fw := fw) (p := p) h1 hW ns hn hl
  have e := idx_any (q := fun n => p (goodAt gs n)) ns 0
  unfold fpK fpG at k1 ⊢
  simp (maxSteps := 1000000) (implicitDefEqProofs := false) only [Try.ntmps112, Try.results112, efc112, k1, e, ss, List.replicate, zH, qG, zF, zG, St.eval, St.put, St.get, constV, List.set, lenV, qE, qF, qB, zC, norm, xQ, look, xP, xX, zO, zM, zE, zN, qA, qI, St.alloc, St.drop, killL, kill, xU, xV, zA, upd, cells?, part, retag, xT, putIn, refFree, xR, isNew, xS, Ty.isAgg, zB, idsL, ids, idsLL, reach, depth, St.dropL, qD, resultV, ↓reduceIte, Nat.reduceBEq, Nat.reduceAdd, Nat.reduceSub, Nat.reduceMul, Nat.reduceEqDiff, Nat.reduceLeDiff, Nat.reduceLT, qJ, qK, zV, zW, qL, qM, qN, qO, Eff.ap, qP, qQ, xW, qR, zI, onto, dropO, xA, sized, zP, eqT, eqG, minV, evUn, qS, zQ, zR, zS, qC, qT, upO, evSlice0, optInt, xC, qV, xD, del, xB, plain, plainL, zY, zZ, zT, qW, zU, zX, xY, qX, qY, qZ, xE, zJ, zK, zL, xF, xG, wit, xH, Option.isSome_some, xI, qH, xJ, evPre, St.with, xK, xL, zD, xM, xN, xO, Array.size, te, einl, inls, efr]

theorem c111 (h1 : NotI fw) (hW : ∀ g, (orcω E X0).call fw [encG g, fpK k] = some (.bool (p g))) (hn : ∀ n ∈ k.load.goods, 0 ≤ n ∧ n < gs.length) (hl : k.load.goods.length ≤ 1000000) :
    (orcω E X0).call 111 [.clo fw [] [fpK k], fpK k, fpG gs] = some (.bool (k.load.goods.any fun n => p (goodAt gs n))) := by
  refine call_of rfl fn111 rfl ?_
  have k1 := c112 (k := k) (gs := gs) (fw := fw) (p := p) h1 hW k.load.goods hn hl
  unfold fpK fpG kCells at k1 ⊢
  simp (maxSteps := 1000000) (implicitDefEqProofs := false) only [Try.ntmps111, Try.results111, efc111, k1, ss, List.replicate, zH, qG, zF, zG, St.eval, St.put, St.get, constV, List.set, lenV, qE, qF, qB, zC, norm, xQ, look, xP, xX, zO, zM, zE, zN, qA, qI, St.alloc, St.drop, killL, kill, xU, xV, zA, upd, cells?, part, retag, xT, putIn, refFree, xR, isNew, xS, Ty.isAgg, zB, idsL, ids, idsLL, reach, depth, St.dropL, qD, resultV, ↓reduceIte, Nat.reduceBEq, Nat.reduceAdd, Nat.reduceSub, Nat.reduceMul, Nat.reduceEqDiff, Nat.reduceLeDiff, Nat.reduceLT, qJ, qK, zV, zW, qL, qM, qN, qO, Eff.ap, qP, qQ, xW, qR, zI, onto, dropO, xA, sized, zP, eqT, eqG, minV, evUn, qS, zQ, zR, zS, qC, qT, upO, evSlice0, optInt, xC, qV, xD, del, xB, plain, plainL, zY, zZ, zT, qW, zU, zX, xY, qX, qY, qZ, xE, zJ, zK, zL, xF, xG, wit, xH, Option.isSome_some, xI, qH, xJ, evPre, St.with, xK, xL, zD, xM, xN, xO, Array.size, te, einl, inls, efr]
end

def aloneM (l : List Loft) (gs : List Goods) (k : Known) : Int :=
  if (loftAt l k.load.loft).poles < k.pol then 6 else if (k.load.goods.any fun n => decide (k.load.start < (goodAt gs n).ready)) = true then 7 else
  if (k.load.goods.any fun n => !inB k.warm (goodAt gs n).need (goodAt gs n).most) = true then 9 else if (k.load.goods.any fun n => decide ((goodAt gs n).due < k.fin)) = true then 12 else 0

theorem okT86 : okCode (Try.f86.body.getD .skip) = true := by decide +kernel

set_option maxHeartbeats 8000000 in
theorem c86 (l : List Loft) (gs : List Goods) (k : Known) (h1 : 0 ≤ k.load.loft ∧ k.load.loft < l.length) (hn : ∀ n ∈ k.load.goods, 0 ≤ n ∧ n < gs.length) (hl : k.load.goods.length ≤ 1000000) :
    (orcω E X0).call 86 [encK k, .sl false (l.map encL), .sl false (gs.map encG)] = some (.int .i64 (aloneM l gs k)) := by
  refine call_of rfl fn86 rfl ?_
  have hok := okT86
  simp only [Try.f86, Option.getD_some, okCode, Bool.and_eq_true, Bool.and_true, Bool.true_and] at hok
  have e1 := loftAt_get h1.1 h1.2
  have k7 := c111 (k := k) (gs := gs) (fw := 114) (p := fun g => decide (k.load.start < g.ready)) ⟨rfl, rfl, rfl, rfl, rfl, rfl, rfl, rfl, rfl, rfl⟩ (c114 k) hn hl
  have k9 := c111 (k := k) (gs := gs) (fw := 115) (p := fun g => !inB k.warm g.need g.most) ⟨rfl, rfl, rfl, rfl, rfl, rfl, rfl, rfl, rfl, rfl⟩ (c115 k) hn hl
  have k12 := c111 (k := k) (gs := gs) (fw := 116) (p := fun g => decide (g.due < k.fin)) ⟨rfl, rfl, rfl, rfl, rfl, rfl, rfl, rfl, rfl, rfl⟩ (c116 k) hn hl
  unfold aloneM
  unfold encK
  unfold fpK fpG kCells at k7 k9 k12
  unfold kCells
  by_cases c1 : (loftAt l k.load.loft).poles < k.pol
  · simp (maxSteps := 1000000) (implicitDefEqProofs := false) only [Try.ntmps86, Try.results86, efc86, e1, h1.1, h1.2, c1, encL, Int.natCast_nonneg, Int.toNat_natCast, List.getElem?_map, List.length_map, evRegion_st hok, ss, List.replicate, zH, qG, zF, zG, St.eval, St.put, St.get, constV, List.set, lenV, qE, qF, qB, zC, norm, xQ, look, xP, xX, zO, zM, zE, zN, qA, qI, St.alloc, St.drop, killL, kill, xU, xV, zA, upd, cells?, part, retag, xT, putIn, refFree, xR, isNew, xS, Ty.isAgg, zB, idsL, ids, idsLL, reach, depth, St.dropL, qD, resultV, ↓reduceIte, Nat.reduceBEq, Nat.reduceAdd, Nat.reduceSub, Nat.reduceMul, Nat.reduceEqDiff, Nat.reduceLeDiff, Nat.reduceLT, qJ, qK, zV, zW, qL, qM, qN, qO, Eff.ap, qP, qQ, xW, qR, zI, onto, dropO, xA, sized, zP, eqT, eqG, minV, evUn, qS, zQ, zR, zS, qC, qT, upO, evSlice0, optInt, xC, qV, xD, del, xB, plain, plainL, zY, zZ, zT, qW, zU, zX, xY, qX, qY, qZ, xE, zJ, zK, zL, xF, xG, wit, xH, Option.isSome_some, xI, qH, xJ, evPre, St.with, xK, xL, zD, xM, xN, xO, Array.size, te, einl, inls, efr]
  cases c2 : (k.load.goods.any fun n => decide (k.load.start < (goodAt gs n).ready)) with
  | true =>
    rw [c2] at k7
    simp (maxSteps := 1000000) (implicitDefEqProofs := false) only [Try.ntmps86, Try.results86, efc86, e1, h1.1, h1.2, c1, k7, encL, Int.natCast_nonneg, Int.toNat_natCast, List.getElem?_map, List.length_map, evRegion_st hok, ss, List.replicate, zH, qG, zF, zG, St.eval, St.put, St.get, constV, List.set, lenV, qE, qF, qB, zC, norm, xQ, look, xP, xX, zO, zM, zE, zN, qA, qI, St.alloc, St.drop, killL, kill, xU, xV, zA, upd, cells?, part, retag, xT, putIn, refFree, xR, isNew, xS, Ty.isAgg, zB, idsL, ids, idsLL, reach, depth, St.dropL, qD, resultV, ↓reduceIte, Nat.reduceBEq, Nat.reduceAdd, Nat.reduceSub, Nat.reduceMul, Nat.reduceEqDiff, Nat.reduceLeDiff, Nat.reduceLT, qJ, qK, zV, zW, qL, qM, qN, qO, Eff.ap, qP, qQ, xW, qR, zI, onto, dropO, xA, sized, zP, eqT, eqG, minV, evUn, qS, zQ, zR, zS, qC, qT, upO, evSlice0, optInt, xC, qV, xD, del, xB, plain, plainL, zY, zZ, zT, qW, zU, zX, xY, qX, qY, qZ, xE, zJ, zK, zL, xF, xG, wit, xH, Option.isSome_some, xI, qH, xJ, evPre, St.with, xK, xL, zD, xM, xN, xO, Array.size, te, einl, inls, efr]
  | false =>
  rw [c2] at k7
  cases c3 : (k.load.goods.any fun n => !inB k.warm (goodAt gs n).need (goodAt gs n).most) with
  | true =>
    rw [c3] at k9
    simp (maxSteps := 1000000) (implicitDefEqProofs := false) only [Try.ntmps86, Try.results86, efc86, e1, h1.1, h1.2, c1, k7, k9, encL, Int.natCast_nonneg, Int.toNat_natCast, List.getElem?_map, List.length_map, evRegion_st hok, Bool.false_eq_true, if_false, if_true, ss, List.replicate, zH, qG, zF, zG, St.eval, St.put, St.get, constV, List.set, lenV, qE, qF, qB, zC, norm, xQ, look, xP, xX, zO, zM, zE, zN, qA, qI, St.alloc, St.drop, killL, kill, xU, xV, zA, upd, cells?, part, retag, xT, putIn, refFree, xR, isNew, xS, Ty.isAgg, zB, idsL, ids, idsLL, reach, depth, St.dropL, qD, resultV, ↓reduceIte, Nat.reduceBEq, Nat.reduceAdd, Nat.reduceSub, Nat.reduceMul, Nat.reduceEqDiff, Nat.reduceLeDiff, Nat.reduceLT, qJ, qK, zV, zW, qL, qM, qN, qO, Eff.ap, qP, qQ, xW, qR, zI, onto, dropO, xA, sized, zP, eqT, eqG, minV, evUn, qS, zQ, zR, zS, qC, qT, upO, evSlice0, optInt, xC, qV, xD, del, xB, plain, plainL, zY, zZ, zT, qW, zU, zX, xY, qX, qY, qZ, xE, zJ, zK, zL, xF, xG, wit, xH, Option.isSome_some, xI, qH, xJ, evPre, St.with, xK, xL, zD, xM, xN, xO, Array.size, te, einl, inls, efr]
  | false =>
  rw [c3] at k9
  cases c4 : (k.load.goods.any fun n => decide ((goodAt gs n).due < k.fin)) with
  | true =>
    rw [c4] at k12
    simp (maxSteps := 1000000) (implicitDefEqProofs := false) only [Try.ntmps86, Try.results86, efc86, e1, h1.1, h1.2, c1, k7, k9, k12, encL, Int.natCast_nonneg, Int.toNat_natCast, List.getElem?_map, List.length_map, evRegion_st hok, Bool.false_eq_true, if_false, if_true, ss, List.replicate, zH, qG, zF, zG, St.eval, St.put, St.get, constV, List.set, lenV, qE, qF, qB, zC, norm, xQ, look, xP, xX, zO, zM, zE, zN, qA, qI, St.alloc, St.drop, killL, kill, xU, xV, zA, upd, cells?, part, retag, xT, putIn, refFree, xR, isNew, xS, Ty.isAgg, zB, idsL, ids, idsLL, reach, depth, St.dropL, qD, resultV, ↓reduceIte, Nat.reduceBEq, Nat.reduceAdd, Nat.reduceSub, Nat.reduceMul, Nat.reduceEqDiff, Nat.reduceLeDiff, Nat.reduceLT, qJ, qK, zV, zW, qL, qM, qN, qO, Eff.ap, qP, qQ, xW, qR, zI, onto, dropO, xA, sized, zP, eqT, eqG, minV, evUn, qS, zQ, zR, zS, qC, qT, upO, evSlice0, optInt, xC, qV, xD, del, xB, plain, plainL, zY, zZ, zT, qW, zU, zX, xY, qX, qY, qZ, xE, zJ, zK, zL, xF, xG, wit, xH, Option.isSome_some, xI, qH, xJ, evPre, St.with, xK, xL, zD, xM, xN, xO, Array.size, te, einl, inls, efr]
  | false =>
    rw [c4] at k12
    simp (maxSteps := 1000000) (implicitDefEqProofs := false) only [Try.ntmps86, Try.results86, efc86, e1, h1.1, h1.2, c1, k7, k9, k12, encL, Int.natCast_nonneg, Int.toNat_natCast, List.getElem?_map, List.length_map, evRegion_st hok, Bool.false_eq_true, if_false, if_true, ss, List.replicate, zH, qG, zF, zG, St.eval, St.put, St.get, constV, List.set, lenV, qE, qF, qB, zC, norm, xQ, look, xP, xX, zO, zM, zE, zN, qA, qI, St.alloc, St.drop, killL, kill, xU, xV, zA, upd, cells?, part, retag, xT, putIn, refFree, xR, isNew, xS, Ty.isAgg, zB, idsL, ids, idsLL, reach, depth, St.dropL, qD, resultV, ↓reduceIte, Nat.reduceBEq, Nat.reduceAdd, Nat.reduceSub, Nat.reduceMul, Nat.reduceEqDiff, Nat.reduceLeDiff, Nat.reduceLT, qJ, qK, zV, zW, qL, qM, qN, qO, Eff.ap, qP, qQ, xW, qR, zI, onto, dropO, xA, sized, zP, eqT, eqG, minV, evUn, qS, zQ, zR, zS, qC, qT, upO, evSlice0, optInt, xC, qV, xD, del, xB, plain, plainL, zY, zZ, zT, qW, zU, zX, xY, qX, qY, qZ, xE, zJ, zK, zL, xF, xG, wit, xH, Option.isSome_some, xI, qH, xJ, evPre, St.with, xK, xL, zD, xM, xN, xO, Array.size, te, einl, inls, efr]
end Go.AM.B

