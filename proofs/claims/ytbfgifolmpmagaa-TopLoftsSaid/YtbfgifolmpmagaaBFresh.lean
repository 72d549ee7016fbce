/-
The new load for goods that is finished first.
-/
import Derived.Test.YtbfgifolmpmagaaBWith
set_option linter.unusedVariables false
set_option linter.unusedSimpArgs false

namespace Go.AM.B
open Go Go.AM Go.Proofs

def cB (l : List Loft) (gs : List Goods) : Option Load → List V
  | none => [.int .i64 0, .int .i64 0, .emp, .emp, .int .i64 0, .int .i64 0, .int .i64 0]
  | some x => kCells (seeM l gs x)
def bOb (l : List Loft) (gs : List Goods) (b : Option Load) : Ob := { es := 7, flat := true, t := b.isNone, app := false, elems := [.agg (cB l gs b)] }
def gOb (gs : List Goods) (n : Int) : Ob := { es := 5, flat := true, t := true, app := false, elems := [encG (goodAt gs n)] }
def ksOb (l : List Loft) (gs : List Goods) (ks : List Load) (T : Bool) : Ob := { es := 7, flat := true, t := T, app := true, elems := (ks.map (seeM l gs)).map encK }

def obs54 (l : List Loft) (gs : List Goods) (ord : List Int) (ks : List Load) (T : Bool) (left : List Int) (n : Int) : List (Nat × Ob) :=
  [(2, { es := 1, flat := true, t := false, app := false, elems := [.sl false (l.map encL)] }), (3, { es := 1, flat := true, t := false, app := false, elems := [.sl false (gs.map encG)] }), (8, { es := 1, flat := true, t := true, app := true, elems := ord.map vI }),
    (10, ksOb l gs ks T), (11, { es := 1, flat := true, t := true, app := true, elems := left.map vI }), (13, { es := 1, flat := true, t := true, app := false, elems := [.int .i64 n] })]
set_option maxRecDepth 20000 in
set_option maxHeartbeats 16000000 in
theorem c100 (l : List Loft) (gs : List Goods) (ks : List Load) (n : Int) (hl : ∀ f ∈ l, loftOk f = true) (hg : ∀ g ∈ gs, goodsOk g = true) (hx : ∀ x ∈ ks, Sound l gs x) (hn : 0 ≤ n ∧ n < gs.length) (hm : gs.length ≤ 8) (hln : l.length ≤ 1000) (hk : ks.length ≤ 1000000) (T : Bool) (ord left : List Int)
    (sl : List V) (h0 : ∀ id, 1000 ≤ id → killL id sl = sl) (h1 : idsL sl = [2, 3, 10, 11, 13, 8, 8, 10, 2, 3, 13, 10]) :
    ∃ sl', (orcω E X0).inl 1000 100 [.sl false (l.map encL), .sl false (gs.map encG), .own 10 0 ks.length, .int .i64 n] { slots := [], outer := [sl], objs := obs54 l gs ord ks T left n } =
      some (.tup [.agg (cB l gs (freshM l gs ks n)), .bool (freshM l gs ks n).isSome], { slots := sl', outer := [sl], objs := obs54 l gs ord ks T left n ++ [(1008, bOb l gs (freshM l gs ks n)), (1010, gOb gs n), (1011, bOb l gs (freshM l gs ks n))] }) := by
  refine (fun h : ∃ sl' : List V, _ = some (V.tup [.agg (cB l gs (freshM l gs ks n)), .bool (freshM l gs ks n).isSome], ({ slots := sl', outer := [sl], objs := obs54 l gs ord ks T left n ++ [(1008, bOb l gs (freshM l gs ks n)), (1010, gOb gs n), (1011, bOb l gs (freshM l gs ks n))] } : St)) => h.elim fun sl' h => ⟨sl', inl_of rfl fn100 rfl h⟩) ?_
  have q08 := h0 1008 (by decide)
  have q10 := h0 1010 (by decide)
  have q11 := h0 1011 (by decide)
  have q14 := h0 1014 (by decide)
  have q17 := h0 1017 (by decide)
  have q54 := h0 1054 (by decide)
  have gk := goodsOk_iff.1 (hg _ (goodAt_mem hn))
  have g0 := goodAt_get hn.1 hn.2
  have hends : ∀ x ∈ ks, endM x ≤ 60 := fun x h => sound_end hg (hx x h)
  have tk : ((ks.map (seeM l gs)).map encK).take ks.length = (ks.map (seeM l gs)).map encK := List.take_of_length_le (by simp)
  unfold obs54 ksOb gOb bOb
  simp (maxSteps := 1000000) (implicitDefEqProofs := false) only [Try.ntmps100, Try.results100, efc100, fc100, q08, q10, q11, h1, List.cons_append, List.nil_append, g0, hn.1, hn.2, encG, List.getElem?_map, List.length_map, ss, List.replicate, zH, qG, zF, zG, St.eval, St.put, St.get, constV, List.set, lenV, qE, qF, qB, zC, norm, xQ, look, xP, xX, zO, zM, zE, zN, qA, qI, St.alloc, St.drop, killL, kill, xU, xV, zA, upd, cells?, part, retag, xT, putIn, refFree, xR, isNew, xS, Ty.isAgg, zB, idsL, ids, idsLL, reach, depth, St.dropL, qD, resultV, ↓reduceIte, Nat.reduceBEq, Nat.reduceAdd, Nat.reduceSub, Nat.reduceMul, Nat.reduceEqDiff, Nat.reduceLeDiff, Nat.reduceLT, qJ, qK, zV, zW, qL, qM, qN, qO, Eff.ap, qP, qQ, xW, qR, zI, onto, dropO, xA, sized, zP, eqT, eqG, minV, evUn, qS, zQ, zR, zS, qC, qT, upO, evSlice0, optInt, xC, qV, xD, del, xB, plain, plainL, zY, zZ, zT, qW, zU, zX, xY, qX, qY, qZ, xE, zJ, zK, zL, xF, xG, wit, xH, Option.isSome_some, xI, qH, xJ, evPre, St.with, xK, xL, zD, xM, xN, xO, Array.size, te, einl, inls, efr]
  generalize hr : loopAt _ _ _ _ _ _ = r; revert r
  refine loop_list l (fun pre _ => [(12, .bool (freshM pre gs ks n).isSome), (24, .int .i64 pre.length)]) (fun pre _ => [(1011, { es := 7, flat := true, t := (freshM pre gs ks n).isNone, app := false, elems := [.agg (cB l gs (freshM pre gs ks n))] })]) (fun _ (_ : Unit) => True) () (by omega) (by simp (maxSteps := 1000000) (implicitDefEqProofs := false) only [freshM, List.zipIdx_nil, List.foldl_nil, cB, Option.isNone_none, Option.isSome_none, ss, List.replicate, zH, qG, zF, zG, St.eval, St.put, St.get, constV, List.set, lenV, qE, qF, qB, zC, norm, xQ, look, xP, xX, zO, zM, zE, zN, qA, qI, St.alloc, St.drop, killL, kill, xU, xV, zA, upd, cells?, part, retag, xT, putIn, refFree, xR, isNew, xS, Ty.isAgg, zB, idsL, ids, idsLL, reach, depth, St.dropL, qD, resultV, ↓reduceIte, Nat.reduceBEq, Nat.reduceAdd, Nat.reduceSub, Nat.reduceMul, Nat.reduceEqDiff, Nat.reduceLeDiff, Nat.reduceLT, qJ, qK, zV, zW, qL, qM, qN, qO, Eff.ap, qP, qQ, xW, qR, zI, onto, dropO, xA, sized, zP, eqT, eqG, minV, evUn, qS, zQ, zR, zS, qC, qT, upO, evSlice0, optInt, xC, qV, xD, del, xB, plain, plainL, zY, zZ, zT, qW, zU, zX, xY, qX, qY, qZ, xE, zJ, zK, zL, xF, xG, wit, xH, Option.isSome_some, xI, qH, xJ, evPre, St.with, xK, xL, zD, xM, xN, xO, Array.size, te, einl, inls, efr]) trivial (fun _ _ => ?_) (fun pre f post _ hq _ g1 g2 g3 g4 => ?_)
  · cases freshM l gs ks n with
    | none =>
      simp (maxSteps := 1000000) (implicitDefEqProofs := false) only [h1, List.cons_append, List.nil_append, Int.lt_irrefl, Try.ntmps100, Try.results100, efc100, fc100, cB, Option.isSome_none, Option.isNone_none, List.length_map, ss, List.replicate, zH, qG, zF, zG, St.eval, St.put, St.get, constV, List.set, lenV, qE, qF, qB, zC, norm, xQ, look, xP, xX, zO, zM, zE, zN, qA, qI, St.alloc, St.drop, killL, kill, xU, xV, zA, upd, cells?, part, retag, xT, putIn, refFree, xR, isNew, xS, Ty.isAgg, zB, idsL, ids, idsLL, reach, depth, St.dropL, qD, resultV, ↓reduceIte, Nat.reduceBEq, Nat.reduceAdd, Nat.reduceSub, Nat.reduceMul, Nat.reduceEqDiff, Nat.reduceLeDiff, Nat.reduceLT, qJ, qK, zV, zW, qL, qM, qN, qO, Eff.ap, qP, qQ, xW, qR, zI, onto, dropO, xA, sized, zP, eqT, eqG, minV, evUn, qS, zQ, zR, zS, qC, qT, upO, evSlice0, optInt, xC, qV, xD, del, xB, plain, plainL, zY, zZ, zT, qW, zU, zX, xY, qX, qY, qZ, xE, zJ, zK, zL, xF, xG, wit, xH, Option.isSome_some, xI, qH, xJ, evPre, St.with, xK, xL, zD, xM, xN, xO, Array.size, te, einl, inls, efr]
      exact ⟨_, rfl⟩
    | some x =>
      simp (maxSteps := 1000000) (implicitDefEqProofs := false) only [h1, List.cons_append, List.nil_append, Int.lt_irrefl, Try.ntmps100, Try.results100, efc100, fc100, cB, encK, kCells, Option.isSome_some, Option.isNone_some, List.length_map, ss, List.replicate, zH, qG, zF, zG, St.eval, St.put, St.get, constV, List.set, lenV, qE, qF, qB, zC, norm, xQ, look, xP, xX, zO, zM, zE, zN, qA, qI, St.alloc, St.drop, killL, kill, xU, xV, zA, upd, cells?, part, retag, xT, putIn, refFree, xR, isNew, xS, Ty.isAgg, zB, idsL, ids, idsLL, reach, depth, St.dropL, qD, resultV, ↓reduceIte, Nat.reduceBEq, Nat.reduceAdd, Nat.reduceSub, Nat.reduceMul, Nat.reduceEqDiff, Nat.reduceLeDiff, Nat.reduceLT, qJ, qK, zV, zW, qL, qM, qN, qO, Eff.ap, qP, qQ, xW, qR, zI, onto, dropO, xA, sized, zP, eqT, eqG, minV, evUn, qS, zQ, zR, zS, qC, qT, upO, evSlice0, optInt, xC, qV, xD, del, xB, plain, plainL, zY, zZ, zT, qW, zU, zX, xY, qX, qY, qZ, xE, zJ, zK, zL, xF, xG, wit, xH, Option.isSome_some, xI, qH, xJ, evPre, St.with, xK, xL, zD, xM, xN, xO, Array.size, te, einl, inls, efr]
      exact ⟨_, rfl⟩
  · have hf := hl f (List.mem_of_getElem? g3)
    have fs := freshM_snoc pre f gs ks n
    have k1 := c64 f (goodAt gs n).need (goodAt gs n).most hf
    rw [fs]
    generalize freshM pre gs ks n = B at *
    have pl : pre.length < l.length := g2
    unfold beginM
    cases hs : progS f (goodAt gs n).need (goodAt gs n).most with
    | none =>
      rw [hs] at k1
      simp only [encO, encL] at k1
      simp (maxSteps := 1000000) (implicitDefEqProofs := false) only [q14, q17, q54, h1, g1, g2, g3, g4, k1, better, encL, Int.natCast_nonneg, Int.toNat_natCast, List.getElem?_map, List.length_map, ss, List.replicate, zH, qG, zF, zG, St.eval, St.put, St.get, constV, List.set, lenV, qE, qF, qB, zC, norm, xQ, look, xP, xX, zO, zM, zE, zN, qA, qI, St.alloc, St.drop, killL, kill, xU, xV, zA, upd, cells?, part, retag, xT, putIn, refFree, xR, isNew, xS, Ty.isAgg, zB, idsL, ids, idsLL, reach, depth, St.dropL, qD, resultV, ↓reduceIte, Nat.reduceBEq, Nat.reduceAdd, Nat.reduceSub, Nat.reduceMul, Nat.reduceEqDiff, Nat.reduceLeDiff, Nat.reduceLT, qJ, qK, zV, zW, qL, qM, qN, qO, Eff.ap, qP, qQ, xW, qR, zI, onto, dropO, xA, sized, zP, eqT, eqG, minV, evUn, qS, zQ, zR, zS, qC, qT, upO, evSlice0, optInt, xC, qV, xD, del, xB, plain, plainL, zY, zZ, zT, qW, zU, zX, xY, qX, qY, qZ, xE, zJ, zK, zL, xF, xG, wit, xH, Option.isSome_some, xI, qH, xJ, evPre, St.with, xK, xL, zD, xM, xN, xO, Array.size, te, einl, inls, efr]
      exact ⟨(), trivial⟩
    | some h =>
      rw [hs] at k1
      simp only [encO, encL] at k1
      dsimp only
      by_cases hp : f.poles < (goodAt gs n).poles
      · have hp' : ¬ ((goodAt gs n).poles ≤ f.poles) := by omega
        simp (maxSteps := 1000000) (implicitDefEqProofs := false) only [q14, q17, q54, h1, g1, g2, g3, g4, k1, hp, hp', false_and, if_false, better, encL, Int.natCast_nonneg, Int.toNat_natCast, List.getElem?_map, List.length_map, ss, List.replicate, zH, qG, zF, zG, St.eval, St.put, St.get, constV, List.set, lenV, qE, qF, qB, zC, norm, xQ, look, xP, xX, zO, zM, zE, zN, qA, qI, St.alloc, St.drop, killL, kill, xU, xV, zA, upd, cells?, part, retag, xT, putIn, refFree, xR, isNew, xS, Ty.isAgg, zB, idsL, ids, idsLL, reach, depth, St.dropL, qD, resultV, ↓reduceIte, Nat.reduceBEq, Nat.reduceAdd, Nat.reduceSub, Nat.reduceMul, Nat.reduceEqDiff, Nat.reduceLeDiff, Nat.reduceLT, qJ, qK, zV, zW, qL, qM, qN, qO, Eff.ap, qP, qQ, xW, qR, zI, onto, dropO, xA, sized, zP, eqT, eqG, minV, evUn, qS, zQ, zR, zS, qC, qT, upO, evSlice0, optInt, xC, qV, xD, del, xB, plain, plainL, zY, zZ, zT, qW, zU, zX, xY, qX, qY, qZ, xE, zJ, zK, zL, xF, xG, wit, xH, Option.isSome_some, xI, qH, xJ, evPre, St.with, xK, xL, zD, xM, xN, xO, Array.size, te, einl, inls, efr]
        exact ⟨(), trivial⟩
      · have hp' : (goodAt gs n).poles ≤ f.poles := by omega
        obtain ⟨q1, q2, q3, q4⟩ := prog_right hf 12 1 h (Nat.le_refl _) hs
        have k2 := c85 l gs ⟨(pre.length : Int), (goodAt gs n).ready, h, [n]⟩ hl hg ⟨by dsimp only; omega, by dsimp only; omega⟩ ⟨by dsimp only; omega, by dsimp only; omega⟩ q1 (by dsimp only; omega) (fun z hz => by rw [List.mem_singleton.1 hz]; exact hn) (by simp)
        unfold encLd encK kCells at k2
        simp only [seeM, List.map_cons, List.map_nil, vI_def] at k2
        simp (maxSteps := 1000000) (implicitDefEqProofs := false) only [q14, q17, q54, h1, g1, g2, g3, g4, k1, k2, hp, hp', encL, Int.natCast_nonneg, Int.toNat_natCast, List.getElem?_map, List.length_map, ss, List.replicate, zH, qG, zF, zG, St.eval, St.put, St.get, constV, List.set, lenV, qE, qF, qB, zC, norm, xQ, look, xP, xX, zO, zM, zE, zN, qA, qI, St.alloc, St.drop, killL, kill, xU, xV, zA, upd, cells?, part, retag, xT, putIn, refFree, xR, isNew, xS, Ty.isAgg, zB, idsL, ids, idsLL, reach, depth, St.dropL, qD, resultV, ↓reduceIte, Nat.reduceBEq, Nat.reduceAdd, Nat.reduceSub, Nat.reduceMul, Nat.reduceEqDiff, Nat.reduceLeDiff, Nat.reduceLT, qJ, qK, zV, zW, qL, qM, qN, qO, Eff.ap, qP, qQ, xW, qR, zI, onto, dropO, xA, sized, zP, eqT, eqG, minV, evUn, qS, zQ, zR, zS, qC, qT, upO, evSlice0, optInt, xC, qV, xD, del, xB, plain, plainL, zY, zZ, zT, qW, zU, zX, xY, qX, qY, qZ, xE, zJ, zK, zL, xF, xG, wit, xH, Option.isSome_some, xI, qH, xJ, evPre, St.with, xK, xL, zD, xM, xN, xO, Array.size, te, einl, inls, efr]
        generalize hr : loopAt _ _ _ _ _ _ = r; revert r
        generalize hS : startM ks (pre.length : Int) (h.length : Int) 200 (goodAt gs n).ready = S at *
        refine loop_inv (ι := { i : Int × Nat // i.1 + i.2 = (goodAt gs n).ready + 200 ∧ (goodAt gs n).ready ≤ i.1 ∧ startM ks (pre.length : Int) (h.length : Int) i.2 i.1 = S }) (fun _ => []) (fun i => [(1017, { es := 7, flat := true, t := false, app := false, elems := [encK (seeM l gs ⟨(pre.length : Int), i.1.1, h, [n]⟩)] })]) (fun i => i.1.2) ⟨((goodAt gs n).ready, 200), rfl, Int.le_refl _, hS⟩ (by simp (maxSteps := 1000000) (implicitDefEqProofs := false) only [encK, kCells, seeM, List.map_cons, List.map_nil, vI_def, ss, List.replicate, zH, qG, zF, zG, St.eval, St.put, St.get, constV, List.set, lenV, qE, qF, qB, zC, norm, xQ, look, xP, xX, zO, zM, zE, zN, qA, qI, St.alloc, St.drop, killL, kill, xU, xV, zA, upd, cells?, part, retag, xT, putIn, refFree, xR, isNew, xS, Ty.isAgg, zB, idsL, ids, idsLL, reach, depth, St.dropL, qD, resultV, ↓reduceIte, Nat.reduceBEq, Nat.reduceAdd, Nat.reduceSub, Nat.reduceMul, Nat.reduceEqDiff, Nat.reduceLeDiff, Nat.reduceLT, qJ, qK, zV, zW, qL, qM, qN, qO, Eff.ap, qP, qQ, xW, qR, zI, onto, dropO, xA, sized, zP, eqT, eqG, minV, evUn, qS, zQ, zR, zS, qC, qT, upO, evSlice0, optInt, xC, qV, xD, del, xB, plain, plainL, zY, zZ, zT, qW, zU, zX, xY, qX, qY, qZ, xE, zJ, zK, zL, xF, xG, wit, xH, Option.isSome_some, xI, qH, xJ, evPre, St.with, xK, xL, zD, xM, xN, xO, Array.size, te, einl, inls, efr]) ?_
        rintro ⟨⟨s, m⟩, i1, i2, i3⟩
        dsimp only at i1 i2 i3 ⊢
        have tm := taken_meets l gs ks ⟨(pre.length : Int), s, h, [n]⟩
        have k3 := c87 (seeM l gs ⟨(pre.length : Int), s, h, [n]⟩) (ks.map (seeM l gs)) (by rw [List.length_map]; exact hk)
        rw [← tm] at k3
        have eM : endM ⟨(pre.length : Int), s, h, [n]⟩ = s + h.length := rfl
        have eK : encK (seeM l gs ⟨(pre.length : Int), s, h, [n]⟩) = .agg [.int .i64 (pre.length : Int), .int .i64 s, .sl false (h.map vI), .sl false [.int .i64 n], .int .i64 (s + h.length), .int .i64 (warmM (loftAt l (pre.length : Int)) h), .int .i64 (polesM gs [n])] := rfl
        rw [eK] at k3 ⊢
        simp only [eM] at k3
        cases hT : takenM ks (pre.length : Int) s (s + h.length) with
        | true =>
          rw [hT] at k3
          cases m with
          | zero =>
            have := start_free (i := (pre.length : Int)) (len := (h.length : Int)) hends 0 s (by omega)
            rw [startM, hT] at this
            cases this
          | succ m =>
            rw [startM, if_pos hT] at i3
            have w1 : IntKind.i64.wrap (s + 1) = s + 1 := wrap_in (by omega)
            have w2 : IntKind.i64.wrap (s + (h.length : Int) + 1) = s + 1 + h.length := by rw [wrap_in (by omega)]; omega
            simp (maxSteps := 1000000) (implicitDefEqProofs := false) only [q14, q17, q54, h1, k3, tk, w1, w2, ss, List.replicate, zH, qG, zF, zG, St.eval, St.put, St.get, constV, List.set, lenV, qE, qF, qB, zC, norm, xQ, look, xP, xX, zO, zM, zE, zN, qA, qI, St.alloc, St.drop, killL, kill, xU, xV, zA, upd, cells?, part, retag, xT, putIn, refFree, xR, isNew, xS, Ty.isAgg, zB, idsL, ids, idsLL, reach, depth, St.dropL, qD, resultV, ↓reduceIte, Nat.reduceBEq, Nat.reduceAdd, Nat.reduceSub, Nat.reduceMul, Nat.reduceEqDiff, Nat.reduceLeDiff, Nat.reduceLT, qJ, qK, zV, zW, qL, qM, qN, qO, Eff.ap, qP, qQ, xW, qR, zI, onto, dropO, xA, sized, zP, eqT, eqG, minV, evUn, qS, zQ, zR, zS, qC, qT, upO, evSlice0, optInt, xC, qV, xD, del, xB, plain, plainL, zY, zZ, zT, qW, zU, zX, xY, qX, qY, qZ, xE, zJ, zK, zL, xF, xG, wit, xH, Option.isSome_some, xI, qH, xJ, evPre, St.with, xK, xL, zD, xM, xN, xO, Array.size, te, einl, inls, efr]
            exact ⟨⟨(s + 1, m), by dsimp only; omega, by dsimp only; omega, i3⟩, rfl, Nat.lt_succ_self _⟩
        | false =>
          rw [hT] at k3
          have eS : s = S := by
            cases m with
            | zero => exact i3
            | succ m =>
              rw [startM, if_neg (by rw [hT]; decide)] at i3
              exact i3
          subst eS
          by_cases hd : s + (h.length : Int) ≤ (goodAt gs n).due
          · cases B with
            | none =>
              simp (maxSteps := 1000000) (implicitDefEqProofs := false) only [q14, q17, q54, h1, g4, k3, tk, hd, hp', better, cB, kCells, seeM, eM, List.map_cons, List.map_nil, vI_def, and_self, ↓reduceIte, Option.isSome_none, Option.isNone_none, Option.isSome_some, Option.isNone_some, ss, List.replicate, zH, qG, zF, zG, St.eval, St.put, St.get, constV, List.set, lenV, qE, qF, qB, zC, norm, xQ, look, xP, xX, zO, zM, zE, zN, qA, qI, St.alloc, St.drop, killL, kill, xU, xV, zA, upd, cells?, part, retag, xT, putIn, refFree, xR, isNew, xS, Ty.isAgg, zB, idsL, ids, idsLL, reach, depth, St.dropL, qD, resultV, ↓reduceIte, Nat.reduceBEq, Nat.reduceAdd, Nat.reduceSub, Nat.reduceMul, Nat.reduceEqDiff, Nat.reduceLeDiff, Nat.reduceLT, qJ, qK, zV, zW, qL, qM, qN, qO, Eff.ap, qP, qQ, xW, qR, zI, onto, dropO, xA, sized, zP, eqT, eqG, minV, evUn, qS, zQ, zR, zS, qC, qT, upO, evSlice0, optInt, xC, qV, xD, del, xB, plain, plainL, zY, zZ, zT, qW, zU, zX, xY, qX, qY, qZ, xE, zJ, zK, zL, xF, xG, wit, xH, Option.isSome_some, xI, qH, xJ, evPre, St.with, xK, xL, zD, xM, xN, xO, Array.size, te, einl, inls, efr]
              exact ⟨(), trivial⟩
            | some y =>
              by_cases hy : s + (h.length : Int) < endM y
              · simp (maxSteps := 1000000) (implicitDefEqProofs := false) only [q14, q17, q54, h1, g4, k3, tk, hd, hp', hy, better, cB, kCells, seeM, eM, List.map_cons, List.map_nil, vI_def, and_self, ↓reduceIte, Option.isSome_none, Option.isNone_none, Option.isSome_some, Option.isNone_some, ss, List.replicate, zH, qG, zF, zG, St.eval, St.put, St.get, constV, List.set, lenV, qE, qF, qB, zC, norm, xQ, look, xP, xX, zO, zM, zE, zN, qA, qI, St.alloc, St.drop, killL, kill, xU, xV, zA, upd, cells?, part, retag, xT, putIn, refFree, xR, isNew, xS, Ty.isAgg, zB, idsL, ids, idsLL, reach, depth, St.dropL, qD, resultV, ↓reduceIte, Nat.reduceBEq, Nat.reduceAdd, Nat.reduceSub, Nat.reduceMul, Nat.reduceEqDiff, Nat.reduceLeDiff, Nat.reduceLT, qJ, qK, zV, zW, qL, qM, qN, qO, Eff.ap, qP, qQ, xW, qR, zI, onto, dropO, xA, sized, zP, eqT, eqG, minV, evUn, qS, zQ, zR, zS, qC, qT, upO, evSlice0, optInt, xC, qV, xD, del, xB, plain, plainL, zY, zZ, zT, qW, zU, zX, xY, qX, qY, qZ, xE, zJ, zK, zL, xF, xG, wit, xH, Option.isSome_some, xI, qH, xJ, evPre, St.with, xK, xL, zD, xM, xN, xO, Array.size, te, einl, inls, efr]
                exact ⟨(), trivial⟩
              · simp (maxSteps := 1000000) (implicitDefEqProofs := false) only [q14, q17, q54, h1, g4, k3, tk, hd, hp', hy, better, cB, kCells, seeM, eM, List.map_cons, List.map_nil, vI_def, and_self, ↓reduceIte, Option.isSome_none, Option.isNone_none, Option.isSome_some, Option.isNone_some, ss, List.replicate, zH, qG, zF, zG, St.eval, St.put, St.get, constV, List.set, lenV, qE, qF, qB, zC, norm, xQ, look, xP, xX, zO, zM, zE, zN, qA, qI, St.alloc, St.drop, killL, kill, xU, xV, zA, upd, cells?, part, retag, xT, putIn, refFree, xR, isNew, xS, Ty.isAgg, zB, idsL, ids, idsLL, reach, depth, St.dropL, qD, resultV, ↓reduceIte, Nat.reduceBEq, Nat.reduceAdd, Nat.reduceSub, Nat.reduceMul, Nat.reduceEqDiff, Nat.reduceLeDiff, Nat.reduceLT, qJ, qK, zV, zW, qL, qM, qN, qO, Eff.ap, qP, qQ, xW, qR, zI, onto, dropO, xA, sized, zP, eqT, eqG, minV, evUn, qS, zQ, zR, zS, qC, qT, upO, evSlice0, optInt, xC, qV, xD, del, xB, plain, plainL, zY, zZ, zT, qW, zU, zX, xY, qX, qY, qZ, xE, zJ, zK, zL, xF, xG, wit, xH, Option.isSome_some, xI, qH, xJ, evPre, St.with, xK, xL, zD, xM, xN, xO, Array.size, te, einl, inls, efr]
                exact ⟨(), trivial⟩
          · simp (maxSteps := 1000000) (implicitDefEqProofs := false) only [q14, q17, q54, h1, g4, k3, tk, hd, hp', better, and_false, ↓reduceIte, ss, List.replicate, zH, qG, zF, zG, St.eval, St.put, St.get, constV, List.set, lenV, qE, qF, qB, zC, norm, xQ, look, xP, xX, zO, zM, zE, zN, qA, qI, St.alloc, St.drop, killL, kill, xU, xV, zA, upd, cells?, part, retag, xT, putIn, refFree, xR, isNew, xS, Ty.isAgg, zB, idsL, ids, idsLL, reach, depth, St.dropL, qD, resultV, ↓reduceIte, Nat.reduceBEq, Nat.reduceAdd, Nat.reduceSub, Nat.reduceMul, Nat.reduceEqDiff, Nat.reduceLeDiff, Nat.reduceLT, qJ, qK, zV, zW, qL, qM, qN, qO, Eff.ap, qP, qQ, xW, qR, zI, onto, dropO, xA, sized, zP, eqT, eqG, minV, evUn, qS, zQ, zR, zS, qC, qT, upO, evSlice0, optInt, xC, qV, xD, del, xB, plain, plainL, zY, zZ, zT, qW, zU, zX, xY, qX, qY, qZ, xE, zJ, zK, zL, xF, xG, wit, xH, Option.isSome_some, xI, qH, xJ, evPre, St.with, xK, xL, zD, xM, xN, xO, Array.size, te, einl, inls, efr]
            exact ⟨(), trivial⟩
end Go.AM.B

