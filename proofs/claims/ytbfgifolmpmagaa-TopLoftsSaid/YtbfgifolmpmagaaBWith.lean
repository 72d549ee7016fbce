/-
A load with one more of the goods.
-/
import Derived.Test.YtbfgifolmpmagaaBSortS
import Derived.Test.YtbfgifolmpmagaaBCheckD
set_option linter.unusedVariables false
set_option linter.unusedSimpArgs false

namespace Go.AM.B
open Go Go.AM Go.Proofs

set_option maxRecDepth 20000 in
set_option maxHeartbeats 4000000 in
theorem c123 (l : List Int) (hl : l ≠ []) (hn : l.length ≤ 1000000) : ∃ sl, (orcω E X0).inl 1000 123 [.sl false (l.map vI)] { slots := [], outer := [], objs := [] } = some (.own 1002 0 l.length, { slots := sl, outer := [], objs := [(1002, { es := 1, flat := true, t := true, app := true, elems := l.map vI })] }) := by
  refine (fun h : ∃ sl : List V, _ = some (V.own 1002 0 l.length, ({ slots := sl, outer := [], objs := [(1002, { es := 1, flat := true, t := true, app := true, elems := l.map vI })] } : St)) => h.elim fun sl h => ⟨sl, inl_of rfl fn123 rfl h⟩) ?_
  have h1 : nilTest (.sl false (l.map vI)) = some false := by
    cases l with
    | nil => exact absurd rfl hl
    | cons x r => rfl
  have h2 : bareL (l.map vI) = true := bareL_map (fun _ => rfl) l
  have h3 : roomy l.length 8 = true := by unfold roomy; simp; omega
  have h4 : l.length ≤ 4294967296 := by omega
  simp (maxSteps := 1000000) (implicitDefEqProofs := false) only [Try.ntmps123, Try.results123, efc123, fc123, h1, h2, h3, h4, List.length_map, ss, List.replicate, zH, qG, zF, zG, St.eval, St.put, St.get, constV, List.set, lenV, qE, qF, qB, zC, norm, xQ, look, xP, xX, zO, zM, zE, zN, qA, qI, St.alloc, St.drop, killL, kill, xU, xV, zA, upd, cells?, part, retag, xT, putIn, refFree, xR, isNew, xS, Ty.isAgg, zB, idsL, ids, idsLL, reach, depth, St.dropL, qD, resultV, ↓reduceIte, Nat.reduceBEq, Nat.reduceAdd, Nat.reduceSub, Nat.reduceMul, Nat.reduceEqDiff, Nat.reduceLeDiff, Nat.reduceLT, qJ, qK, zV, zW, qL, qM, qN, qO, Eff.ap, qP, qQ, xW, qR, zI, onto, dropO, xA, sized, zP, eqT, eqG, minV, evUn, qS, zQ, zR, zS, qC, qT, upO, evSlice0, optInt, xC, qV, xD, del, xB, plain, plainL, zY, zZ, zT, qW, zU, zX, xY, qX, qY, qZ, xE, zJ, zK, zL, xF, xG, wit, xH, Option.isSome_some, xI, qH, xJ, evPre, St.with, xK, xL, zD, xM, xN, xO, Array.size, te, einl, inls, efr]
  exact ⟨_, rfl⟩

theorem c101f (b id : Nat) (l : List Int) (hn : l.length ≤ 12) (t app : Bool) : ∃ f : List (List V) → List (Nat × Ob) → List V, ∀ outer objs,
    look objs id = some { es := 1, flat := true, t := t, app := app, elems := l.map vI } → upd objs id { es := 1, flat := true, t := t, app := app, elems := l.map vI } = objs →
    (orcω E X0).inl b 101 [.own id 0 l.length] { slots := [], outer := outer, objs := objs } = some (.tup [], { slots := f outer objs, outer := outer, objs := upd objs id { es := 1, flat := true, t := t, app := app, elems := (isort ltI l).map vI } }) := by
  classical
  refine ⟨fun outer objs => if h : look objs id = some { es := 1, flat := true, t := t, app := app, elems := l.map vI } ∧ upd objs id { es := 1, flat := true, t := t, app := app, elems := l.map vI } = objs then (c101 b id outer objs l hn t app h.1 h.2).choose else [], fun outer objs g1 g2 => ?_⟩
  dsimp only
  rw [dif_pos ⟨g1, g2⟩]
  exact (c101 b id outer objs l hn t app g1 g2).choose_spec

set_option maxRecDepth 20000 in
set_option maxHeartbeats 8000000 in
theorem c99 (l : List Loft) (gs : List Goods) (x : Load) (n : Int) (hl : ∀ f ∈ l, loftOk f = true) (hg : ∀ g ∈ gs, goodsOk g = true) (hx : Sound l gs x) (hn : 0 ≤ n ∧ n < gs.length) (hm : gs.length ≤ 8) :
    (orcω E X0).call 99 [encK (seeM l gs x), .sl false (l.map encL), .sl false (gs.map encG), .int .i64 n] = some (encK (seeM l gs (addL x n))) := by
  refine call_of rfl fn99 rfl ?_
  have hs := isSet_iff.1 hx.set
  have hlen := isSet_len hx.set
  obtain ⟨v1, v2⟩ := validHs_iff.1 hx.heats
  obtain ⟨sl123, k1⟩ := c123 x.goods hx.some' (by omega)
  obtain ⟨f, k2⟩ := c101f 1000 17 (x.goods ++ [n]) (by simp; omega) true true
  have k3 := c85 l gs (addL x n) hl hg hx.loft (by have := hx.start; show 0 ≤ x.start ∧ x.start ≤ 1000; omega) v2 (by show x.heats.length ≤ 1000; omega) (fun z hz => by
    rcases put_mem.1 hz with rfl | hz
    · exact hn
    · exact hs.1 z hz) (by show (putM x.goods n).length ≤ 1000000; rw [put_len]; omega)
  have e1 := put_sort hs.2 n
  rw [List.length_append] at k2
  simp only [List.length_singleton, List.map_append, List.map_cons, List.map_nil, e1, vI_def] at k2
  have hroom : roomy (x.goods.length + 1) 8 = true := by simp [roomy]; omega
  have hbig : x.goods.length + 1 ≤ 4294967296 := by omega
  have hpl := put_len n x.goods
  unfold encLd addL encK kCells at k3
  unfold encK kCells
  simp only [seeM] at k3 ⊢
  simp (maxSteps := 1000000) (implicitDefEqProofs := false) only [Try.ntmps99, Try.results99, efc99, k1, hroom, hbig, evFresh, freshed, ↓reduceIte, List.length_map, ss, List.replicate, zH, qG, zF, zG, St.eval, St.put, St.get, constV, List.set, lenV, qE, qF, qB, zC, norm, xQ, look, xP, xX, zO, zM, zE, zN, qA, qI, St.alloc, St.drop, killL, kill, xU, xV, zA, upd, cells?, part, retag, xT, putIn, refFree, xR, isNew, xS, Ty.isAgg, zB, idsL, ids, idsLL, reach, depth, St.dropL, qD, resultV, ↓reduceIte, Nat.reduceBEq, Nat.reduceAdd, Nat.reduceSub, Nat.reduceMul, Nat.reduceEqDiff, Nat.reduceLeDiff, Nat.reduceLT, qJ, qK, zV, zW, qL, qM, qN, qO, Eff.ap, qP, qQ, xW, qR, zI, onto, dropO, xA, sized, zP, eqT, eqG, minV, evUn, qS, zQ, zR, zS, qC, qT, upO, evSlice0, optInt, xC, qV, xD, del, xB, plain, plainL, zY, zZ, zT, qW, zU, zX, xY, qX, qY, qZ, xE, zJ, zK, zL, xF, xG, wit, xH, Option.isSome_some, xI, qH, xJ, evPre, St.with, xK, xL, zD, xM, xN, xO, Array.size, te, einl, inls, efr]
  rw [k2 _ _ ?g1 ?g2]
  case g1 => simp (maxSteps := 1000000) (implicitDefEqProofs := false) only [ss, List.replicate, zH, qG, zF, zG, St.eval, St.put, St.get, constV, List.set, lenV, qE, qF, qB, zC, norm, xQ, look, xP, xX, zO, zM, zE, zN, qA, qI, St.alloc, St.drop, killL, kill, xU, xV, zA, upd, cells?, part, retag, xT, putIn, refFree, xR, isNew, xS, Ty.isAgg, zB, idsL, ids, idsLL, reach, depth, St.dropL, qD, resultV, ↓reduceIte, Nat.reduceBEq, Nat.reduceAdd, Nat.reduceSub, Nat.reduceMul, Nat.reduceEqDiff, Nat.reduceLeDiff, Nat.reduceLT, qJ, qK, zV, zW, qL, qM, qN, qO, Eff.ap, qP, qQ, xW, qR, zI, onto, dropO, xA, sized, zP, eqT, eqG, minV, evUn, qS, zQ, zR, zS, qC, qT, upO, evSlice0, optInt, xC, qV, xD, del, xB, plain, plainL, zY, zZ, zT, qW, zU, zX, xY, qX, qY, qZ, xE, zJ, zK, zL, xF, xG, wit, xH, Option.isSome_some, xI, qH, xJ, evPre, St.with, xK, xL, zD, xM, xN, xO, Array.size, te, einl, inls, efr]
  case g2 => simp (maxSteps := 1000000) (implicitDefEqProofs := false) only [ss, List.replicate, zH, qG, zF, zG, St.eval, St.put, St.get, constV, List.set, lenV, qE, qF, qB, zC, norm, xQ, look, xP, xX, zO, zM, zE, zN, qA, qI, St.alloc, St.drop, killL, kill, xU, xV, zA, upd, cells?, part, retag, xT, putIn, refFree, xR, isNew, xS, Ty.isAgg, zB, idsL, ids, idsLL, reach, depth, St.dropL, qD, resultV, ↓reduceIte, Nat.reduceBEq, Nat.reduceAdd, Nat.reduceSub, Nat.reduceMul, Nat.reduceEqDiff, Nat.reduceLeDiff, Nat.reduceLT, qJ, qK, zV, zW, qL, qM, qN, qO, Eff.ap, qP, qQ, xW, qR, zI, onto, dropO, xA, sized, zP, eqT, eqG, minV, evUn, qS, zQ, zR, zS, qC, qT, upO, evSlice0, optInt, xC, qV, xD, del, xB, plain, plainL, zY, zZ, zT, qW, zU, zX, xY, qX, qY, qZ, xE, zJ, zK, zL, xF, xG, wit, xH, Option.isSome_some, xI, qH, xJ, evPre, St.with, xK, xL, zD, xM, xN, xO, Array.size, te, einl, inls, efr]
  have tk : ((putM x.goods n).map vI).take (x.goods.length + 1) = (putM x.goods n).map vI := List.take_of_length_le (by rw [List.length_map, hpl]; exact Nat.le_refl _)
  simp (maxSteps := 1000000) (implicitDefEqProofs := false) only [Try.ntmps99, Try.results99, efc99, k3, hpl, tk, addL, List.length_map, ss, List.replicate, zH, qG, zF, zG, St.eval, St.put, St.get, constV, List.set, lenV, qE, qF, qB, zC, norm, xQ, look, xP, xX, zO, zM, zE, zN, qA, qI, St.alloc, St.drop, killL, kill, xU, xV, zA, upd, cells?, part, retag, xT, putIn, refFree, xR, isNew, xS, Ty.isAgg, zB, idsL, ids, idsLL, reach, depth, St.dropL, qD, resultV, ↓reduceIte, Nat.reduceBEq, Nat.reduceAdd, Nat.reduceSub, Nat.reduceMul, Nat.reduceEqDiff, Nat.reduceLeDiff, Nat.reduceLT, qJ, qK, zV, zW, qL, qM, qN, qO, Eff.ap, qP, qQ, xW, qR, zI, onto, dropO, xA, sized, zP, eqT, eqG, minV, evUn, qS, zQ, zR, zS, qC, qT, upO, evSlice0, optInt, xC, qV, xD, del, xB, plain, plainL, zY, zZ, zT, qW, zU, zX, xY, qX, qY, qZ, xE, zJ, zK, zL, xF, xG, wit, xH, Option.isSome_some, xI, qH, xJ, evPre, St.with, xK, xL, zD, xM, xN, xO, Array.size, te, einl, inls, efr]


def fpL (l : List Loft) : V := .fp false [.sl false (l.map encL)] 0
def fpN (n : Int) : V := .fp false [.int .i64 n] 0
theorem okT98 : okCode (Try.f98.body.getD .skip) = true := by decide +kernel
set_option maxRecDepth 20000 in
set_option maxHeartbeats 8000000 in
theorem c98 (l : List Loft) (gs : List Goods) (x : Load) (n : Int) (hl : ∀ f ∈ l, loftOk f = true) (hg : ∀ g ∈ gs, goodsOk g = true) (hx : Sound l gs x) (hn : 0 ≤ n ∧ n < gs.length) (hm : gs.length ≤ 8) :
    (orcω E X0).call 98 [encK (seeM l gs x), fpL l, fpG gs, fpN n] = some (.bool (takes l gs n x)) := by
  refine call_of rfl fn98 rfl ?_
  have hok := okT98
  simp only [Try.f98, Option.getD_some, okCode, Bool.and_eq_true, Bool.and_true, Bool.true_and] at hok
  have hs := isSet_iff.1 hx.set
  have hlen := isSet_len hx.set
  have k1 := c99 l gs x n hl hg hx hn hm
  have k2 := c86 l gs (seeM l gs (addL x n)) hx.loft (fun z hz => by
    rcases put_mem.1 hz with rfl | hz
    · exact hn
    · exact hs.1 z hz) (by show (putM x.goods n).length ≤ 1000000; rw [put_len]; omega)
  unfold takes
  unfold encK kCells at k1 k2 ⊢
  unfold fpL fpG fpN
  generalize aloneM l gs (seeM l gs (addL x n)) = A at *
  simp (maxSteps := 1000000) (implicitDefEqProofs := false) only [Try.ntmps98, Try.results98, efc98, k1, k2, evRegion_st hok, ss, List.replicate, zH, qG, zF, zG, St.eval, St.put, St.get, constV, List.set, lenV, qE, qF, qB, zC, norm, xQ, look, xP, xX, zO, zM, zE, zN, qA, qI, St.alloc, St.drop, killL, kill, xU, xV, zA, upd, cells?, part, retag, xT, putIn, refFree, xR, isNew, xS, Ty.isAgg, zB, idsL, ids, idsLL, reach, depth, St.dropL, qD, resultV, ↓reduceIte, Nat.reduceBEq, Nat.reduceAdd, Nat.reduceSub, Nat.reduceMul, Nat.reduceEqDiff, Nat.reduceLeDiff, Nat.reduceLT, qJ, qK, zV, zW, qL, qM, qN, qO, Eff.ap, qP, qQ, xW, qR, zI, onto, dropO, xA, sized, zP, eqT, eqG, minV, evUn, qS, zQ, zR, zS, qC, qT, upO, evSlice0, optInt, xC, qV, xD, del, xB, plain, plainL, zY, zZ, zT, qW, zU, zX, xY, qX, qY, qZ, xE, zJ, zK, zL, xF, xG, wit, xH, Option.isSome_some, xI, qH, xJ, evPre, St.with, xK, xL, zD, xM, xN, xO, Array.size, te, einl, inls, efr]
  congr 2

set_option maxHeartbeats 4000000 in
theorem c97p (l : List Loft) (gs : List Goods) (ks : List Load) (n : Int) (hl : ∀ f ∈ l, loftOk f = true) (hg : ∀ g ∈ gs, goodsOk g = true) (hx : ∀ x ∈ ks, Sound l gs x) (hn : 0 ≤ n ∧ n < gs.length) (hm : gs.length ≤ 8) (hk : ks.length ≤ 1000000) :
    (orcω E X0).call 97 [.sl false ((ks.map (seeM l gs)).map encK), .clo 98 [] [fpL l, fpG gs, fpN n]] = some (.int .i64 (idxF (takes l gs n) 0 ks)) := by
  refine call_of rfl fn97 rfl ?_
  have k1 := fun x hx => c98 l gs x n hl hg hx hn hm
  unfold fpL fpG fpN at k1 ⊢
  simp (maxSteps := 1000000) (implicitDefEqProofs := false) only [Try.ntmps97, Try.results97, efc97, fc97, ss, List.replicate, zH, qG, zF, zG, St.eval, St.put, St.get, constV, List.set, lenV, qE, qF, qB, zC, norm, xQ, look, xP, xX, zO, zM, zE, zN, qA, qI, St.alloc, St.drop, killL, kill, xU, xV, zA, upd, cells?, part, retag, xT, putIn, refFree, xR, isNew, xS, Ty.isAgg, zB, idsL, ids, idsLL, reach, depth, St.dropL, qD, resultV, ↓reduceIte, Nat.reduceBEq, Nat.reduceAdd, Nat.reduceSub, Nat.reduceMul, Nat.reduceEqDiff, Nat.reduceLeDiff, Nat.reduceLT, qJ, qK, zV, zW, qL, qM, qN, qO, Eff.ap, qP, qQ, xW, qR, zI, onto, dropO, xA, sized, zP, eqT, eqG, minV, evUn, qS, zQ, zR, zS, qC, qT, upO, evSlice0, optInt, xC, qV, xD, del, xB, plain, plainL, zY, zZ, zT, qW, zU, zX, xY, qX, qY, qZ, xE, zJ, zK, zL, xF, xG, wit, xH, Option.isSome_some, xI, qH, xJ, evPre, St.with, xK, xL, zD, xM, xN, xO, Array.size, te, einl, inls, efr]
  generalize hr : loopAt _ _ _ _ _ _ = r; revert r
  refine loop_list ks (fun pre _ => [(8, .int .i64 pre.length)]) (fun _ _ => []) (fun pre (_ : Unit) => pre.any (takes l gs n) = false) () (by omega) (by simp (maxSteps := 1000000) (implicitDefEqProofs := false) only [ss, List.replicate, zH, qG, zF, zG, St.eval, St.put, St.get, constV, List.set, lenV, qE, qF, qB, zC, norm, xQ, look, xP, xX, zO, zM, zE, zN, qA, qI, St.alloc, St.drop, killL, kill, xU, xV, zA, upd, cells?, part, retag, xT, putIn, refFree, xR, isNew, xS, Ty.isAgg, zB, idsL, ids, idsLL, reach, depth, St.dropL, qD, resultV, ↓reduceIte, Nat.reduceBEq, Nat.reduceAdd, Nat.reduceSub, Nat.reduceMul, Nat.reduceEqDiff, Nat.reduceLeDiff, Nat.reduceLT, qJ, qK, zV, zW, qL, qM, qN, qO, Eff.ap, qP, qQ, xW, qR, zI, onto, dropO, xA, sized, zP, eqT, eqG, minV, evUn, qS, zQ, zR, zS, qC, qT, upO, evSlice0, optInt, xC, qV, xD, del, xB, plain, plainL, zY, zZ, zT, qW, zU, zX, xY, qX, qY, qZ, xE, zJ, zK, zL, xF, xG, wit, xH, Option.isSome_some, xI, qH, xJ, evPre, St.with, xK, xL, zD, xM, xN, xO, Array.size, te, einl, inls, efr]) rfl (fun _ hi => ?_) (fun pre x post _ hq hi g1 g2 g3 g4 => ?_)
  · have e1 : idxF (takes l gs n) 0 ks = -1 := by
      have := idx_split ks [] 0 hi
      rw [List.append_nil] at this
      rw [this]; rfl
    simp (maxSteps := 1000000) (implicitDefEqProofs := false) only [Int.lt_irrefl, e1, Try.ntmps97, Try.results97, efc97, fc97, List.length_map, ss, List.replicate, zH, qG, zF, zG, St.eval, St.put, St.get, constV, List.set, lenV, qE, qF, qB, zC, norm, xQ, look, xP, xX, zO, zM, zE, zN, qA, qI, St.alloc, St.drop, killL, kill, xU, xV, zA, upd, cells?, part, retag, xT, putIn, refFree, xR, isNew, xS, Ty.isAgg, zB, idsL, ids, idsLL, reach, depth, St.dropL, qD, resultV, ↓reduceIte, Nat.reduceBEq, Nat.reduceAdd, Nat.reduceSub, Nat.reduceMul, Nat.reduceEqDiff, Nat.reduceLeDiff, Nat.reduceLT, qJ, qK, zV, zW, qL, qM, qN, qO, Eff.ap, qP, qQ, xW, qR, zI, onto, dropO, xA, sized, zP, eqT, eqG, minV, evUn, qS, zQ, zR, zS, qC, qT, upO, evSlice0, optInt, xC, qV, xD, del, xB, plain, plainL, zY, zZ, zT, qW, zU, zX, xY, qX, qY, qZ, xE, zJ, zK, zL, xF, xG, wit, xH, Option.isSome_some, xI, qH, xJ, evPre, St.with, xK, xL, zD, xM, xN, xO, Array.size, te, einl, inls, efr]
  · have k2 := k1 x (hx x (List.mem_of_getElem? g3))
    have e1 := idx_split pre (x :: post) 0 hi
    rw [← hq, Nat.zero_add, idxF] at e1
    generalize hK : seeM l gs x = K at *
    cases hp : takes l gs n x with
    | true =>
      rw [hp] at k2 e1
      rw [if_pos rfl] at e1
      unfold encK kCells at k2
      simp (maxSteps := 1000000) (implicitDefEqProofs := false) only [g1, g2, g3, g4, k2, e1, hK, encK, kCells, Try.ntmps97, Try.results97, efc97, fc97, Int.natCast_nonneg, Int.toNat_natCast, List.getElem?_map, List.length_map, ss, List.replicate, zH, qG, zF, zG, St.eval, St.put, St.get, constV, List.set, lenV, qE, qF, qB, zC, norm, xQ, look, xP, xX, zO, zM, zE, zN, qA, qI, St.alloc, St.drop, killL, kill, xU, xV, zA, upd, cells?, part, retag, xT, putIn, refFree, xR, isNew, xS, Ty.isAgg, zB, idsL, ids, idsLL, reach, depth, St.dropL, qD, resultV, ↓reduceIte, Nat.reduceBEq, Nat.reduceAdd, Nat.reduceSub, Nat.reduceMul, Nat.reduceEqDiff, Nat.reduceLeDiff, Nat.reduceLT, qJ, qK, zV, zW, qL, qM, qN, qO, Eff.ap, qP, qQ, xW, qR, zI, onto, dropO, xA, sized, zP, eqT, eqG, minV, evUn, qS, zQ, zR, zS, qC, qT, upO, evSlice0, optInt, xC, qV, xD, del, xB, plain, plainL, zY, zZ, zT, qW, zU, zX, xY, qX, qY, qZ, xE, zJ, zK, zL, xF, xG, wit, xH, Option.isSome_some, xI, qH, xJ, evPre, St.with, xK, xL, zD, xM, xN, xO, Array.size, te, einl, inls, efr]
    | false =>
      rw [hp] at k2
      unfold encK kCells at k2
      simp (maxSteps := 1000000) (implicitDefEqProofs := false) only [g1, g2, g3, g4, k2, hK, encK, kCells, Int.natCast_nonneg, Int.toNat_natCast, List.getElem?_map, List.length_map, ss, List.replicate, zH, qG, zF, zG, St.eval, St.put, St.get, constV, List.set, lenV, qE, qF, qB, zC, norm, xQ, look, xP, xX, zO, zM, zE, zN, qA, qI, St.alloc, St.drop, killL, kill, xU, xV, zA, upd, cells?, part, retag, xT, putIn, refFree, xR, isNew, xS, Ty.isAgg, zB, idsL, ids, idsLL, reach, depth, St.dropL, qD, resultV, ↓reduceIte, Nat.reduceBEq, Nat.reduceAdd, Nat.reduceSub, Nat.reduceMul, Nat.reduceEqDiff, Nat.reduceLeDiff, Nat.reduceLT, qJ, qK, zV, zW, qL, qM, qN, qO, Eff.ap, qP, qQ, xW, qR, zI, onto, dropO, xA, sized, zP, eqT, eqG, minV, evUn, qS, zQ, zR, zS, qC, qT, upO, evSlice0, optInt, xC, qV, xD, del, xB, plain, plainL, zY, zZ, zT, qW, zU, zX, xY, qX, qY, qZ, xE, zJ, zK, zL, xF, xG, wit, xH, Option.isSome_some, xI, qH, xJ, evPre, St.with, xK, xL, zD, xM, xN, xO, Array.size, te, einl, inls, efr]
      exact ⟨(), by rw [List.any_append, hi]; simp [hp]⟩
end Go.AM.B

