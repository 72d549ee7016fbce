/-
The plan of loads, as the reference makes it.
-/
import Derived.Test.YtbfgifolmpmagaaBPlanR
set_option linter.unusedVariables false
set_option linter.unusedSimpArgs false

namespace Go.AM.B
open Go Go.AM Go.Proofs

def leftV : List Int → V
  | [] => .emp
  | x :: r => .sl false ((isort ltI (x :: r)).map vI)
theorem left_snoc (l : List Int) (n : Int) : leftV (l ++ [n]) = .sl false ((putM (isort ltI l) n).map vI) := by
  have e : isort ltI (l ++ [n]) = putM (isort ltI l) n := by rw [← puts_sort, ← puts_sort, List.foldl_append]; rfl
  cases l with
  | nil =>
    show V.sl false ((isort ltI [n]).map vI) = _
    rw [← e]
    rfl
  | cons x r =>
    rw [← e]
    rfl
def PlanR (l : List Loft) (gs : List Goods) (r : V) : Prop := if bothE l gs ≠ 0 then r = .tup [.sl true [], .sl true [], .int .i64 (bothE l gs)] else
  ∃ (ts : List TL) (T T2 : Bool), loadsOf ts = (planP l gs).1 ∧ r = .tup [.sl T (ts.map encTL), .sl T2 ((isort ltI (planP l gs).2).map vI), .int .i64 0]
def cBT : Option Load → List V
  | none => [.int .i64 0, .int .i64 0, .emp, .emp]
  | some x => [.int .i64 x.loft, .int .i64 x.start, .sl true (x.heats.map vI), .sl true (x.goods.map vI)]

theorem takes_by {l : List Loft} {gs : List Goods} {x : Load} {n : Int} (hx : Sound l gs x) (hn : 0 ≤ n ∧ n < gs.length) (hnew : n ∉ x.goods) : (byM l gs (addL x n) == 0) = takes l gs n x := by
  rw [Bool.eq_iff_iff, beq_iff_eq]
  unfold takes
  rw [decide_eq_true_eq, by_iff, alone_iff]
  obtain ⟨s1, s2⟩ := isSet_iff.1 hx.set
  constructor
  · intro h; exact ⟨h.room, h.ready, h.warm, h.due⟩
  · rintro ⟨h1, h2, h3, h4⟩
    exact {
      loft := hx.loft, start := hx.start, heats := hx.heats
      some' := fun e => by have : n ∈ (addL x n).goods := put_mem.2 (.inl rfl); rw [e] at this; cases this
      set := isSet_iff.2 ⟨fun z hz => by
        rcases put_mem.1 hz with rfl | hz
        · exact hn
        · exact s1 z hz, put_set s2 hnew⟩
      room := h1, ready := h2, warm := h3, due := h4 }
theorem begin_in {gs : List Goods} {ks : List Load} {n i : Int} {f : Loft} {y : Load} (hf : loftOk f = true) (hg : goodsOk (goodAt gs n) = true) (h : beginM gs ks n i f = some y) : 0 ≤ y.start ∧ y.start ≤ 60 ∧ y.heats.length ≤ 12 := by
  unfold beginM at h
  have gk := goodsOk_iff.1 hg
  cases hp : progS f (goodAt gs n).need (goodAt gs n).most with
  | none => rw [hp] at h; cases h
  | some hs =>
    rw [hp] at h
    dsimp only at h
    obtain ⟨q1, q2, q3, q4⟩ := prog_right hf 12 1 hs (Nat.le_refl _) hp
    have g1 := start_ge ks i (hs.length : Int) 200 (goodAt gs n).ready
    split at h
    · rename_i hc
      cases h
      dsimp only
      omega
    · cases h

theorem step_len (l : List Loft) (gs : List Goods) (p : List Load × List Int) (n : Int) : (stepM l gs p n).1.length + (stepM l gs p n).2.length = p.1.length + p.2.length + 1 ∨ (stepM l gs p n).1.length + (stepM l gs p n).2.length = p.1.length + p.2.length := by
  obtain ⟨ks, left⟩ := p
  rcases step_cases l gs ks left n with ⟨A, x, B, rfl, _, _, e⟩ | ⟨_, y, _, e⟩ | ⟨_, _, e⟩
  · rw [e]; exact .inr (by simp)
  · rw [e]; exact .inl (by simp <;> omega)
  · rw [e]; exact .inl (by simp <;> omega)
theorem plan_len (l : List Loft) (gs : List Goods) : ∀ pre : List Int, (planFrom l gs pre).1.length + (planFrom l gs pre).2.length ≤ pre.length := by
  intro pre
  induction pre using snoc_ind with
  | h0 => simp [planFrom]
  | h1 pre n ih =>
    rw [planFrom_snoc, List.length_append, List.length_singleton]
    rcases step_len l gs (planFrom l gs pre) n with h | h <;> omega

theorem loads_len (ts : List TL) : (loadsOf ts).length = ts.length := by simp [loadsOf]
theorem loads_get {ts : List TL} {ks : List Load} {k : Nat} {x : TL} (h : loadsOf ts = ks) (hx : ts[k]? = some x) : ks[k]? = some x.1 := by
  rw [← h]
  unfold loadsOf
  rw [List.getElem?_map, hx]
  rfl
theorem step_join {l : List Loft} {gs : List Goods} {ks : List Load} {left : List Int} {n : Int} {k : Nat} {x : Load} (hx : ks[k]? = some x) (h0 : (ks.take k).any (takes l gs n) = false) (h1 : takes l gs n x = true) : stepM l gs (ks, left) n = (ks.set k (addL x n), left) := by
  obtain ⟨hk, e⟩ := List.getElem?_eq_some_iff.1 hx
  have hi : idxF (takes l gs n) 0 ks = (k : Int) := by
    have h2 := idx_split (q := takes l gs n) (ks.take k) (ks.drop k) 0 h0
    rw [List.take_append_drop, List.drop_eq_getElem_cons hk, e, idxF, if_pos h1, List.length_take] at h2
    rw [h2]
    omega
  unfold stepM
  dsimp only
  rw [hi, Int.toNat_natCast, hx]
  dsimp only
  rw [if_pos (by omega)]
theorem step_new {l : List Loft} {gs : List Goods} {ks : List Load} {left : List Int} {n : Int} (h0 : ks.any (takes l gs n) = false) : stepM l gs (ks, left) n = match freshM l gs ks n with
    | some y => (ks ++ [y], left)
    | none => (ks, left ++ [n]) := by
  have h1 := idx_any (q := takes l gs n) ks 0
  rw [h0] at h1
  have h2 := of_decide_eq_false h1
  unfold stepM
  dsimp only
  split
  · rw [if_neg h2]
    cases freshM l gs ks n <;> rfl
  · cases freshM l gs ks n <;> rfl
structure Join (l : List Loft) (gs : List Goods) (ks : List Load) (left : List Int) (n : Int) (ts : List TL) (T : Bool) (p : Nat × Bool × List TL × Bool) : Prop where
  no : p.2.1 = false → p.2.2.1 = ts ∧ p.2.2.2 = T ∧ p.1 ≤ ts.length ∧ (ks.take p.1).any (takes l gs n) = false
  yes : p.2.1 = true → p.1 ≤ ts.length ∧ p.2.2.1.length = ts.length ∧ loadsOf p.2.2.1 = (stepM l gs (ks, left) n).1 ∧ (stepM l gs (ks, left) n).2 = left

theorem okT55 : okCode (Try.f55.body.getD .skip) = true := by decide +kernel
set_option maxRecDepth 20000 in
set_option maxHeartbeats 16000000 in
theorem c55 (l : List Loft) (gs : List Goods) (hm : gs.length ≤ 1000000) : ∃ r, (orcω E X0).call 55 [.sl false (l.map encL), .sl false (gs.map encG)] = some r ∧ PlanR l gs r := by
  refine (fun (h : ∃ r : V, _ = some r ∧ PlanR l gs r) => h.elim fun r h => ⟨r, call_of rfl fn55 rfl h.1, h.2⟩) ?_
  have hok := okT55
  simp only [Try.f55, Option.getD_some, okCode, Bool.and_eq_true, Bool.and_true, Bool.true_and] at hok
  have k69 := c69 l gs (by omega)
  unfold PlanR
  by_cases hb : bothE l gs = 0
  case neg =>
    have hb' : (bothE l gs != 0) = true := by simpa using hb
    simp (maxSteps := 1000000) (implicitDefEqProofs := false) only [Try.ntmps55, Try.results55, efc55, fc55, k69, hb', ne_eq, hb, not_false_eq_true, if_true, ss, List.replicate, zH, qG, zF, zG, St.eval, St.put, St.get, constV, List.set, lenV, qE, qF, qB, zC, norm, xQ, look, xP, xX, zO, zM, zE, zN, qA, qI, St.alloc, St.drop, killL, kill, xU, xV, zA, upd, cells?, part, retag, xT, putIn, refFree, xR, isNew, xS, Ty.isAgg, zB, idsL, ids, idsLL, reach, depth, St.dropL, qD, resultV, ↓reduceIte, Nat.reduceBEq, Nat.reduceAdd, Nat.reduceSub, Nat.reduceMul, Nat.reduceEqDiff, Nat.reduceLeDiff, Nat.reduceLT, qJ, qK, zV, zW, qL, qM, qN, qO, Eff.ap, qP, qQ, xW, qR, zI, onto, dropO, xA, sized, zP, eqT, eqG, minV, evUn, qS, zQ, zR, zS, qC, qT, upO, evSlice0, optInt, xC, qV, xD, del, xB, plain, plainL, zY, zZ, zT, qW, zU, zX, xY, qX, qY, qZ, xE, zJ, zK, zL, xF, xG, wit, xH, Option.isSome_some, xI, qH, xJ, evPre, St.with, xK, xL, zD, xM, xN, xO, Array.size, te, einl, inls, efr]
    exact ⟨_, rfl, rfl⟩
  case pos =>
  rw [hb] at k69
  rw [hb]
  obtain ⟨hl, hln, hg, hgn⟩ := both_facts hb
  have k102 := c102 gs hg hgn
  have ol := order_len gs
  simp (maxSteps := 1000000) (implicitDefEqProofs := false) only [Try.ntmps55, Try.results55, efc55, fc55, k69, k102, bne_self_eq_false, List.length_map, ne_eq, not_true_eq_false, if_false, ss, List.replicate, zH, qG, zF, zG, St.eval, St.put, St.get, constV, List.set, lenV, qE, qF, qB, zC, norm, xQ, look, xP, xX, zO, zM, zE, zN, qA, qI, St.alloc, St.drop, killL, kill, xU, xV, zA, upd, cells?, part, retag, xT, putIn, refFree, xR, isNew, xS, Ty.isAgg, zB, idsL, ids, idsLL, reach, depth, St.dropL, qD, resultV, ↓reduceIte, Nat.reduceBEq, Nat.reduceAdd, Nat.reduceSub, Nat.reduceMul, Nat.reduceEqDiff, Nat.reduceLeDiff, Nat.reduceLT, qJ, qK, zV, zW, qL, qM, qN, qO, Eff.ap, qP, qQ, xW, qR, zI, onto, dropO, xA, sized, zP, eqT, eqG, minV, evUn, qS, zQ, zR, zS, qC, qT, upO, evSlice0, optInt, xC, qV, xD, del, xB, plain, plainL, zY, zZ, zT, qW, zU, zX, xY, qX, qY, qZ, xE, zJ, zK, zL, xF, xG, wit, xH, Option.isSome_some, xI, qH, xJ, evPre, St.with, xK, xL, zD, xM, xN, xO, Array.size, te, einl, inls, efr]
  generalize hr : loopAt _ _ _ _ _ _ = r; revert r
  refine loop_list (orderM gs) (fun pre (c : List TL × Bool) => [(8, .own 8 0 c.1.length), (9, leftV (planFrom l gs pre).2), (11, .int .i64 pre.length)]) (fun pre c => [(8, { es := 4, flat := true, t := c.2, app := true, elems := c.1.map encTL })]) (fun pre c => loadsOf c.1 = (planFrom l gs pre).1) ([], true) (by omega) (by simp (maxSteps := 1000000) (implicitDefEqProofs := false) only [planFrom, List.foldl_nil, leftV, List.map_nil, List.length_nil, Int.natCast_zero, ss, List.replicate, zH, qG, zF, zG, St.eval, St.put, St.get, constV, List.set, lenV, qE, qF, qB, zC, norm, xQ, look, xP, xX, zO, zM, zE, zN, qA, qI, St.alloc, St.drop, killL, kill, xU, xV, zA, upd, cells?, part, retag, xT, putIn, refFree, xR, isNew, xS, Ty.isAgg, zB, idsL, ids, idsLL, reach, depth, St.dropL, qD, resultV, ↓reduceIte, Nat.reduceBEq, Nat.reduceAdd, Nat.reduceSub, Nat.reduceMul, Nat.reduceEqDiff, Nat.reduceLeDiff, Nat.reduceLT, qJ, qK, zV, zW, qL, qM, qN, qO, Eff.ap, qP, qQ, xW, qR, zI, onto, dropO, xA, sized, zP, eqT, eqG, minV, evUn, qS, zQ, zR, zS, qC, qT, upO, evSlice0, optInt, xC, qV, xD, del, xB, plain, plainL, zY, zZ, zT, qW, zU, zX, xY, qX, qY, qZ, xE, zJ, zK, zL, xF, xG, wit, xH, Option.isSome_some, xI, qH, xJ, evPre, St.with, xK, xL, zD, xM, xN, xO, Array.size, te, einl, inls, efr]) rfl (fun c hc => ?_) (fun pre n post c hq hc g1 g2 g3 g4 => ?_)
  · obtain ⟨ts, T⟩ := c
    dsimp only at hc ⊢
    have eP : planFrom l gs (orderM gs) = planP l gs := rfl
    rw [eP] at hc ⊢
    generalize planP l gs = P at *
    obtain ⟨ks, left⟩ := P
    dsimp only at hc ⊢
    have tk : (ts.map encTL).take ts.length = ts.map encTL := List.take_of_length_le (by simp)
    cases left with
    | nil =>
      simp (maxSteps := 1000000) (implicitDefEqProofs := false) only [Int.lt_irrefl, leftV, tk, Try.ntmps55, Try.results55, efc55, fc55, List.map_nil, List.length_map, ss, List.replicate, zH, qG, zF, zG, St.eval, St.put, St.get, constV, List.set, lenV, qE, qF, qB, zC, norm, xQ, look, xP, xX, zO, zM, zE, zN, qA, qI, St.alloc, St.drop, killL, kill, xU, xV, zA, upd, cells?, part, retag, xT, putIn, refFree, xR, isNew, xS, Ty.isAgg, zB, idsL, ids, idsLL, reach, depth, St.dropL, qD, resultV, ↓reduceIte, Nat.reduceBEq, Nat.reduceAdd, Nat.reduceSub, Nat.reduceMul, Nat.reduceEqDiff, Nat.reduceLeDiff, Nat.reduceLT, qJ, qK, zV, zW, qL, qM, qN, qO, Eff.ap, qP, qQ, xW, qR, zI, onto, dropO, xA, sized, zP, eqT, eqG, minV, evUn, qS, zQ, zR, zS, qC, qT, upO, evSlice0, optInt, xC, qV, xD, del, xB, plain, plainL, zY, zZ, zT, qW, zU, zX, xY, qX, qY, qZ, xE, zJ, zK, zL, xF, xG, wit, xH, Option.isSome_some, xI, qH, xJ, evPre, St.with, xK, xL, zD, xM, xN, xO, Array.size, te, einl, inls, efr]
      exact ⟨_, rfl, ts, T, true, hc, rfl⟩
    | cons a r =>
      simp (maxSteps := 1000000) (implicitDefEqProofs := false) only [Int.lt_irrefl, leftV, tk, Try.ntmps55, Try.results55, efc55, fc55, List.length_map, ss, List.replicate, zH, qG, zF, zG, St.eval, St.put, St.get, constV, List.set, lenV, qE, qF, qB, zC, norm, xQ, look, xP, xX, zO, zM, zE, zN, qA, qI, St.alloc, St.drop, killL, kill, xU, xV, zA, upd, cells?, part, retag, xT, putIn, refFree, xR, isNew, xS, Ty.isAgg, zB, idsL, ids, idsLL, reach, depth, St.dropL, qD, resultV, ↓reduceIte, Nat.reduceBEq, Nat.reduceAdd, Nat.reduceSub, Nat.reduceMul, Nat.reduceEqDiff, Nat.reduceLeDiff, Nat.reduceLT, qJ, qK, zV, zW, qL, qM, qN, qO, Eff.ap, qP, qQ, xW, qR, zI, onto, dropO, xA, sized, zP, eqT, eqG, minV, evUn, qS, zQ, zR, zS, qC, qT, upO, evSlice0, optInt, xC, qV, xD, del, xB, plain, plainL, zY, zZ, zT, qW, zU, zX, xY, qX, qY, qZ, xE, zJ, zK, zL, xF, xG, wit, xH, Option.isSome_some, xI, qH, xJ, evPre, St.with, xK, xL, zD, xM, xN, xO, Array.size, te, einl, inls, efr]
      exact ⟨_, rfl, ts, T, false, hc, rfl⟩
  · obtain ⟨ts, T⟩ := c
    dsimp only at hc ⊢
    have hmade := plan_made hl hg pre (n :: post) hq
    have hnm : n ∈ orderM gs := by rw [hq]; simp
    have hn := order_mem.1 hnm
    have hnew : n ∉ pre := by
      have hnd := order_nodup gs
      rw [hq] at hnd
      exact fun hm => (List.nodup_append.1 hnd).2.2 n hm n List.mem_cons_self rfl
    have hpl := plan_len l gs pre
    have es := planFrom_snoc l gs pre n
    rw [es]
    generalize planFrom l gs pre = P at *
    obtain ⟨ks, left⟩ := P
    dsimp only at hc hmade hpl ⊢
    have hlen : ts.length = ks.length := by rw [← hc, loads_len]
    have hsnd := hmade.each
    simp (maxSteps := 1000000) (implicitDefEqProofs := false) only [g1, g2, g3, g4, vI_def, Int.natCast_nonneg, Int.toNat_natCast, List.getElem?_map, List.length_map, ss, List.replicate, zH, qG, zF, zG, St.eval, St.put, St.get, constV, List.set, lenV, qE, qF, qB, zC, norm, xQ, look, xP, xX, zO, zM, zE, zN, qA, qI, St.alloc, St.drop, killL, kill, xU, xV, zA, upd, cells?, part, retag, xT, putIn, refFree, xR, isNew, xS, Ty.isAgg, zB, idsL, ids, idsLL, reach, depth, St.dropL, qD, resultV, ↓reduceIte, Nat.reduceBEq, Nat.reduceAdd, Nat.reduceSub, Nat.reduceMul, Nat.reduceEqDiff, Nat.reduceLeDiff, Nat.reduceLT, qJ, qK, zV, zW, qL, qM, qN, qO, Eff.ap, qP, qQ, xW, qR, zI, onto, dropO, xA, sized, zP, eqT, eqG, minV, evUn, qS, zQ, zR, zS, qC, qT, upO, evSlice0, optInt, xC, qV, xD, del, xB, plain, plainL, zY, zZ, zT, qW, zU, zX, xY, qX, qY, qZ, xE, zJ, zK, zL, xF, xG, wit, xH, Option.isSome_some, xI, qH, xJ, evPre, St.with, xK, xL, zD, xM, xN, xO, Array.size, te, einl, inls, efr]
    generalize hr : loopAt _ _ _ _ _ _ = r; revert r
    refine loop_inv (ι := { p : Nat × Bool × List TL × Bool // Join l gs ks left n ts T p }) (fun p => [(13, .bool p.1.2.1), (14, .int .i64 p.1.1)]) (fun p => [(8, { es := 4, flat := true, t := p.1.2.2.2, app := true, elems := p.1.2.2.1.map encTL })]) (fun p => ts.length + 1 - p.1.1) ⟨(0, false, ts, T), ⟨fun _ => ⟨rfl, rfl, Nat.zero_le _, by simp⟩, fun h => by cases h⟩⟩ (by simp (maxSteps := 1000000) (implicitDefEqProofs := false) only [Int.natCast_zero, ss, List.replicate, zH, qG, zF, zG, St.eval, St.put, St.get, constV, List.set, lenV, qE, qF, qB, zC, norm, xQ, look, xP, xX, zO, zM, zE, zN, qA, qI, St.alloc, St.drop, killL, kill, xU, xV, zA, upd, cells?, part, retag, xT, putIn, refFree, xR, isNew, xS, Ty.isAgg, zB, idsL, ids, idsLL, reach, depth, St.dropL, qD, resultV, ↓reduceIte, Nat.reduceBEq, Nat.reduceAdd, Nat.reduceSub, Nat.reduceMul, Nat.reduceEqDiff, Nat.reduceLeDiff, Nat.reduceLT, qJ, qK, zV, zW, qL, qM, qN, qO, Eff.ap, qP, qQ, xW, qR, zI, onto, dropO, xA, sized, zP, eqT, eqG, minV, evUn, qS, zQ, zR, zS, qC, qT, upO, evSlice0, optInt, xC, qV, xD, del, xB, plain, plainL, zY, zZ, zT, qW, zU, zX, xY, qX, qY, qZ, xE, zJ, zK, zL, xF, xG, wit, xH, Option.isSome_some, xI, qH, xJ, evPre, St.with, xK, xL, zD, xM, xN, xO, Array.size, te, einl, inls, efr]) ?_
    rintro ⟨⟨k, dn, ts', T'⟩, hj⟩
    dsimp only
    have kl : ∀ id, kill id (leftV left) = leftV left := fun id => by cases left <;> rfl
    have kl2 : ids (leftV left) = [] := by cases left <;> rfl
    have tkl : (ts.map encTL).take ts.length = ts.map encTL := List.take_of_length_le (by simp)
    cases dn with
    | true =>
      obtain ⟨j1, j2, j3, j4⟩ := hj.yes rfl
      dsimp only at j1 j2 j3 j4
      rw [j4]
      rw [← j2]
      by_cases hk : (k : Int) < ts'.length
      · simp (maxSteps := 1000000) (implicitDefEqProofs := false) only [kl, kl2, hk, g4, List.length_map, ss, List.replicate, zH, qG, zF, zG, St.eval, St.put, St.get, constV, List.set, lenV, qE, qF, qB, zC, norm, xQ, look, xP, xX, zO, zM, zE, zN, qA, qI, St.alloc, St.drop, killL, kill, xU, xV, zA, upd, cells?, part, retag, xT, putIn, refFree, xR, isNew, xS, Ty.isAgg, zB, idsL, ids, idsLL, reach, depth, St.dropL, qD, resultV, ↓reduceIte, Nat.reduceBEq, Nat.reduceAdd, Nat.reduceSub, Nat.reduceMul, Nat.reduceEqDiff, Nat.reduceLeDiff, Nat.reduceLT, qJ, qK, zV, zW, qL, qM, qN, qO, Eff.ap, qP, qQ, xW, qR, zI, onto, dropO, xA, sized, zP, eqT, eqG, minV, evUn, qS, zQ, zR, zS, qC, qT, upO, evSlice0, optInt, xC, qV, xD, del, xB, plain, plainL, zY, zZ, zT, qW, zU, zX, xY, qX, qY, qZ, xE, zJ, zK, zL, xF, xG, wit, xH, Option.isSome_some, xI, qH, xJ, evPre, St.with, xK, xL, zD, xM, xN, xO, Array.size, te, einl, inls, efr]
        exact ⟨(ts', T'), rfl, j3⟩
      · simp (maxSteps := 1000000) (implicitDefEqProofs := false) only [kl, kl2, hk, g4, List.length_map, ss, List.replicate, zH, qG, zF, zG, St.eval, St.put, St.get, constV, List.set, lenV, qE, qF, qB, zC, norm, xQ, look, xP, xX, zO, zM, zE, zN, qA, qI, St.alloc, St.drop, killL, kill, xU, xV, zA, upd, cells?, part, retag, xT, putIn, refFree, xR, isNew, xS, Ty.isAgg, zB, idsL, ids, idsLL, reach, depth, St.dropL, qD, resultV, ↓reduceIte, Nat.reduceBEq, Nat.reduceAdd, Nat.reduceSub, Nat.reduceMul, Nat.reduceEqDiff, Nat.reduceLeDiff, Nat.reduceLT, qJ, qK, zV, zW, qL, qM, qN, qO, Eff.ap, qP, qQ, xW, qR, zI, onto, dropO, xA, sized, zP, eqT, eqG, minV, evUn, qS, zQ, zR, zS, qC, qT, upO, evSlice0, optInt, xC, qV, xD, del, xB, plain, plainL, zY, zZ, zT, qW, zU, zX, xY, qX, qY, qZ, xE, zJ, zK, zL, xF, xG, wit, xH, Option.isSome_some, xI, qH, xJ, evPre, St.with, xK, xL, zD, xM, xN, xO, Array.size, te, einl, inls, efr]
        exact ⟨(ts', T'), rfl, j3⟩
    | false =>
      obtain ⟨e1, e2, j3, j4⟩ := hj.no rfl
      dsimp only at e1 e2 j3 j4
      subst e1 e2
      by_cases hk : (k : Int) < ts'.length
      case pos =>
        have hk' : k < ts'.length := by omega
        have y3 : ts'[k]? = some ts'[k] := List.getElem?_eq_getElem hk'
        generalize ts'[k] = x at *
        have hx := loads_get hc y3
        have hxm := List.mem_of_getElem? hx
        have sx := hsnd _ hxm
        have hxn : n ∉ x.1.goods := fun h => hnew (hmade.sub _ hxm n h)
        have hgl := isSet_len sx.set
        have hhl := (validHs_iff.1 sx.heats).1
        have k103 := c103 x.1.goods n (by omega)
        have k90 := c90 l gs (addL x.1 n) hl hg (by omega) (by omega) (by show x.1.heats.length ≤ 1000; omega) (by show (putM x.1.goods n).length ≤ 1000000; rw [put_len]; omega)
        have tb := takes_by sx hn hxn
        unfold encLd addL at k90
        dsimp only at k90
        have w1 : IntKind.i64.wrap ((k : Int) + 1) = ((k + 1 : Nat) : Int) := by rw [wrap_in (by omega)]; omega
        have e0 : (⟨x.1.loft, x.1.start, x.1.heats, putM x.1.goods n⟩ : Load) = addL x.1 n := rfl
        rw [e0] at k90
        generalize hB : byM l gs (addL x.1 n) = B at *
        cases ht : takes l gs n x.1 with
        | true =>
          rw [ht] at tb
          have sj := step_join (left := left) hx j4 ht
          have est : (ts'.map encTL).set k (.agg [.int .i64 x.1.loft, .int .i64 x.1.start, .sl false (x.1.heats.map vI), .sl false ((putM x.1.goods n).map vI)]) = (ts'.set k (addL x.1 n, false, false)).map encTL := by rw [List.map_set]; rfl
          have esl : (ts'.set k (addL x.1 n, false, false)).length = ts'.length := List.length_set
          simp (maxSteps := 1000000) (implicitDefEqProofs := false) only [kl, kl2, hk, hk', y3, k103, k90, tb, w1, encTL, vI_def, Int.natCast_nonneg, Int.toNat_natCast, List.getElem?_map, List.length_map, ss, List.replicate, zH, qG, zF, zG, St.eval, St.put, St.get, constV, List.set, lenV, qE, qF, qB, zC, norm, xQ, look, xP, xX, zO, zM, zE, zN, qA, qI, St.alloc, St.drop, killL, kill, xU, xV, zA, upd, cells?, part, retag, xT, putIn, refFree, xR, isNew, xS, Ty.isAgg, zB, idsL, ids, idsLL, reach, depth, St.dropL, qD, resultV, ↓reduceIte, Nat.reduceBEq, Nat.reduceAdd, Nat.reduceSub, Nat.reduceMul, Nat.reduceEqDiff, Nat.reduceLeDiff, Nat.reduceLT, qJ, qK, zV, zW, qL, qM, qN, qO, Eff.ap, qP, qQ, xW, qR, zI, onto, dropO, xA, sized, zP, eqT, eqG, minV, evUn, qS, zQ, zR, zS, qC, qT, upO, evSlice0, optInt, xC, qV, xD, del, xB, plain, plainL, zY, zZ, zT, qW, zU, zX, xY, qX, qY, qZ, xE, zJ, zK, zL, xF, xG, wit, xH, Option.isSome_some, xI, qH, xJ, evPre, St.with, xK, xL, zD, xM, xN, xO, Array.size, te, einl, inls, efr]
          refine ⟨⟨(k + 1, true, ts'.set k (addL x.1 n, false, false), false), fun h => (by cases h), fun _ => ⟨hk', esl, ?_, by rw [sj]⟩⟩, ?_, by dsimp only; omega⟩
          rotate_left
          · rw [est]
          rw [sj]
          dsimp only
          rw [← hc]
          simp [loadsOf, List.map_set]
        | false =>
          rw [ht] at tb
          simp (maxSteps := 1000000) (implicitDefEqProofs := false) only [kl, kl2, hk, hk', y3, k103, k90, tb, w1, encTL, Int.natCast_nonneg, Int.toNat_natCast, List.getElem?_map, List.length_map, ss, List.replicate, zH, qG, zF, zG, St.eval, St.put, St.get, constV, List.set, lenV, qE, qF, qB, zC, norm, xQ, look, xP, xX, zO, zM, zE, zN, qA, qI, St.alloc, St.drop, killL, kill, xU, xV, zA, upd, cells?, part, retag, xT, putIn, refFree, xR, isNew, xS, Ty.isAgg, zB, idsL, ids, idsLL, reach, depth, St.dropL, qD, resultV, ↓reduceIte, Nat.reduceBEq, Nat.reduceAdd, Nat.reduceSub, Nat.reduceMul, Nat.reduceEqDiff, Nat.reduceLeDiff, Nat.reduceLT, qJ, qK, zV, zW, qL, qM, qN, qO, Eff.ap, qP, qQ, xW, qR, zI, onto, dropO, xA, sized, zP, eqT, eqG, minV, evUn, qS, zQ, zR, zS, qC, qT, upO, evSlice0, optInt, xC, qV, xD, del, xB, plain, plainL, zY, zZ, zT, qW, zU, zX, xY, qX, qY, qZ, xE, zJ, zK, zL, xF, xG, wit, xH, Option.isSome_some, xI, qH, xJ, evPre, St.with, xK, xL, zD, xM, xN, xO, Array.size, te, einl, inls, efr]
          refine ⟨⟨(k + 1, false, ts', T'), fun _ => ⟨rfl, rfl, hk', ?_⟩, fun h => by cases h⟩, rfl, by dsimp only; omega⟩
          dsimp only
          rw [List.take_add_one, hx, List.any_append, j4]
          simp [ht]
      case neg =>
        have hk' : k = ts'.length := by omega
        have all0 : ks.any (takes l gs n) = false := by
          rw [hk', hlen, List.take_length] at j4
          exact j4
        have sn := step_new (left := left) all0
        simp (maxSteps := 1000000) (implicitDefEqProofs := false) only [kl, kl2, hk, List.length_map, ss, List.replicate, zH, qG, zF, zG, St.eval, St.put, St.get, constV, List.set, lenV, qE, qF, qB, zC, norm, xQ, look, xP, xX, zO, zM, zE, zN, qA, qI, St.alloc, St.drop, killL, kill, xU, xV, zA, upd, cells?, part, retag, xT, putIn, refFree, xR, isNew, xS, Ty.isAgg, zB, idsL, ids, idsLL, reach, depth, St.dropL, qD, resultV, ↓reduceIte, Nat.reduceBEq, Nat.reduceAdd, Nat.reduceSub, Nat.reduceMul, Nat.reduceEqDiff, Nat.reduceLeDiff, Nat.reduceLT, qJ, qK, zV, zW, qL, qM, qN, qO, Eff.ap, qP, qQ, xW, qR, zI, onto, dropO, xA, sized, zP, eqT, eqG, minV, evUn, qS, zQ, zR, zS, qC, qT, upO, evSlice0, optInt, xC, qV, xD, del, xB, plain, plainL, zY, zZ, zT, qW, zU, zX, xY, qX, qY, qZ, xE, zJ, zK, zL, xF, xG, wit, xH, Option.isSome_some, xI, qH, xJ, evPre, St.with, xK, xL, zD, xM, xN, xO, Array.size, te, einl, inls, efr]
        generalize hr : loopAt _ _ _ _ _ _ = r; revert r
        refine loop_list l (fun pre2 _ => [(13, .bool (freshM pre2 gs ks n).isSome), (17, .int .i64 pre2.length)]) (fun pre2 _ => [(16, { es := 4, flat := true, t := true, app := false, elems := [.agg (cBT (freshM pre2 gs ks n))] })]) (fun _ (_ : Unit) => True) () (by omega) (by simp (maxSteps := 1000000) (implicitDefEqProofs := false) only [freshM, List.zipIdx_nil, List.foldl_nil, cBT, Option.isSome_none, ss, List.replicate, zH, qG, zF, zG, St.eval, St.put, St.get, constV, List.set, lenV, qE, qF, qB, zC, norm, xQ, look, xP, xX, zO, zM, zE, zN, qA, qI, St.alloc, St.drop, killL, kill, xU, xV, zA, upd, cells?, part, retag, xT, putIn, refFree, xR, isNew, xS, Ty.isAgg, zB, idsL, ids, idsLL, reach, depth, St.dropL, qD, resultV, ↓reduceIte, Nat.reduceBEq, Nat.reduceAdd, Nat.reduceSub, Nat.reduceMul, Nat.reduceEqDiff, Nat.reduceLeDiff, Nat.reduceLT, qJ, qK, zV, zW, qL, qM, qN, qO, Eff.ap, qP, qQ, xW, qR, zI, onto, dropO, xA, sized, zP, eqT, eqG, minV, evUn, qS, zQ, zR, zS, qC, qT, upO, evSlice0, optInt, xC, qV, xD, del, xB, plain, plainL, zY, zZ, zT, qW, zU, zX, xY, qX, qY, qZ, xE, zJ, zK, zL, xF, xG, wit, xH, Option.isSome_some, xI, qH, xJ, evPre, St.with, xK, xL, zD, xM, xN, xO, Array.size, te, einl, inls, efr]) trivial (fun _ _ => ?_) (fun pre2 f post2 _ hq2 _ y1 y2 y3 y4 => ?_)
        · cases hF : freshM l gs ks n with
          | some y =>
            rw [hF] at sn
            rw [sn]
            have hroom : roomy (ts'.length + 1) 64 = true := by simp [roomy]; omega
            have hbig : ts'.length + 1 ≤ 4294967296 := by omega
            have e2 : ts'.map encTL ++ [.agg (cBT (some y))] = (ts' ++ [(y, true, true)]).map encTL := by rw [List.map_append]; rfl
            unfold cBT at e2 ⊢
            simp (maxSteps := 1000000) (implicitDefEqProofs := false) only [kl, kl2, Int.lt_irrefl, g4, hroom, hbig, e2, Option.isSome_some, List.length_map, ss, List.replicate, zH, qG, zF, zG, St.eval, St.put, St.get, constV, List.set, lenV, qE, qF, qB, zC, norm, xQ, look, xP, xX, zO, zM, zE, zN, qA, qI, St.alloc, St.drop, killL, kill, xU, xV, zA, upd, cells?, part, retag, xT, putIn, refFree, xR, isNew, xS, Ty.isAgg, zB, idsL, ids, idsLL, reach, depth, St.dropL, qD, resultV, ↓reduceIte, Nat.reduceBEq, Nat.reduceAdd, Nat.reduceSub, Nat.reduceMul, Nat.reduceEqDiff, Nat.reduceLeDiff, Nat.reduceLT, qJ, qK, zV, zW, qL, qM, qN, qO, Eff.ap, qP, qQ, xW, qR, zI, onto, dropO, xA, sized, zP, eqT, eqG, minV, evUn, qS, zQ, zR, zS, qC, qT, upO, evSlice0, optInt, xC, qV, xD, del, xB, plain, plainL, zY, zZ, zT, qW, zU, zX, xY, qX, qY, qZ, xE, zJ, zK, zL, xF, xG, wit, xH, Option.isSome_some, xI, qH, xJ, evPre, St.with, xK, xL, zD, xM, xN, xO, Array.size, te, einl, inls, efr]
            refine ⟨(ts' ++ [(y, true, true)], T'), ?_, ?_⟩
            · simp
            · rw [← hc]; simp [loadsOf]
          | none =>
            rw [hF] at sn
            rw [sn, left_snoc]
            have il := isort_len (lt := ltI) left
            have k103 := c103 (isort ltI left) n (by omega)
            cases left with
            | nil =>
              have e0 : isort ltI [] = [] := rfl
              rw [e0] at k103 ⊢
              simp only [List.map_nil] at k103
              simp (maxSteps := 1000000) (implicitDefEqProofs := false) only [kl, kl2, Int.lt_irrefl, g4, k103, cBT, leftV, Option.isSome_none, List.length_map, ss, List.replicate, zH, qG, zF, zG, St.eval, St.put, St.get, constV, List.set, lenV, qE, qF, qB, zC, norm, xQ, look, xP, xX, zO, zM, zE, zN, qA, qI, St.alloc, St.drop, killL, kill, xU, xV, zA, upd, cells?, part, retag, xT, putIn, refFree, xR, isNew, xS, Ty.isAgg, zB, idsL, ids, idsLL, reach, depth, St.dropL, qD, resultV, ↓reduceIte, Nat.reduceBEq, Nat.reduceAdd, Nat.reduceSub, Nat.reduceMul, Nat.reduceEqDiff, Nat.reduceLeDiff, Nat.reduceLT, qJ, qK, zV, zW, qL, qM, qN, qO, Eff.ap, qP, qQ, xW, qR, zI, onto, dropO, xA, sized, zP, eqT, eqG, minV, evUn, qS, zQ, zR, zS, qC, qT, upO, evSlice0, optInt, xC, qV, xD, del, xB, plain, plainL, zY, zZ, zT, qW, zU, zX, xY, qX, qY, qZ, xE, zJ, zK, zL, xF, xG, wit, xH, Option.isSome_some, xI, qH, xJ, evPre, St.with, xK, xL, zD, xM, xN, xO, Array.size, te, einl, inls, efr]
              exact ⟨(ts', T'), rfl, hc⟩
            | cons a r =>
              simp (maxSteps := 1000000) (implicitDefEqProofs := false) only [kl, kl2, Int.lt_irrefl, g4, k103, cBT, leftV, Option.isSome_none, List.length_map, ss, List.replicate, zH, qG, zF, zG, St.eval, St.put, St.get, constV, List.set, lenV, qE, qF, qB, zC, norm, xQ, look, xP, xX, zO, zM, zE, zN, qA, qI, St.alloc, St.drop, killL, kill, xU, xV, zA, upd, cells?, part, retag, xT, putIn, refFree, xR, isNew, xS, Ty.isAgg, zB, idsL, ids, idsLL, reach, depth, St.dropL, qD, resultV, ↓reduceIte, Nat.reduceBEq, Nat.reduceAdd, Nat.reduceSub, Nat.reduceMul, Nat.reduceEqDiff, Nat.reduceLeDiff, Nat.reduceLT, qJ, qK, zV, zW, qL, qM, qN, qO, Eff.ap, qP, qQ, xW, qR, zI, onto, dropO, xA, sized, zP, eqT, eqG, minV, evUn, qS, zQ, zR, zS, qC, qT, upO, evSlice0, optInt, xC, qV, xD, del, xB, plain, plainL, zY, zZ, zT, qW, zU, zX, xY, qX, qY, qZ, xE, zJ, zK, zL, xF, xG, wit, xH, Option.isSome_some, xI, qH, xJ, evPre, St.with, xK, xL, zD, xM, xN, xO, Array.size, te, einl, inls, efr]
              exact ⟨(ts', T'), rfl, hc⟩
        · have hfl := hl f (List.mem_of_getElem? y3)
          have k104 := c104 l gs ts' ks hc n pre2.length f y3 hl hg hsnd hn (by omega)
          have hgm := hg _ (goodAt_mem hn)
          have fs := freshM_snoc pre2 f gs ks n
          rw [fs]
          have bin : ∀ z, freshM pre2 gs ks n = some z → 0 ≤ z.start ∧ z.start ≤ 60 ∧ z.heats.length ≤ 12 := fun z hz => by
            obtain ⟨i, f', hif, hbg⟩ := fresh_some hz
            exact begin_in (hl f' (by rw [hq2]; exact List.mem_append_left _ (List.mem_of_getElem? hif))) hgm hbg
          have yin : ∀ z, beginM gs ks n pre2.length f = some z → 0 ≤ z.start ∧ z.start ≤ 60 ∧ z.heats.length ≤ 12 := fun z hz => begin_in hfl hgm hz
          generalize freshM pre2 gs ks n = Bst at *
          cases hbg : beginM gs ks n pre2.length f with
          | none =>
            rw [hbg] at k104
            unfold encBeg at k104
            simp (maxSteps := 1000000) (implicitDefEqProofs := false) only [kl, kl2, y1, y2, y3, y4, k104, tkl, better, Int.natCast_nonneg, Int.toNat_natCast, List.getElem?_map, List.length_map, evRegion_st hok, ss, List.replicate, zH, qG, zF, zG, St.eval, St.put, St.get, constV, List.set, lenV, qE, qF, qB, zC, norm, xQ, look, xP, xX, zO, zM, zE, zN, qA, qI, St.alloc, St.drop, killL, kill, xU, xV, zA, upd, cells?, part, retag, xT, putIn, refFree, xR, isNew, xS, Ty.isAgg, zB, idsL, ids, idsLL, reach, depth, St.dropL, qD, resultV, ↓reduceIte, Nat.reduceBEq, Nat.reduceAdd, Nat.reduceSub, Nat.reduceMul, Nat.reduceEqDiff, Nat.reduceLeDiff, Nat.reduceLT, qJ, qK, zV, zW, qL, qM, qN, qO, Eff.ap, qP, qQ, xW, qR, zI, onto, dropO, xA, sized, zP, eqT, eqG, minV, evUn, qS, zQ, zR, zS, qC, qT, upO, evSlice0, optInt, xC, qV, xD, del, xB, plain, plainL, zY, zZ, zT, qW, zU, zX, xY, qX, qY, qZ, xE, zJ, zK, zL, xF, xG, wit, xH, Option.isSome_some, xI, qH, xJ, evPre, St.with, xK, xL, zD, xM, xN, xO, Array.size, te, einl, inls, efr]
            exact ⟨(), trivial⟩
          | some y =>
            rw [hbg] at k104
            rw [show encBeg (some y) = .tup [.agg [.int .i64 y.loft, .int .i64 y.start, .sl true (y.heats.map vI), .sl true (y.goods.map vI)], .bool true] from rfl] at k104
            have c1 := yin y hbg
            have k93 := c93 y (by omega)
            unfold encLd at k93
            cases Bst with
            | none =>
              simp (maxSteps := 1000000) (implicitDefEqProofs := false) only [kl, kl2, y1, y2, y3, y4, k104, k93, tkl, better, cBT, Option.isSome_none, Option.isSome_some, Int.natCast_nonneg, Int.toNat_natCast, List.getElem?_map, List.length_map, evRegion_st hok, ss, List.replicate, zH, qG, zF, zG, St.eval, St.put, St.get, constV, List.set, lenV, qE, qF, qB, zC, norm, xQ, look, xP, xX, zO, zM, zE, zN, qA, qI, St.alloc, St.drop, killL, kill, xU, xV, zA, upd, cells?, part, retag, xT, putIn, refFree, xR, isNew, xS, Ty.isAgg, zB, idsL, ids, idsLL, reach, depth, St.dropL, qD, resultV, ↓reduceIte, Nat.reduceBEq, Nat.reduceAdd, Nat.reduceSub, Nat.reduceMul, Nat.reduceEqDiff, Nat.reduceLeDiff, Nat.reduceLT, qJ, qK, zV, zW, qL, qM, qN, qO, Eff.ap, qP, qQ, xW, qR, zI, onto, dropO, xA, sized, zP, eqT, eqG, minV, evUn, qS, zQ, zR, zS, qC, qT, upO, evSlice0, optInt, xC, qV, xD, del, xB, plain, plainL, zY, zZ, zT, qW, zU, zX, xY, qX, qY, qZ, xE, zJ, zK, zL, xF, xG, wit, xH, Option.isSome_some, xI, qH, xJ, evPre, St.with, xK, xL, zD, xM, xN, xO, Array.size, te, einl, inls, efr]
              exact ⟨(), trivial⟩
            | some z =>
              have c2 := bin z rfl
              have k93z := c93 z (by omega)
              unfold encLd at k93z
              by_cases hlt : endM y < endM z
              · simp (maxSteps := 1000000) (implicitDefEqProofs := false) only [kl, kl2, y1, y2, y3, y4, k104, k93, k93z, hlt, tkl, better, cBT, ↓reduceIte, Option.isSome_none, Option.isSome_some, Int.natCast_nonneg, Int.toNat_natCast, List.getElem?_map, List.length_map, evRegion_st hok, ss, List.replicate, zH, qG, zF, zG, St.eval, St.put, St.get, constV, List.set, lenV, qE, qF, qB, zC, norm, xQ, look, xP, xX, zO, zM, zE, zN, qA, qI, St.alloc, St.drop, killL, kill, xU, xV, zA, upd, cells?, part, retag, xT, putIn, refFree, xR, isNew, xS, Ty.isAgg, zB, idsL, ids, idsLL, reach, depth, St.dropL, qD, resultV, ↓reduceIte, Nat.reduceBEq, Nat.reduceAdd, Nat.reduceSub, Nat.reduceMul, Nat.reduceEqDiff, Nat.reduceLeDiff, Nat.reduceLT, qJ, qK, zV, zW, qL, qM, qN, qO, Eff.ap, qP, qQ, xW, qR, zI, onto, dropO, xA, sized, zP, eqT, eqG, minV, evUn, qS, zQ, zR, zS, qC, qT, upO, evSlice0, optInt, xC, qV, xD, del, xB, plain, plainL, zY, zZ, zT, qW, zU, zX, xY, qX, qY, qZ, xE, zJ, zK, zL, xF, xG, wit, xH, Option.isSome_some, xI, qH, xJ, evPre, St.with, xK, xL, zD, xM, xN, xO, Array.size, te, einl, inls, efr]
                exact ⟨(), trivial⟩
              · simp (maxSteps := 1000000) (implicitDefEqProofs := false) only [kl, kl2, y1, y2, y3, y4, k104, k93, k93z, hlt, tkl, better, cBT, ↓reduceIte, Option.isSome_none, Option.isSome_some, Int.natCast_nonneg, Int.toNat_natCast, List.getElem?_map, List.length_map, evRegion_st hok, ss, List.replicate, zH, qG, zF, zG, St.eval, St.put, St.get, constV, List.set, lenV, qE, qF, qB, zC, norm, xQ, look, xP, xX, zO, zM, zE, zN, qA, qI, St.alloc, St.drop, killL, kill, xU, xV, zA, upd, cells?, part, retag, xT, putIn, refFree, xR, isNew, xS, Ty.isAgg, zB, idsL, ids, idsLL, reach, depth, St.dropL, qD, resultV, ↓reduceIte, Nat.reduceBEq, Nat.reduceAdd, Nat.reduceSub, Nat.reduceMul, Nat.reduceEqDiff, Nat.reduceLeDiff, Nat.reduceLT, qJ, qK, zV, zW, qL, qM, qN, qO, Eff.ap, qP, qQ, xW, qR, zI, onto, dropO, xA, sized, zP, eqT, eqG, minV, evUn, qS, zQ, zR, zS, qC, qT, upO, evSlice0, optInt, xC, qV, xD, del, xB, plain, plainL, zY, zZ, zT, qW, zU, zX, xY, qX, qY, qZ, xE, zJ, zK, zL, xF, xG, wit, xH, Option.isSome_some, xI, qH, xJ, evPre, St.with, xK, xL, zD, xM, xN, xO, Array.size, te, einl, inls, efr]
                exact ⟨(), trivial⟩
end Go.AM.B

