/-
More goods and more poles.
-/
import Derived.Test.YtbfgifolmpmagaaBProofL
import Derived.Test.YtbfgifolmpmagaaAmBad
set_option linter.unusedSimpArgs false

namespace Go.AM.B
open Go Go.AM Go.Proofs

def wideF (f : Loft) : Loft := ⟨min (IntKind.i64.wrap (f.poles + 1)) 40, f.rates⟩

theorem finS_rates {f f' : Loft} (h : f.rates = f'.rates) (need most : Int) : ∀ (m : Nat) (heat sum : Int), finS f need most m heat sum = finS f' need most m heat sum
  | 0, _, _ => rfl
  | m + 1, heat, sum => by
    have e : ∀ n, rateAt f n = rateAt f' n := fun n => by unfold rateAt; rw [h]
    unfold finS
    have : (fun g => finS f need most m g (sum + rateAt f g)) = fun g => finS f' need most m g (sum + rateAt f' g) := funext fun g => by rw [e g, finS_rates h need most m]
    rw [this]
theorem progS_rates {f f' : Loft} (h : f.rates = f'.rates) (need most : Int) : progS f need most = progS f' need most := by
  have : ∀ n d, progFrom f need most d n = progFrom f' need most d n := by
    intro n
    induction n with
    | zero => intro d; rfl
    | succ n ih => intro d; unfold progFrom; rw [finS_rates h, ih]
  exact this 12 1

/-- Found, and in no more days. -/
def Sooner (p q : Int × Bool) : Prop := p.2 = true → q.2 = true ∧ q.1 ≤ p.1

theorem sooner_step {g : Goods} {f f' : Loft} {p q : Int × Bool} (hr : f.rates = f'.rates) (hp : f.poles ≤ f'.poles) (h : Sooner p q) : Sooner (dstep g p f) (dstep g q f') := by
  unfold dstep
  rw [progS_rates hr]
  cases progS f' g.need g.most with
  | none => exact h
  | some l =>
    dsimp only
    intro h1
    by_cases c1 : g.poles ≤ f.poles ∧ (p.2 = false ∨ (l.length : Int) < p.1)
    · rw [if_pos c1] at h1 ⊢
      by_cases c2 : g.poles ≤ f'.poles ∧ (q.2 = false ∨ (l.length : Int) < q.1)
      · rw [if_pos c2]; exact ⟨rfl, Int.le_refl _⟩
      · rw [if_neg c2]
        have c3 : ¬ (q.2 = false ∨ (l.length : Int) < q.1) := fun hh => c2 ⟨by omega, hh⟩
        refine ⟨?_, ?_⟩
        · cases hq : q.2 with
          | true => rfl
          | false => exact absurd (.inl hq) c3
        · have : ¬ (l.length : Int) < q.1 := fun hh => c3 (.inr hh)
          dsimp only; omega
    · rw [if_neg c1] at h1 ⊢
      obtain ⟨h2, h3⟩ := h h1
      by_cases c2 : g.poles ≤ f'.poles ∧ (q.2 = false ∨ (l.length : Int) < q.1)
      · rw [if_pos c2]
        rcases c2.2 with c | c
        · rw [h2] at c; cases c
        · exact ⟨rfl, by dsimp only; omega⟩
      · rw [if_neg c2]; exact ⟨h2, h3⟩

theorem sooner_all (g : Goods) : ∀ (l : List Loft) (p q : Int × Bool), (∀ f ∈ l, loftOk f = true) → Sooner p q → Sooner (l.foldl (dstep g) p) ((l.map wideF).foldl (dstep g) q)
  | [], _, _, _, h => h
  | f :: l, p, q, hl, h => by
    have h1 := (loftOk_iff.1 (hl f List.mem_cons_self)).1
    have hw : IntKind.i64.wrap (f.poles + 1) = f.poles + 1 := wrap_in (by omega)
    exact sooner_all g l _ _ (fun x hx => hl x (List.mem_cons_of_mem _ hx)) (sooner_step (f' := wideF f) rfl (by show f.poles ≤ min (IntKind.i64.wrap (f.poles + 1)) 40; rw [hw]; omega) h)
theorem sooner (g : Goods) {l : List Loft} (hl : ∀ f ∈ l, loftOk f = true) : Sooner (daysM g l) (daysM g (l.map wideF)) := sooner_all g l _ _ hl fun h => by cases h

theorem room_wide {a b : Int} (hab : a ≤ b) : ∀ {l : List Loft}, (∀ f ∈ l, loftOk f = true) → roomM l a b ≤ roomM (l.map wideF) a b
  | [], _ => Int.le_refl _
  | f :: l, hl => by
    have h1 := (loftOk_iff.1 (hl f List.mem_cons_self)).1
    have hw : IntKind.i64.wrap (f.poles + 1) = f.poles + 1 := wrap_in (by omega)
    have ih := room_wide hab (l := l) fun x hx => hl x (List.mem_cons_of_mem _ hx)
    have e1 : roomM (f :: l) a b = f.poles * (b - a) + roomM l a b := by simp [roomM]
    have e2 : roomM ((f :: l).map wideF) a b = (wideF f).poles * (b - a) + roomM (l.map wideF) a b := by simp [roomM]
    have e3 : f.poles * (b - a) ≤ (wideF f).poles * (b - a) := Int.mul_le_mul_of_nonneg_right (by show f.poles ≤ min (IntKind.i64.wrap (f.poles + 1)) 40; rw [hw]; omega) (by omega)
    rw [e1, e2]
    omega

theorem prov_wide {l : List Loft} {gs : List Goods} {a b : Int} (hl : ∀ f ∈ l, loftOk f = true) (hg : ∀ g ∈ gs, goodsOk g = true) (hab : a ≤ b) (h : provM (l.map wideF) gs a b = true) : provM l gs a b = true := by
  unfold provM at h ⊢
  rw [Bool.or_eq_true] at h ⊢
  by_cases hn : (gs.any fun g => inW a b g && never l g) = true
  · exact .inl hn
  right
  have hf : ∀ g ∈ gs, inW a b g = true → (daysM g l).2 = true := fun g hgm hw => by
    cases hd : (daysM g l).2 with
    | true => rfl
    | false => exact absurd (List.any_eq_true.2 ⟨g, hgm, by unfold never; rw [hw, hd]; rfl⟩) hn
  have hsum : sumW (l.map wideF) a b gs ≤ sumW l a b gs := by
    clear h hn
    induction gs with
    | nil => exact Int.le_refl _
    | cons g gs ih =>
      have ih := ih (fun x hx => hg x (List.mem_cons_of_mem _ hx)) (fun x hx => hf x (List.mem_cons_of_mem _ hx))
      have e : ∀ l, sumW l a b (g :: gs) = (if inW a b g = true then needP l g else 0) + sumW l a b gs := fun l => by
        unfold sumW
        cases hw : inW a b g <;> simp [hw]
      rw [e, e]
      cases hw : inW a b g with
      | false => simpa using ih
      | true =>
        have h1 := (sooner g hl (hf g List.mem_cons_self hw)).2
        have h2 := (goodsOk_iff.1 (hg g List.mem_cons_self)).1
        have h3 : needP (l.map wideF) g ≤ needP l g := Int.mul_le_mul_of_nonneg_left h1 (by omega)
        simp only [if_true]
        omega
  have hr := room_wide hab hl
  rcases h with h | h
  · obtain ⟨g, hgm, hh⟩ := List.any_eq_true.1 h
    rw [Bool.and_eq_true] at hh
    have h1 := (sooner g hl (hf g hgm hh.1)).1
    have h2 := hh.2
    unfold never at h2
    rw [h1] at h2
    cases h2
  · simp only [decide_eq_true_eq] at h ⊢
    omega

theorem more_wide {l : List Loft} {gs : List Goods} {a b : Int} (hl : validLs l = 0) (h : isPM (l.map wideF) gs a b = true) : isPM l gs a b = true := by
  unfold isPM at h ⊢
  simp only [Bool.and_eq_true, decide_eq_true_eq] at h ⊢
  obtain ⟨h1, ⟨h2, h3⟩, h4⟩ := h
  obtain ⟨_, b2⟩ := bothE_zero h1
  exact ⟨by unfold bothE; rw [if_pos hl]; exact b2, ⟨h2, h3⟩, prov_wide (validLs_zero hl).2 (goodsE_zero b2).2 (inB_iff.1 h2).2 h4⟩

theorem more_goods {l : List Loft} {gs : List Goods} {g : Goods} {a b : Int} (hn : gs.length < 8) (hg : goodsOk g = true) (h : isPM l gs a b = true) : isPM l (gs ++ [g]) a b = true := by
  unfold isPM at h ⊢
  simp only [Bool.and_eq_true, decide_eq_true_eq] at h ⊢
  obtain ⟨h1, h2, h4⟩ := h
  obtain ⟨b1, b2⟩ := bothE_zero h1
  have hgs := (goodsE_zero b2).2
  refine ⟨?_, h2, ?_⟩
  · unfold bothE
    rw [if_pos b1]
    unfold goodsE
    rw [if_neg (by simp; omega), if_pos]
    rw [List.all_append, List.all_eq_true.2 hgs]
    simp [hg]
  · unfold provM at h4 ⊢
    rw [Bool.or_eq_true] at h4 ⊢
    rcases h4 with h4 | h4
    · left; rw [List.any_append, h4]; rfl
    · right
      have h5 := needP_in (validLs_zero b1).2 hg
      rw [sumW_snoc]
      simp only [decide_eq_true_eq] at h4 ⊢
      split <;> omega

theorem inf9 : (drawn (Try.f9.body.getD .skip)).map infosOf = [[([], false), ([], false), ([0], false), ([], false), ([0, 3], false), ([0, 2, 3], false), ([], true), ([], true)]] := by decide +kernel
theorem okD9 : (drawn (Try.f9.body.getD .skip)).all okBad = true := by decide +kernel

set_option maxRecDepth 20000 in
set_option maxHeartbeats 8000000 in
theorem c9 (l : List Loft) (gs : List Goods) (g : Goods) (a b : Int) : (orcω E X0).call 9 [.agg [.sl false (l.map encL), .sl false (gs.map encG)], encG g, .agg [.int .i64 a, .int .i64 b]] = some (.bool true) := by
  refine call_of rfl fn9 rfl ?_
  have hi := inf9
  have ho := okD9
  simp only [Try.f9, Option.getD_some, drawn, List.map_cons, List.map_nil, List.nil_append, List.append_nil, List.cons_append, List.cons.injEq, and_true] at hi
  simp only [Try.f9, Option.getD_some, drawn, List.nil_append, List.append_nil, List.cons_append, List.all_cons, List.all_nil, Bool.and_true] at ho
  have k1 := c40 l gs []
  simp only [List.map_nil] at k1
  cases hl : largeM l gs [] with
  | true =>
    rw [hl] at k1
    rw [show encG g = .agg [.int .i64 g.poles, .int .i64 g.need, .int .i64 g.most, .int .i64 g.ready, .int .i64 g.due] from rfl]
    simp (maxSteps := 1000000) (implicitDefEqProofs := false) only [Try.ntmps9, Try.results9, efc9, fc9, k1, c25, ss, List.replicate, evOp, evPlain, evVal, evMem, St.eval, St.put, St.get, constV, List.set, lenV, sliceOf, arrayOf, fieldsOf, normOf, norm, firstRegion, look, maskFrom, evBin, evIndexS, evLoad, evVar, evStore, evFieldAddr, nameOf, St.alloc, St.drop, killL, kill, killAll, killObs, killOb, upd, cells?, part, retag, retagL, putIn, refFree, refFreeL, isNew, isNewL, Ty.isAgg, splice, idsL, ids, idsLL, reach, depth, St.dropL, resultsV, resultV, ↓reduceIte, Nat.reduceBEq, Nat.reduceAdd, Nat.reduceSub, Nat.reduceMul, Nat.reduceEqDiff, Nat.reduceLeDiff, Nat.reduceLT, effOf, effMem, effStore, effCall, effVar, effLit, effMake, effApp, Eff.ap, lend, evLit, evMake, evNil, freeze, onto, dropO, elemsV, sized, evCmp, eqT, eqG, minV, evUn, evField, evExtract, evIndexA, evIndexV, evSlice, optInt, fillV, placeOf, thawed, del, isNilSlice, plain, plainL, cellsJ, junkOk, evLook, evMap, evEnter, effEnter, findV, mapOf, keyOk, evFrame, unframe, closed, fixed, sameEs, pickObs, putObs, wit, sameWit, Option.isSome_some, evNilCheck, St.with, setSlots, setObs, wantedD, seqOf, noRange, setAll, Array.size, te, einl, inls, efr]
  | false =>
  obtain ⟨n1, n2, _, _⟩ := large_no hl
  rw [hl] at k1
  by_cases h8 : 8 ≤ gs.length
  · have h8' : (8 : Int) ≤ gs.length := by omega
    rw [show encG g = .agg [.int .i64 g.poles, .int .i64 g.need, .int .i64 g.most, .int .i64 g.ready, .int .i64 g.due] from rfl]
    simp (maxSteps := 1000000) (implicitDefEqProofs := false) only [Try.ntmps9, Try.results9, efc9, fc9, k1, h8', c25, List.length_map, ss, List.replicate, evOp, evPlain, evVal, evMem, St.eval, St.put, St.get, constV, List.set, lenV, sliceOf, arrayOf, fieldsOf, normOf, norm, firstRegion, look, maskFrom, evBin, evIndexS, evLoad, evVar, evStore, evFieldAddr, nameOf, St.alloc, St.drop, killL, kill, killAll, killObs, killOb, upd, cells?, part, retag, retagL, putIn, refFree, refFreeL, isNew, isNewL, Ty.isAgg, splice, idsL, ids, idsLL, reach, depth, St.dropL, resultsV, resultV, ↓reduceIte, Nat.reduceBEq, Nat.reduceAdd, Nat.reduceSub, Nat.reduceMul, Nat.reduceEqDiff, Nat.reduceLeDiff, Nat.reduceLT, effOf, effMem, effStore, effCall, effVar, effLit, effMake, effApp, Eff.ap, lend, evLit, evMake, evNil, freeze, onto, dropO, elemsV, sized, evCmp, eqT, eqG, minV, evUn, evField, evExtract, evIndexA, evIndexV, evSlice, optInt, fillV, placeOf, thawed, del, isNilSlice, plain, plainL, cellsJ, junkOk, evLook, evMap, evEnter, effEnter, findV, mapOf, keyOk, evFrame, unframe, closed, fixed, sameEs, pickObs, putObs, wit, sameWit, Option.isSome_some, evNilCheck, St.with, setSlots, setObs, wantedD, seqOf, noRange, setAll, Array.size, te, einl, inls, efr]
  have h8' : ¬ (8 : Int) ≤ gs.length := by omega
  have k2 := c41 [g] (by simp)
  simp only [List.map_cons, List.map_nil] at k2
  by_cases hg : goodsE [g] = 0
  case neg =>
    have hg' : (goodsE [g] != 0) = true := by simpa using hg
    rw [show encG g = .agg [.int .i64 g.poles, .int .i64 g.need, .int .i64 g.most, .int .i64 g.ready, .int .i64 g.due] from rfl] at k2 ⊢
    simp (maxSteps := 1000000) (implicitDefEqProofs := false) only [Try.ntmps9, Try.results9, efc9, fc9, k1, k2, h8', hg', c25, List.length_map, ss, List.replicate, evOp, evPlain, evVal, evMem, St.eval, St.put, St.get, constV, List.set, lenV, sliceOf, arrayOf, fieldsOf, normOf, norm, firstRegion, look, maskFrom, evBin, evIndexS, evLoad, evVar, evStore, evFieldAddr, nameOf, St.alloc, St.drop, killL, kill, killAll, killObs, killOb, upd, cells?, part, retag, retagL, putIn, refFree, refFreeL, isNew, isNewL, Ty.isAgg, splice, idsL, ids, idsLL, reach, depth, St.dropL, resultsV, resultV, ↓reduceIte, Nat.reduceBEq, Nat.reduceAdd, Nat.reduceSub, Nat.reduceMul, Nat.reduceEqDiff, Nat.reduceLeDiff, Nat.reduceLT, effOf, effMem, effStore, effCall, effVar, effLit, effMake, effApp, Eff.ap, lend, evLit, evMake, evNil, freeze, onto, dropO, elemsV, sized, evCmp, eqT, eqG, minV, evUn, evField, evExtract, evIndexA, evIndexV, evSlice, optInt, fillV, placeOf, thawed, del, isNilSlice, plain, plainL, cellsJ, junkOk, evLook, evMap, evEnter, effEnter, findV, mapOf, keyOk, evFrame, unframe, closed, fixed, sameEs, pickObs, putObs, wit, sameWit, Option.isSome_some, evNilCheck, St.with, setSlots, setObs, wantedD, seqOf, noRange, setAll, Array.size, te, einl, inls, efr]
  case pos =>
  rw [hg] at k2
  have hgo := (goodsE_zero hg).2 g (by simp)
  have k3 := c42 l gs a b (by omega)
  have k4 := c42 l (gs ++ [g]) a b (by simp; omega)
  have k5 := c42 (l.map wideF) gs a b (by omega)
  have k6 := c30 l
  have law1 := more_goods (l := l) (a := a) (b := b) (show gs.length < 8 by omega) hgo
  have law2 := fun h => more_wide (l := l) (gs := gs) (a := a) (b := b) h
  have szg : sized 5 (gs.map encG) = true := sized_map (f := encG) (n := 5) (fun h => ⟨_, rfl, rfl⟩) gs
  have r1 : roomy gs.length 40 = true := by simp [roomy]; omega
  have r2 : roomy (gs.length + 1) 40 = true := by simp [roomy]; omega
  have r3 : gs.length ≤ 4294967296 := by omega
  have r4 : gs.length + 1 ≤ 4294967296 := by omega
  have eg : gs.map encG ++ [.agg [.int .i64 g.poles, .int .i64 g.need, .int .i64 g.most, .int .i64 g.ready, .int .i64 g.due]] = (gs ++ [g]).map encG := by simp [encG]
  rw [show encG g = .agg [.int .i64 g.poles, .int .i64 g.need, .int .i64 g.most, .int .i64 g.ready, .int .i64 g.due] from rfl] at k2 ⊢
  have hlen : (gs ++ [g]).length = gs.length + 1 := by simp
  have tkg : ((gs ++ [g]).map encG).take (gs.length + 1) = (gs ++ [g]).map encG := List.take_of_length_le (by simp)
  have fin : isPM l gs a b = false → isPM (l.map wideF) gs a b = true → (validLs l != 0) = true := fun h1 h2 => by
    rcases validLs_one l with q | q
    · rw [law2 q h2] at h1; cases h1
    · rw [q]; rfl
  cases hp : isPM l gs a b with
  | true =>
    have hp2 := law1 hp
    rw [hp] at k3
    rw [hp2] at k4
    simp (maxSteps := 1000000) (implicitDefEqProofs := false) only [Try.ntmps9, Try.results9, efc9, fc9, k1, k2, k3, k4, h8', c25, List.length_map, szg, r1, r2, r3, r4, eg, bne_self_eq_false, regT ho hi, evBT_nil, evBT_cons, effT_true, effT_false, effT2_some, effT2_none, calmT, free, Eff.writes, supp, isBar, Option.toList_some, Option.toList_none, hlen, tkg, Nat.le_refl, ss, List.replicate, evOp, evPlain, evVal, evMem, St.eval, St.put, St.get, constV, List.set, lenV, sliceOf, arrayOf, fieldsOf, normOf, norm, firstRegion, look, maskFrom, evBin, evIndexS, evLoad, evVar, evStore, evFieldAddr, nameOf, St.alloc, St.drop, killL, kill, killAll, killObs, killOb, upd, cells?, part, retag, retagL, putIn, refFree, refFreeL, isNew, isNewL, Ty.isAgg, splice, idsL, ids, idsLL, reach, depth, St.dropL, resultsV, resultV, ↓reduceIte, Nat.reduceBEq, Nat.reduceAdd, Nat.reduceSub, Nat.reduceMul, Nat.reduceEqDiff, Nat.reduceLeDiff, Nat.reduceLT, effOf, effMem, effStore, effCall, effVar, effLit, effMake, effApp, Eff.ap, lend, evLit, evMake, evNil, freeze, onto, dropO, elemsV, sized, evCmp, eqT, eqG, minV, evUn, evField, evExtract, evIndexA, evIndexV, evSlice, optInt, fillV, placeOf, thawed, del, isNilSlice, plain, plainL, cellsJ, junkOk, evLook, evMap, evEnter, effEnter, findV, mapOf, keyOk, evFrame, unframe, closed, fixed, sameEs, pickObs, putObs, wit, sameWit, Option.isSome_some, evNilCheck, St.with, setSlots, setObs, wantedD, seqOf, noRange, setAll, Array.size, te, einl, inls, efr]
    generalize hr : loopAt _ _ _ _ _ _ = r; revert r
    refine loop_list l (fun pre _ => [(9, .own 9 0 pre.length), (10, .int .i64 pre.length)]) (fun pre _ => [(9, { es := 2, flat := true, t := pre.isEmpty, app := true, elems := (pre.map wideF).map encL })]) (fun _ (_ : Unit) => True) () (by omega) (by simp (maxSteps := 1000000) (implicitDefEqProofs := false) only [List.map_nil, List.isEmpty_nil, ss, List.replicate, evOp, evPlain, evVal, evMem, St.eval, St.put, St.get, constV, List.set, lenV, sliceOf, arrayOf, fieldsOf, normOf, norm, firstRegion, look, maskFrom, evBin, evIndexS, evLoad, evVar, evStore, evFieldAddr, nameOf, St.alloc, St.drop, killL, kill, killAll, killObs, killOb, upd, cells?, part, retag, retagL, putIn, refFree, refFreeL, isNew, isNewL, Ty.isAgg, splice, idsL, ids, idsLL, reach, depth, St.dropL, resultsV, resultV, ↓reduceIte, Nat.reduceBEq, Nat.reduceAdd, Nat.reduceSub, Nat.reduceMul, Nat.reduceEqDiff, Nat.reduceLeDiff, Nat.reduceLT, effOf, effMem, effStore, effCall, effVar, effLit, effMake, effApp, Eff.ap, lend, evLit, evMake, evNil, freeze, onto, dropO, elemsV, sized, evCmp, eqT, eqG, minV, evUn, evField, evExtract, evIndexA, evIndexV, evSlice, optInt, fillV, placeOf, thawed, del, isNilSlice, plain, plainL, cellsJ, junkOk, evLook, evMap, evEnter, effEnter, findV, mapOf, keyOk, evFrame, unframe, closed, fixed, sameEs, pickObs, putObs, wit, sameWit, Option.isSome_some, evNilCheck, St.with, setSlots, setObs, wantedD, seqOf, noRange, setAll, Array.size, te, einl, inls, efr]) trivial (fun _ _ => ?_) (fun pre x post _ hq _ g1 g2 g3 g4 => ?_)
    · have tk : ((l.map wideF).map encL).take l.length = (l.map wideF).map encL := List.take_of_length_le (by simp)
      cases hw : isPM (l.map wideF) gs a b with
      | true =>
        rw [hw] at k5
        simp (maxSteps := 1000000) (implicitDefEqProofs := false) only [Int.lt_irrefl, List.length_map, tk, k3, k5, k6, c25, Try.ntmps9, Try.results9, efc9, fc9, ss, List.replicate, evOp, evPlain, evVal, evMem, St.eval, St.put, St.get, constV, List.set, lenV, sliceOf, arrayOf, fieldsOf, normOf, norm, firstRegion, look, maskFrom, evBin, evIndexS, evLoad, evVar, evStore, evFieldAddr, nameOf, St.alloc, St.drop, killL, kill, killAll, killObs, killOb, upd, cells?, part, retag, retagL, putIn, refFree, refFreeL, isNew, isNewL, Ty.isAgg, splice, idsL, ids, idsLL, reach, depth, St.dropL, resultsV, resultV, ↓reduceIte, Nat.reduceBEq, Nat.reduceAdd, Nat.reduceSub, Nat.reduceMul, Nat.reduceEqDiff, Nat.reduceLeDiff, Nat.reduceLT, effOf, effMem, effStore, effCall, effVar, effLit, effMake, effApp, Eff.ap, lend, evLit, evMake, evNil, freeze, onto, dropO, elemsV, sized, evCmp, eqT, eqG, minV, evUn, evField, evExtract, evIndexA, evIndexV, evSlice, optInt, fillV, placeOf, thawed, del, isNilSlice, plain, plainL, cellsJ, junkOk, evLook, evMap, evEnter, effEnter, findV, mapOf, keyOk, evFrame, unframe, closed, fixed, sameEs, pickObs, putObs, wit, sameWit, Option.isSome_some, evNilCheck, St.with, setSlots, setObs, wantedD, seqOf, noRange, setAll, Array.size, te, einl, inls, efr]
      | false =>
        rw [hw] at k5
        simp (maxSteps := 1000000) (implicitDefEqProofs := false) only [Int.lt_irrefl, List.length_map, tk, k3, k5, k6, c25, Try.ntmps9, Try.results9, efc9, fc9, ss, List.replicate, evOp, evPlain, evVal, evMem, St.eval, St.put, St.get, constV, List.set, lenV, sliceOf, arrayOf, fieldsOf, normOf, norm, firstRegion, look, maskFrom, evBin, evIndexS, evLoad, evVar, evStore, evFieldAddr, nameOf, St.alloc, St.drop, killL, kill, killAll, killObs, killOb, upd, cells?, part, retag, retagL, putIn, refFree, refFreeL, isNew, isNewL, Ty.isAgg, splice, idsL, ids, idsLL, reach, depth, St.dropL, resultsV, resultV, ↓reduceIte, Nat.reduceBEq, Nat.reduceAdd, Nat.reduceSub, Nat.reduceMul, Nat.reduceEqDiff, Nat.reduceLeDiff, Nat.reduceLT, effOf, effMem, effStore, effCall, effVar, effLit, effMake, effApp, Eff.ap, lend, evLit, evMake, evNil, freeze, onto, dropO, elemsV, sized, evCmp, eqT, eqG, minV, evUn, evField, evExtract, evIndexA, evIndexV, evSlice, optInt, fillV, placeOf, thawed, del, isNilSlice, plain, plainL, cellsJ, junkOk, evLook, evMap, evEnter, effEnter, findV, mapOf, keyOk, evFrame, unframe, closed, fixed, sameEs, pickObs, putObs, wit, sameWit, Option.isSome_some, evNilCheck, St.with, setSlots, setObs, wantedD, seqOf, noRange, setAll, Array.size, te, einl, inls, efr]
    · have hroom : roomy (pre.length + 1) 32 = true := by simp [roomy]; omega
      have hbig : pre.length + 1 ≤ 4294967296 := by omega
      have e1 : (pre.map wideF).map encL ++ [.agg [.int .i64 (min (IntKind.i64.wrap (x.poles + 1)) 40), .sl false (x.rates.map vI)]] = ((pre ++ [x]).map wideF).map encL := by simp [wideF, encL]
      have e2 : (pre ++ [x]).length = pre.length + 1 := by simp
      have e3 : (pre ++ [x]).isEmpty = false := by simp
      simp (maxSteps := 1000000) (implicitDefEqProofs := false) only [g1, g2, g3, g4, hroom, hbig, e1, encL, Int.natCast_nonneg, Int.toNat_natCast, List.getElem?_map, List.length_map, Bool.and_false, ss, List.replicate, evOp, evPlain, evVal, evMem, St.eval, St.put, St.get, constV, List.set, lenV, sliceOf, arrayOf, fieldsOf, normOf, norm, firstRegion, look, maskFrom, evBin, evIndexS, evLoad, evVar, evStore, evFieldAddr, nameOf, St.alloc, St.drop, killL, kill, killAll, killObs, killOb, upd, cells?, part, retag, retagL, putIn, refFree, refFreeL, isNew, isNewL, Ty.isAgg, splice, idsL, ids, idsLL, reach, depth, St.dropL, resultsV, resultV, ↓reduceIte, Nat.reduceBEq, Nat.reduceAdd, Nat.reduceSub, Nat.reduceMul, Nat.reduceEqDiff, Nat.reduceLeDiff, Nat.reduceLT, effOf, effMem, effStore, effCall, effVar, effLit, effMake, effApp, Eff.ap, lend, evLit, evMake, evNil, freeze, onto, dropO, elemsV, sized, evCmp, eqT, eqG, minV, evUn, evField, evExtract, evIndexA, evIndexV, evSlice, optInt, fillV, placeOf, thawed, del, isNilSlice, plain, plainL, cellsJ, junkOk, evLook, evMap, evEnter, effEnter, findV, mapOf, keyOk, evFrame, unframe, closed, fixed, sameEs, pickObs, putObs, wit, sameWit, Option.isSome_some, evNilCheck, St.with, setSlots, setObs, wantedD, seqOf, noRange, setAll, Array.size, te, einl, inls, efr]
      exact ⟨(), by rw [e2, e3]⟩
  | false =>
    have fin := fin hp
    rw [hp] at k3
    simp (maxSteps := 1000000) (implicitDefEqProofs := false) only [Try.ntmps9, Try.results9, efc9, fc9, k1, k2, k3, k4, h8', c25, List.length_map, szg, r1, r2, r3, r4, eg, bne_self_eq_false, regT ho hi, evBT_nil, evBT_cons, effT_true, effT_false, effT2_some, effT2_none, calmT, free, Eff.writes, supp, isBar, Option.toList_some, Option.toList_none, hlen, tkg, Nat.le_refl, ss, List.replicate, evOp, evPlain, evVal, evMem, St.eval, St.put, St.get, constV, List.set, lenV, sliceOf, arrayOf, fieldsOf, normOf, norm, firstRegion, look, maskFrom, evBin, evIndexS, evLoad, evVar, evStore, evFieldAddr, nameOf, St.alloc, St.drop, killL, kill, killAll, killObs, killOb, upd, cells?, part, retag, retagL, putIn, refFree, refFreeL, isNew, isNewL, Ty.isAgg, splice, idsL, ids, idsLL, reach, depth, St.dropL, resultsV, resultV, ↓reduceIte, Nat.reduceBEq, Nat.reduceAdd, Nat.reduceSub, Nat.reduceMul, Nat.reduceEqDiff, Nat.reduceLeDiff, Nat.reduceLT, effOf, effMem, effStore, effCall, effVar, effLit, effMake, effApp, Eff.ap, lend, evLit, evMake, evNil, freeze, onto, dropO, elemsV, sized, evCmp, eqT, eqG, minV, evUn, evField, evExtract, evIndexA, evIndexV, evSlice, optInt, fillV, placeOf, thawed, del, isNilSlice, plain, plainL, cellsJ, junkOk, evLook, evMap, evEnter, effEnter, findV, mapOf, keyOk, evFrame, unframe, closed, fixed, sameEs, pickObs, putObs, wit, sameWit, Option.isSome_some, evNilCheck, St.with, setSlots, setObs, wantedD, seqOf, noRange, setAll, Array.size, te, einl, inls, efr]
    generalize hr : loopAt _ _ _ _ _ _ = r; revert r
    refine loop_list l (fun pre _ => [(9, .own 9 0 pre.length), (10, .int .i64 pre.length)]) (fun pre _ => [(9, { es := 2, flat := true, t := pre.isEmpty, app := true, elems := (pre.map wideF).map encL })]) (fun _ (_ : Unit) => True) () (by omega) (by simp (maxSteps := 1000000) (implicitDefEqProofs := false) only [List.map_nil, List.isEmpty_nil, ss, List.replicate, evOp, evPlain, evVal, evMem, St.eval, St.put, St.get, constV, List.set, lenV, sliceOf, arrayOf, fieldsOf, normOf, norm, firstRegion, look, maskFrom, evBin, evIndexS, evLoad, evVar, evStore, evFieldAddr, nameOf, St.alloc, St.drop, killL, kill, killAll, killObs, killOb, upd, cells?, part, retag, retagL, putIn, refFree, refFreeL, isNew, isNewL, Ty.isAgg, splice, idsL, ids, idsLL, reach, depth, St.dropL, resultsV, resultV, ↓reduceIte, Nat.reduceBEq, Nat.reduceAdd, Nat.reduceSub, Nat.reduceMul, Nat.reduceEqDiff, Nat.reduceLeDiff, Nat.reduceLT, effOf, effMem, effStore, effCall, effVar, effLit, effMake, effApp, Eff.ap, lend, evLit, evMake, evNil, freeze, onto, dropO, elemsV, sized, evCmp, eqT, eqG, minV, evUn, evField, evExtract, evIndexA, evIndexV, evSlice, optInt, fillV, placeOf, thawed, del, isNilSlice, plain, plainL, cellsJ, junkOk, evLook, evMap, evEnter, effEnter, findV, mapOf, keyOk, evFrame, unframe, closed, fixed, sameEs, pickObs, putObs, wit, sameWit, Option.isSome_some, evNilCheck, St.with, setSlots, setObs, wantedD, seqOf, noRange, setAll, Array.size, te, einl, inls, efr]) trivial (fun _ _ => ?_) (fun pre x post _ hq _ g1 g2 g3 g4 => ?_)
    · have tk : ((l.map wideF).map encL).take l.length = (l.map wideF).map encL := List.take_of_length_le (by simp)
      cases hw : isPM (l.map wideF) gs a b with
      | true =>
        have fn := fin hw
        rw [hw] at k5
        simp (maxSteps := 1000000) (implicitDefEqProofs := false) only [Int.lt_irrefl, List.length_map, tk, k3, k5, k6, fn, c25, Try.ntmps9, Try.results9, efc9, fc9, ss, List.replicate, evOp, evPlain, evVal, evMem, St.eval, St.put, St.get, constV, List.set, lenV, sliceOf, arrayOf, fieldsOf, normOf, norm, firstRegion, look, maskFrom, evBin, evIndexS, evLoad, evVar, evStore, evFieldAddr, nameOf, St.alloc, St.drop, killL, kill, killAll, killObs, killOb, upd, cells?, part, retag, retagL, putIn, refFree, refFreeL, isNew, isNewL, Ty.isAgg, splice, idsL, ids, idsLL, reach, depth, St.dropL, resultsV, resultV, ↓reduceIte, Nat.reduceBEq, Nat.reduceAdd, Nat.reduceSub, Nat.reduceMul, Nat.reduceEqDiff, Nat.reduceLeDiff, Nat.reduceLT, effOf, effMem, effStore, effCall, effVar, effLit, effMake, effApp, Eff.ap, lend, evLit, evMake, evNil, freeze, onto, dropO, elemsV, sized, evCmp, eqT, eqG, minV, evUn, evField, evExtract, evIndexA, evIndexV, evSlice, optInt, fillV, placeOf, thawed, del, isNilSlice, plain, plainL, cellsJ, junkOk, evLook, evMap, evEnter, effEnter, findV, mapOf, keyOk, evFrame, unframe, closed, fixed, sameEs, pickObs, putObs, wit, sameWit, Option.isSome_some, evNilCheck, St.with, setSlots, setObs, wantedD, seqOf, noRange, setAll, Array.size, te, einl, inls, efr]
      | false =>
        rw [hw] at k5
        simp (maxSteps := 1000000) (implicitDefEqProofs := false) only [Int.lt_irrefl, List.length_map, tk, k3, k5, k6, c25, Try.ntmps9, Try.results9, efc9, fc9, ss, List.replicate, evOp, evPlain, evVal, evMem, St.eval, St.put, St.get, constV, List.set, lenV, sliceOf, arrayOf, fieldsOf, normOf, norm, firstRegion, look, maskFrom, evBin, evIndexS, evLoad, evVar, evStore, evFieldAddr, nameOf, St.alloc, St.drop, killL, kill, killAll, killObs, killOb, upd, cells?, part, retag, retagL, putIn, refFree, refFreeL, isNew, isNewL, Ty.isAgg, splice, idsL, ids, idsLL, reach, depth, St.dropL, resultsV, resultV, ↓reduceIte, Nat.reduceBEq, Nat.reduceAdd, Nat.reduceSub, Nat.reduceMul, Nat.reduceEqDiff, Nat.reduceLeDiff, Nat.reduceLT, effOf, effMem, effStore, effCall, effVar, effLit, effMake, effApp, Eff.ap, lend, evLit, evMake, evNil, freeze, onto, dropO, elemsV, sized, evCmp, eqT, eqG, minV, evUn, evField, evExtract, evIndexA, evIndexV, evSlice, optInt, fillV, placeOf, thawed, del, isNilSlice, plain, plainL, cellsJ, junkOk, evLook, evMap, evEnter, effEnter, findV, mapOf, keyOk, evFrame, unframe, closed, fixed, sameEs, pickObs, putObs, wit, sameWit, Option.isSome_some, evNilCheck, St.with, setSlots, setObs, wantedD, seqOf, noRange, setAll, Array.size, te, einl, inls, efr]
    · have hroom : roomy (pre.length + 1) 32 = true := by simp [roomy]; omega
      have hbig : pre.length + 1 ≤ 4294967296 := by omega
      have e1 : (pre.map wideF).map encL ++ [.agg [.int .i64 (min (IntKind.i64.wrap (x.poles + 1)) 40), .sl false (x.rates.map vI)]] = ((pre ++ [x]).map wideF).map encL := by simp [wideF, encL]
      have e2 : (pre ++ [x]).length = pre.length + 1 := by simp
      have e3 : (pre ++ [x]).isEmpty = false := by simp
      simp (maxSteps := 1000000) (implicitDefEqProofs := false) only [g1, g2, g3, g4, hroom, hbig, e1, encL, Int.natCast_nonneg, Int.toNat_natCast, List.getElem?_map, List.length_map, Bool.and_false, ss, List.replicate, evOp, evPlain, evVal, evMem, St.eval, St.put, St.get, constV, List.set, lenV, sliceOf, arrayOf, fieldsOf, normOf, norm, firstRegion, look, maskFrom, evBin, evIndexS, evLoad, evVar, evStore, evFieldAddr, nameOf, St.alloc, St.drop, killL, kill, killAll, killObs, killOb, upd, cells?, part, retag, retagL, putIn, refFree, refFreeL, isNew, isNewL, Ty.isAgg, splice, idsL, ids, idsLL, reach, depth, St.dropL, resultsV, resultV, ↓reduceIte, Nat.reduceBEq, Nat.reduceAdd, Nat.reduceSub, Nat.reduceMul, Nat.reduceEqDiff, Nat.reduceLeDiff, Nat.reduceLT, effOf, effMem, effStore, effCall, effVar, effLit, effMake, effApp, Eff.ap, lend, evLit, evMake, evNil, freeze, onto, dropO, elemsV, sized, evCmp, eqT, eqG, minV, evUn, evField, evExtract, evIndexA, evIndexV, evSlice, optInt, fillV, placeOf, thawed, del, isNilSlice, plain, plainL, cellsJ, junkOk, evLook, evMap, evEnter, effEnter, findV, mapOf, keyOk, evFrame, unframe, closed, fixed, sameEs, pickObs, putObs, wit, sameWit, Option.isSome_some, evNilCheck, St.with, setSlots, setObs, wantedD, seqOf, noRange, setAll, Array.size, te, einl, inls, efr]
      exact ⟨(), by rw [e2, e3]⟩
end Go.AM.B
