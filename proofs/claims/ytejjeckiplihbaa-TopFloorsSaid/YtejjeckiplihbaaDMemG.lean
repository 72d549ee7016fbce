/- A part of the proof: the texts DPackC, DMem, DDivP, one after another. No condition. -/
import Derived.Test.YtejjeckiplihbaaDPack
import Derived.Test.YtejjeckiplihbaaDPat
set_option linter.unusedSimpArgs false
set_option maxRecDepth 20000

section
/-
The cuts of a set of strips from a roll.
-/
namespace Go.AM.D
open Go Go.AM Go.Proofs

theorem inf124 : (drawn (Try.f124.body.getD .skip)).map infosOf = [[([], false), ([], false), ([], false), ([], false), ([], false), ([], false), ([], false), ([], false), ([], false), ([], false), ([], false), ([], false), ([], false), ([], false), ([], false), ([], false), ([], false), ([], true), ([], true)]] := by decide +kernel
theorem okD124 : (drawn (Try.f124.body.getD .skip)).all okBad = true := by decide +kernel
def encPackF (b : Bool) (j : Job) (r : Roll) : V := .agg [.sl b (arrL (fun q => (ent j r q).1) (2 ^ j.ss.length)), .sl b (arrL (fun q => (ent j r q).2) (2 ^ j.ss.length))]
def cutsOc (l : List Cut) : Ob := { es := 3, flat := true, t := true, app := true, elems := l.map encCut }
set_option maxRecDepth 20000 in
set_option maxHeartbeats 16000000 in
theorem c124 (j : Job) (r : Roll) (k : Int) (set : Nat) (hj : Right j) (hr : rollOk r j.rep = true) (hs : ∀ s ∈ j.ss, stripOk s = true) (hset : set < 2 ^ j.ss.length) (hfit : (ent j r set).1 < NEV) :
    (orcω E X0).call 124 [encPackF false j r, encJob j, .int .i64 k, .int .i64 (set : Nat)] = some (.sl true ((cutsR j r k set).map encCut)) := by
  refine call_of rfl fn124 rfl ?_
  have hi := inf124
  have ho := okD124
  simp only [Try.f124, Option.getD_some, drawn, List.map_cons, List.map_nil, List.nil_append, List.append_nil, List.cons_append, List.cons.injEq, and_true] at hi
  simp only [Try.f124, Option.getD_some, drawn, List.nil_append, List.append_nil, List.cons_append, List.all_cons, List.all_nil, Bool.and_true, Bool.and_eq_true] at ho
  have h6 := hj.nss
  have b1 := rollOk_iff.1 hr
  have shi := fun i (h : i < j.ss.length) => shl_in (n := i) (by omega)
  have hN1 : 1 ≤ 2 ^ j.ss.length := Nat.one_le_two_pow
  have hN2 : 2 ^ j.ss.length ≤ 64 := Nat.pow_le_pow_right (n := 2) (by omega) h6
  unfold encPackF encJob
  generalize hN : 2 ^ j.ss.length = N at hset hN1 hN2 ⊢
  generalize hC : cutsR j r k set = C
  simp (maxSteps := 1000000) (implicitDefEqProofs := false) only [Try.ntmps124, Try.results124, efc124, fc124, ss, sd, evOp, evPlain, evVal, evMem, St.get, sliceOf, arrayOf, fieldsOf, normOf, norm, look, evVar, evFieldAddr, nameOf, St.alloc, St.drop, killOb, part, splice, depth, resultsV, ↓reduceIte, Nat.reduceBEq, Nat.reduceAdd, Nat.reduceSub, Nat.reduceMul, Nat.reduceEqDiff, Nat.reduceLeDiff, Nat.reduceLT, effOf, effMem, effVar, effLit, effMake, effApp, lend, evLit, evNil, freeze, evField, evIndexT, orNil, evSlice, placeOf, evMap, mapOf, keyOk, evFrame, closed, fixed, sameEs, wit, Option.isSome_some, St.with, wantedD, Array.size, te, einl, inls, efr]
  generalize hr : loopAt _ _ _ _ _ _ = r; revert r
  refine loop_inv (ι := { q : Nat × List Cut // q.1 < N ∧ (ent j r q.1).1 < NEV ∧ q.2 ++ cutsR j r k q.1 = C ∧ q.2.length + q.1 ≤ set }) (fun q => [(3, .int .i64 (q.1.1 : Nat)), (9, .own 9 0 q.1.2.length)]) (fun q => [(9, cutsOc q.1.2)]) (fun q => q.1.1) ⟨(set, []), hset, hfit, hC, by simp⟩ (by simp (maxSteps := 1000000) (implicitDefEqProofs := false) only [cutsOc, List.map_nil, ss, sd, evOp, evPlain, evVal, evMem, St.get, sliceOf, arrayOf, fieldsOf, normOf, norm, look, evVar, evFieldAddr, nameOf, St.alloc, St.drop, killOb, part, splice, depth, resultsV, ↓reduceIte, Nat.reduceBEq, Nat.reduceAdd, Nat.reduceSub, Nat.reduceMul, Nat.reduceEqDiff, Nat.reduceLeDiff, Nat.reduceLT, effOf, effMem, effVar, effLit, effMake, effApp, lend, evLit, evNil, freeze, evField, evIndexT, orNil, evSlice, placeOf, evMap, mapOf, keyOk, evFrame, closed, fixed, sameEs, wit, Option.isSome_some, St.with, wantedD, Array.size, te, einl, inls, efr]) ?_
  rintro ⟨⟨q, out⟩, hq, hqf, hqc, hql⟩
  dsimp only at hq hqf hqc hql ⊢
  by_cases hz : q = 0
  · subst hz
    rw [cutsR_zero, List.append_nil] at hqc
    subst hqc
    have t1 : (out.map encCut).take out.length = out.map encCut := List.take_of_length_le (by simp)
    simp (maxSteps := 1000000) (implicitDefEqProofs := false) only [Int.natCast_zero, Int.lt_irrefl, cutsOc, t1, List.length_map, Try.ntmps124, Try.results124, efc124, fc124, ss, sd, evOp, evPlain, evVal, evMem, St.get, sliceOf, arrayOf, fieldsOf, normOf, norm, look, evVar, evFieldAddr, nameOf, St.alloc, St.drop, killOb, part, splice, depth, resultsV, ↓reduceIte, Nat.reduceBEq, Nat.reduceAdd, Nat.reduceSub, Nat.reduceMul, Nat.reduceEqDiff, Nat.reduceLeDiff, Nat.reduceLT, effOf, effMem, effVar, effLit, effMake, effApp, lend, evLit, evNil, freeze, evField, evIndexT, orNil, evSlice, placeOf, evMap, mapOf, keyOk, evFrame, closed, fixed, sameEs, wit, Option.isSome_some, St.with, wantedD, Array.size, te, einl, inls, efr]
  · have hq0 : (0 : Int) < q := by omega
    have hqN : (q : Int) < N := by omega
    obtain ⟨i, li⟩ := ent_last (by omega) hqf
    have hcr := cutsR_eq (j := j) (r := r) (k := k) (show 1 ≤ q by omega)
    have hin := ent_in hj hr hs q
    have hsub := ent_in hj hr hs (q - 2 ^ i)
    have an := andNot_bit (show q < 64 by omega) (show i < 6 by have := li.lt; omega) li.bit
    have lt := bit_lt li.bit
    have sh := shi i li.lt
    rw [li.eq, Int.toNat_natCast] at hcr
    have hlt := li.lt
    have ilt : (i : Int) < j.ss.length := by omega
    have gs : j.ss[i]? = some (stripI j i) := by
      unfold stripI
      rw [List.getD_eq_getElem?_getD, List.getElem?_eq_getElem li.lt]
      rfl
    have so := stripOk_iff.1 (hs _ (List.mem_of_getElem? gs))
    have ks := c106 (stripI j i) ⟨so.2.1, so.2.2⟩
    have hsz : sizeM (stripI j i) = (stripI j i).b - (stripI j i).a := rfl
    generalize stripI j i = s at *
    have e1 := li.eq
    have e2 := li.sub
    generalize hx : (ent j r q).1 = x at *
    generalize hy : (ent j r q).2 = y at *
    have hx0 := hin.lo
    rw [hx] at hx0
    generalize sizeM s = z at *
    have hxl : x ≤ 300 := by have := li.fit; omega
    have w1 : IntKind.i64.wrap (x - z) = x - z := wrap_in (by omega)
    have hroom : roomy (out.length + 1) 24 = true := by simp [roomy]; omega
    have hbig : out.length + 1 ≤ 4294967296 := by omega
    have z2 := sized_cuts out
    have e3 : out.map encCut ++ [.agg [.int .i64 (i : Nat), .int .i64 k, .int .i64 (x - z)]] = (out ++ [(⟨(i : Nat), k, x - z⟩ : Cut)]).map encCut := by simp [encCut]
    have e4 : (out ++ [(⟨(i : Nat), k, x - z⟩ : Cut)]).length = out.length + 1 := by simp
    subst e1
    unfold encStrip at ks
    simp (maxSteps := 1000000) (implicitDefEqProofs := false) only [hq0, hqN, hq, hx, hy, gs, ilt, ks, w1, sh, an, arr_get, arr_len, hroom, hbig, z2, e3, e4, cutsOc, encStrip, regT ho hi, evBT_nil, evBT_cons, effT_true, effT_false, effT2_some, effT2_none, calmT, free, Eff.writes, supp, isBar, Option.toList_some, Option.toList_none, Int.natCast_nonneg, Int.toNat_natCast, List.getElem?_map, List.length_map, ss, sd, evOp, evPlain, evVal, evMem, St.get, sliceOf, arrayOf, fieldsOf, normOf, norm, look, evVar, evFieldAddr, nameOf, St.alloc, St.drop, killOb, part, splice, depth, resultsV, ↓reduceIte, Nat.reduceBEq, Nat.reduceAdd, Nat.reduceSub, Nat.reduceMul, Nat.reduceEqDiff, Nat.reduceLeDiff, Nat.reduceLT, effOf, effMem, effVar, effLit, effMake, effApp, lend, evLit, evNil, freeze, evField, evIndexT, orNil, evSlice, placeOf, evMap, mapOf, keyOk, evFrame, closed, fixed, sameEs, wit, Option.isSome_some, St.with, wantedD, Array.size, te, einl, inls, efr]
    exact ⟨⟨(q - 2 ^ i, out ++ [(⟨(i : Nat), k, x - z⟩ : Cut)]), by dsimp only; omega, e2, by dsimp only; rw [List.append_assoc, List.singleton_append, ← hcr]; exact hqc, by dsimp only; rw [e4]; omega⟩, by first | rfl | simp, lt⟩
end Go.AM.D
end

section
/-
Sets of rolls: members, oneShade.
-/
namespace Go.AM.D
open Go Go.AM Go.Proofs

/-- The positions of the bits. -/
def mem (n : Nat) : List Nat := (List.range 5).filter (bitP n)
def memL (n : Nat) : List Int := (mem n).map fun (i : Nat) => (i : Int)
def eqInts : List V → List Int → Bool
  | [], [] => true
  | .int .i64 a :: vs, b :: bs => decide (a = b) && eqInts vs bs
  | _, _ => false
theorem eqInts_eq : ∀ {vs : List V} {l : List Int}, eqInts vs l = true → vs = l.map fun c => V.int .i64 c
  | [], [], _ => rfl
  | .int .i64 a :: vs, b :: bs, h => by
    unfold eqInts at h
    rw [Bool.and_eq_true, decide_eq_true_eq] at h
    rw [h.1, eqInts_eq h.2]
    rfl
def isList (l : List Int) (r : Option V) : Bool := match r with
  | some (.sl true vs) => eqInts vs l
  | _ => false
theorem isList_eq {l : List Int} {r : Option V} (h : isList l r = true) : r = some (.sl true (l.map fun c => V.int .i64 c)) := by
  unfold isList at h
  split at h
  · rw [eqInts_eq h]
  · cases h
set_option maxRecDepth 100000 in
theorem mem_runs : ((List.range 32).all fun n => isList (memL n) ((orc E X0 20).call 89 [.int .i64 (n : Nat)])) = true := by decide +kernel
theorem c89 (n : Nat) (hn : n < 32) : (orcω E X0).call 89 [.int .i64 n] = some (.sl true ((memL n).map fun c => V.int .i64 c)) :=
  (orcω_le 20).call 89 _ _ (isList_eq (List.all_eq_true.1 mem_runs n (List.mem_range.2 hn)))
theorem mem_lt {n i : Nat} (h : i ∈ mem n) : i < 5 := by
  unfold mem at h
  exact List.mem_range.1 (List.mem_filter.1 h).1

def shadeAt (j : Job) (x : Int) : Int := (j.rs.getD x.toNat roll0).sh
def oneS (j : Job) (l : List Int) : Bool := !(l.any fun x => shadeAt j x != shadeAt j (l.getD 0 0))
theorem okT123 : okCode (Try.f123.body.getD .skip) = true := by decide +kernel
set_option maxHeartbeats 4000000 in
theorem c123 (j : Job) (l : List Int) (x a : Int) (hx : 0 ≤ x ∧ x < j.rs.length) (ha : l[0]? = some a) (ha2 : 0 ≤ a ∧ a < j.rs.length) :
    (orcω E X0).call 123 [.int .i64 x, .fp false [.sl false (j.ss.map encStrip), .sl false (j.rs.map encRoll), .int .i64 j.rep] 0, .fp false [.sl false (l.map fun c => V.int .i64 c)] 0] = some (.bool (shadeAt j x != shadeAt j (l.getD 0 0))) := by
  refine call_of rfl fn123 rfl ?_
  have hok := okT123
  simp only [Try.f123, Option.getD_some, okCode, Bool.and_eq_true, Bool.and_true, Bool.true_and] at hok
  obtain ⟨k, rfl⟩ : ∃ k : Nat, x = k := ⟨x.toNat, by omega⟩
  obtain ⟨m, rfl⟩ : ∃ m : Nat, a = m := ⟨a.toNat, by omega⟩
  have g1 := roll_get (j := j) (c := ⟨0, k, 0⟩) hx
  have g2 := roll_get (j := j) (c := ⟨0, m, 0⟩) ha2
  rw [Int.toNat_natCast] at g1 g2
  have e1 : shadeAt j k = (rollOf j ⟨0, k, 0⟩).sh := rfl
  have e2 : shadeAt j (l.getD 0 0) = (rollOf j ⟨0, m, 0⟩).sh := by rw [getD_of ha]; rfl
  have ln : 0 < l.length := (List.getElem?_eq_some_iff.1 ha).1
  have lni : (0 : Int) < l.length := by omega
  have km : (k : Int) < j.rs.length := hx.2
  have mm : (m : Int) < j.rs.length := ha2.2
  rw [e1, e2]
  generalize rollOf j ⟨0, k, 0⟩ = r1 at *
  generalize rollOf j ⟨0, m, 0⟩ = r2 at *
  simp (maxSteps := 1000000) (implicitDefEqProofs := false) only [Try.ntmps123, Try.results123, efc123, evRegion_st hok, g1, g2, ha, ln, lni, km, mm, encRoll, Int.toNat_zero, Int.le_refl, Int.natCast_nonneg, Int.toNat_natCast, List.getElem?_map, List.length_map, ss, sd, evOp, evPlain, evVal, evMem, St.get, sliceOf, arrayOf, fieldsOf, normOf, norm, look, evVar, evFieldAddr, nameOf, St.alloc, St.drop, killOb, part, splice, depth, resultsV, ↓reduceIte, Nat.reduceBEq, Nat.reduceAdd, Nat.reduceSub, Nat.reduceMul, Nat.reduceEqDiff, Nat.reduceLeDiff, Nat.reduceLT, effOf, effMem, effVar, effLit, effMake, effApp, lend, evLit, evNil, freeze, evField, evIndexT, orNil, evSlice, placeOf, evMap, mapOf, keyOk, evFrame, closed, fixed, sameEs, wit, Option.isSome_some, St.with, wantedD, Array.size, te, einl, inls, efr]
def capV (j : Job) (l : List Int) : List V := [.fp false [.sl false (j.ss.map encStrip), .sl false (j.rs.map encRoll), .int .i64 j.rep] 0, .fp false [.sl false (l.map fun c => V.int .i64 c)] 0]
set_option maxHeartbeats 2000000 in
theorem c135b (j : Job) (l : List Int) (p : Int → Bool) (cs : List Int) (hf : ∀ x ∈ cs, (orcω E X0).call 123 (.int .i64 x :: capV j l) = some (.bool (p x))) (hn : cs.length ≤ 1000000000) :
    (orcω E X0).call 135 [.sl false (cs.map fun c => V.int .i64 c), .clo 123 [] (capV j l)] = some (.int .i64 (idxP p cs 0)) := by
  refine call_of rfl fn135 rfl ?_
  unfold capV at *
  simp (maxSteps := 1000000) (implicitDefEqProofs := false) only [Try.ntmps135, Try.results135, efc135, fc135, ss, sd, evOp, evPlain, evVal, evMem, St.get, sliceOf, arrayOf, fieldsOf, normOf, norm, look, evVar, evFieldAddr, nameOf, St.alloc, St.drop, killOb, part, splice, depth, resultsV, ↓reduceIte, Nat.reduceBEq, Nat.reduceAdd, Nat.reduceSub, Nat.reduceMul, Nat.reduceEqDiff, Nat.reduceLeDiff, Nat.reduceLT, effOf, effMem, effVar, effLit, effMake, effApp, lend, evLit, evNil, freeze, evField, evIndexT, orNil, evSlice, placeOf, evMap, mapOf, keyOk, evFrame, closed, fixed, sameEs, wit, Option.isSome_some, St.with, wantedD, Array.size, te, einl, inls, efr]
  generalize hr : loopAt _ _ _ _ _ _ = r; revert r
  refine loop_list cs (fun pre _ => [(8, .int .i64 pre.length)]) (fun _ _ => []) (fun pre (_ : Unit) => pre.any p = false) () (by omega) (by simp (maxSteps := 1000000) (implicitDefEqProofs := false) only [ss, sd, evOp, evPlain, evVal, evMem, St.get, sliceOf, arrayOf, fieldsOf, normOf, norm, look, evVar, evFieldAddr, nameOf, St.alloc, St.drop, killOb, part, splice, depth, resultsV, ↓reduceIte, Nat.reduceBEq, Nat.reduceAdd, Nat.reduceSub, Nat.reduceMul, Nat.reduceEqDiff, Nat.reduceLeDiff, Nat.reduceLT, effOf, effMem, effVar, effLit, effMake, effApp, lend, evLit, evNil, freeze, evField, evIndexT, orNil, evSlice, placeOf, evMap, mapOf, keyOk, evFrame, closed, fixed, sameEs, wit, Option.isSome_some, St.with, wantedD, Array.size, te, einl, inls, efr]) rfl (fun _ hi => ?_) (fun pre a post _ hp hi g1 g2 g3 g4 => ?_)
  · have e : idxP p cs 0 = -1 := by
      have := idxP_append p [] cs 0 hi
      rw [List.append_nil] at this
      rw [this]; rfl
    simp (maxSteps := 1000000) (implicitDefEqProofs := false) only [Int.lt_irrefl, hi, Try.ntmps135, Try.results135, efc135, fc135, List.length_map, e, ss, sd, evOp, evPlain, evVal, evMem, St.get, sliceOf, arrayOf, fieldsOf, normOf, norm, look, evVar, evFieldAddr, nameOf, St.alloc, St.drop, killOb, part, splice, depth, resultsV, ↓reduceIte, Nat.reduceBEq, Nat.reduceAdd, Nat.reduceSub, Nat.reduceMul, Nat.reduceEqDiff, Nat.reduceLeDiff, Nat.reduceLT, effOf, effMem, effVar, effLit, effMake, effApp, lend, evLit, evNil, freeze, evField, evIndexT, orNil, evSlice, placeOf, evMap, mapOf, keyOk, evFrame, closed, fixed, sameEs, wit, Option.isSome_some, St.with, wantedD, Array.size, te, einl, inls, efr]
  · have k1 := hf a (by rw [hp]; simp)
    have e : idxP p cs 0 = if p a = true then (pre.length : Int) else idxP p post (0 + pre.length + 1) := by
      rw [hp, idxP_append p _ pre 0 hi, idxP]
      simp
    cases hc : p a with
    | true =>
      rw [hc] at k1 e
      rw [if_pos rfl] at e
      simp (maxSteps := 1000000) (implicitDefEqProofs := false) only [g1, g2, g3, g4, e, k1, Try.ntmps135, Try.results135, efc135, fc135, Int.natCast_nonneg, Int.toNat_natCast, List.getElem?_map, List.length_map, ss, sd, evOp, evPlain, evVal, evMem, St.get, sliceOf, arrayOf, fieldsOf, normOf, norm, look, evVar, evFieldAddr, nameOf, St.alloc, St.drop, killOb, part, splice, depth, resultsV, ↓reduceIte, Nat.reduceBEq, Nat.reduceAdd, Nat.reduceSub, Nat.reduceMul, Nat.reduceEqDiff, Nat.reduceLeDiff, Nat.reduceLT, effOf, effMem, effVar, effLit, effMake, effApp, lend, evLit, evNil, freeze, evField, evIndexT, orNil, evSlice, placeOf, evMap, mapOf, keyOk, evFrame, closed, fixed, sameEs, wit, Option.isSome_some, St.with, wantedD, Array.size, te, einl, inls, efr]
    | false =>
      rw [hc] at k1
      simp (maxSteps := 1000000) (implicitDefEqProofs := false) only [g1, g2, g3, g4, k1, Int.natCast_nonneg, Int.toNat_natCast, List.getElem?_map, List.length_map, ss, sd, evOp, evPlain, evVal, evMem, St.get, sliceOf, arrayOf, fieldsOf, normOf, norm, look, evVar, evFieldAddr, nameOf, St.alloc, St.drop, killOb, part, splice, depth, resultsV, ↓reduceIte, Nat.reduceBEq, Nat.reduceAdd, Nat.reduceSub, Nat.reduceMul, Nat.reduceEqDiff, Nat.reduceLeDiff, Nat.reduceLT, effOf, effMem, effVar, effLit, effMake, effApp, lend, evLit, evNil, freeze, evField, evIndexT, orNil, evSlice, placeOf, evMap, mapOf, keyOk, evFrame, closed, fixed, sameEs, wit, Option.isSome_some, St.with, wantedD, Array.size, te, einl, inls, efr]
      exact ⟨(), by rw [List.any_append, hi]; simp [hc]⟩
theorem c112b (j : Job) (l : List Int) (p : Int → Bool) (cs : List Int) (hf : ∀ x ∈ cs, (orcω E X0).call 123 (.int .i64 x :: capV j l) = some (.bool (p x))) (hn : cs.length ≤ 1000000000) :
    (orcω E X0).call 112 [.sl false (cs.map fun c => V.int .i64 c), .clo 123 [] (capV j l)] = some (.bool (cs.any p)) := by
  refine call_of rfl fn112 rfl ?_
  have k1 := c135b j l p cs hf hn
  have e := idxP_any p cs 0 (by omega)
  rw [← e]
  generalize idxP p cs 0 = i at *
  unfold capV at *
  simp (maxSteps := 1000000) (implicitDefEqProofs := false) only [Try.ntmps112, Try.results112, efc112, k1, ss, sd, evOp, evPlain, evVal, evMem, St.get, sliceOf, arrayOf, fieldsOf, normOf, norm, look, evVar, evFieldAddr, nameOf, St.alloc, St.drop, killOb, part, splice, depth, resultsV, ↓reduceIte, Nat.reduceBEq, Nat.reduceAdd, Nat.reduceSub, Nat.reduceMul, Nat.reduceEqDiff, Nat.reduceLeDiff, Nat.reduceLT, effOf, effMem, effVar, effLit, effMake, effApp, lend, evLit, evNil, freeze, evField, evIndexT, orNil, evSlice, placeOf, evMap, mapOf, keyOk, evFrame, closed, fixed, sameEs, wit, Option.isSome_some, St.with, wantedD, Array.size, te, einl, inls, efr]
theorem c90 (j : Job) (l : List Int) (hl : ∀ x ∈ l, 0 ≤ x ∧ x < j.rs.length) (hn : l.length ≤ 1000000000) :
    (orcω E X0).call 90 [encJob j, .sl false (l.map fun c => V.int .i64 c)] = some (.bool (oneS j l)) := by
  refine call_of rfl fn90 rfl ?_
  have k1 := c112b j l (fun x => shadeAt j x != shadeAt j (l.getD 0 0)) l (fun x hx => by
    cases l with
    | nil => cases hx
    | cons a r => exact c123 j (a :: r) x a (hl x hx) rfl (hl a List.mem_cons_self)) hn
  unfold oneS
  generalize (l.any fun x => shadeAt j x != shadeAt j (l.getD 0 0)) = b at *
  unfold capV at k1
  unfold encJob
  simp (maxSteps := 1000000) (implicitDefEqProofs := false) only [Try.ntmps90, Try.results90, efc90, k1, ss, sd, evOp, evPlain, evVal, evMem, St.get, sliceOf, arrayOf, fieldsOf, normOf, norm, look, evVar, evFieldAddr, nameOf, St.alloc, St.drop, killOb, part, splice, depth, resultsV, ↓reduceIte, Nat.reduceBEq, Nat.reduceAdd, Nat.reduceSub, Nat.reduceMul, Nat.reduceEqDiff, Nat.reduceLeDiff, Nat.reduceLT, effOf, effMem, effVar, effLit, effMake, effApp, lend, evLit, evNil, freeze, evField, evIndexT, orNil, evSlice, placeOf, evMap, mapOf, keyOk, evFrame, closed, fixed, sameEs, wit, Option.isSome_some, St.with, wantedD, Array.size, te, einl, inls, efr]
end Go.AM.D
end

section
/-
Dividing a set of strips among rolls (plain).
-/
namespace Go.AM.D
open Go

def subB (p s : Nat) : Bool := p &&& s == p
set_option maxRecDepth 100000 in
theorem set_facts : ((List.range 64).all fun s => (List.range 64).all fun p =>
    decide (bitsI .and .i64 ((p : Int) - 1) (s : Int) = (((p - 1) &&& s : Nat) : Int)) || p == 0) = true := by decide +kernel
set_option maxRecDepth 100000 in
theorem sub_facts : ((List.range 64).all fun s => (List.range 64).all fun p => !subB p s ||
    (decide (bitsI .andNot .i64 (s : Int) (p : Int) = ((s - p : Nat) : Int)) && decide (p ≤ s) && subB (s - p) s && subB ((p - 1) &&& s) s)) = true := by decide +kernel
set_option maxRecDepth 100000 in
theorem next_facts : ((List.range 64).all fun s => (List.range 64).all fun p => !subB p s || p == 0 ||
    (List.range p).all fun q => !subB q s || decide (q ≤ (p - 1) &&& s)) = true := by decide +kernel
theorem and_set {s p : Nat} (hs : s < 64) (hp : p < 64) (h0 : 1 ≤ p) : bitsI .and .i64 ((p : Int) - 1) (s : Int) = (((p - 1) &&& s : Nat) : Int) := by
  have h := List.all_eq_true.1 (List.all_eq_true.1 set_facts s (List.mem_range.2 hs)) p (List.mem_range.2 hp)
  rw [Bool.or_eq_true] at h
  rcases h with h | h
  · exact of_decide_eq_true h
  · have := beq_iff_eq.1 h
    omega
theorem sub_all {s p : Nat} (hs : s < 64) (hp : p < 64) (h : subB p s = true) : bitsI .andNot .i64 (s : Int) (p : Int) = ((s - p : Nat) : Int) ∧ p ≤ s ∧ subB (s - p) s = true ∧ subB ((p - 1) &&& s) s = true := by
  have h1 := List.all_eq_true.1 (List.all_eq_true.1 sub_facts s (List.mem_range.2 hs)) p (List.mem_range.2 hp)
  rw [h] at h1
  simp only [Bool.not_true, Bool.false_or, Bool.and_eq_true, decide_eq_true_eq] at h1
  exact ⟨h1.1.1.1, h1.1.1.2, h1.1.2, h1.2⟩
theorem next_sub {s p q : Nat} (hs : s < 64) (hp : p < 64) (h : subB p s = true) (h0 : 1 ≤ p) (hq : q < p) (hqs : subB q s = true) : q ≤ (p - 1) &&& s := by
  have h1 := List.all_eq_true.1 (List.all_eq_true.1 next_facts s (List.mem_range.2 hs)) p (List.mem_range.2 hp)
  rw [h, beq_false_of_ne (show p ≠ 0 by omega)] at h1
  simp only [Bool.not_true, Bool.false_or] at h1
  have h2 := List.all_eq_true.1 h1 q (List.mem_range.2 hq)
  rw [hqs] at h2
  simpa using h2
theorem and_lt {s p : Nat} (h0 : 1 ≤ p) : (p - 1) &&& s < p := by
  have := Nat.and_le_left (n := p - 1) (m := s)
  omega
theorem sub_self (s : Nat) : subB s s = true := by simp [subB]

/-- The first part, from a large one down, at which something is found. -/
def searchF {α : Type} (f : Nat → Option α) (set : Nat) : Nat → Nat → Option α
  | 0, _ => none
  | n + 1, p => if p = 0 then none else match f p with
    | some x => some x
    | none => searchF f set n ((p - 1) &&& set)
theorem searchF_fuel {α : Type} (f : Nat → Option α) (set : Nat) : ∀ (m n p : Nat), p ≤ m → p ≤ n → searchF f set m p = searchF f set n p
  | 0, 0, _, _, _ => rfl
  | 0, n + 1, p, h, _ => by
    obtain rfl : p = 0 := by omega
    rfl
  | m + 1, 0, p, _, h => by
    obtain rfl : p = 0 := by omega
    rfl
  | m + 1, n + 1, p, h1, h2 => by
    unfold searchF
    split
    · rfl
    · rename_i h0
      have := and_lt (s := set) (show 1 ≤ p by omega)
      rw [searchF_fuel f set m n _ (by omega) (by omega)]
def search {α : Type} (f : Nat → Option α) (set p : Nat) : Option α := searchF f set p p
theorem search_zero {α : Type} (f : Nat → Option α) (set : Nat) : search f set 0 = none := rfl
theorem search_eq {α : Type} (f : Nat → Option α) (set : Nat) {p : Nat} (h : 1 ≤ p) : search f set p = match f p with
    | some x => some x
    | none => search f set ((p - 1) &&& set) := by
  obtain ⟨n, rfl⟩ : ∃ n, p = n + 1 := ⟨p - 1, by omega⟩
  have e : search f set (n + 1) = if n + 1 = 0 then none else match f (n + 1) with
    | some x => some x
    | none => searchF f set n ((n + 1 - 1) &&& set) := rfl
  have := and_lt (s := set) (show 1 ≤ n + 1 by omega)
  rw [e, if_neg (by omega), searchF_fuel f set n ((n + 1 - 1) &&& set) _ (by omega) (Nat.le_refl _)]
  rfl
/-- What is found is found at a part; if nothing is found there is none. -/
theorem search_some {α : Type} {f : Nat → Option α} {set : Nat} (hs : set < 64) {x : α} : ∀ (n p : Nat), p ≤ n → p < 64 → subB p set = true → search f set p = some x → ∃ q, 1 ≤ q ∧ q < 64 ∧ subB q set = true ∧ f q = some x
  | 0, p, h, _, _, hx => by
    obtain rfl : p = 0 := by omega
    cases hx
  | n + 1, p, h, hp, hps, hx => by
    rcases Nat.eq_zero_or_pos p with e | e
    · subst e
      cases hx
    · rw [search_eq f set e] at hx
      cases hf : f p with
      | some y =>
        rw [hf] at hx
        exact ⟨p, e, hp, hps, hf.trans hx⟩
      | none =>
        rw [hf] at hx
        have := and_lt (s := set) e
        exact search_some hs n _ (by omega) (by omega) (sub_all hs hp hps).2.2.2 hx
theorem search_none {α : Type} {f : Nat → Option α} {set : Nat} (hs : set < 64) : ∀ (n p : Nat), p ≤ n → p < 64 → subB p set = true → search f set p = none → ∀ q, 1 ≤ q → q ≤ p → subB q set = true → f q = none
  | 0, p, h, _, _, _, q, h1, h2, _ => by omega
  | n + 1, p, h, hp, hps, hx, q, h1, h2, hq => by
    have e : 1 ≤ p := by omega
    rw [search_eq f set e] at hx
    cases hf : f p with
    | some y =>
      rw [hf] at hx
      cases hx
    | none =>
      rw [hf] at hx
      by_cases hqp : q = p
      · rw [hqp]; exact hf
      · have := and_lt (s := set) e
        exact search_none hs n _ (by omega) (by omega) (sub_all hs hp hps).2.2.2 hx q h1 (next_sub hs hp hps e (by omega) hq) hq

def rollAt (j : Job) (k : Nat) : Roll := j.rs.getD k roll0
/-- Cuts of a set of strips from rolls, each of which gets at least one. -/
def divM (j : Job) : List Nat → Nat → Option (List Cut)
  | [], set => if set = 0 then some [] else none
  | k :: rs, set => search (fun p => if NEV ≤ (ent j (rollAt j k) p).1 then none else (divM j rs (set - p)).map fun rest => cutsR j (rollAt j k) (k : Nat) p ++ rest) set set
end Go.AM.D
end
