/-
What is left of the rolls: the code.
-/
import Derived.Test.YtejjeckiplihbaaDSortC
set_option linter.unusedSimpArgs false
set_option maxRecDepth 20000

namespace Go.AM.D
open Go Go.AM Go.Proofs

def encSpan (g : Int × Int) : V := .agg [.int .i64 g.1, .int .i64 g.2]
def encGaps (l : List (Int × Int)) : V := .sl true (l.map encSpan)
theorem sized_spans (l : List (Int × Int)) : sized 2 (l.map encSpan) = true := sized_map (f := encSpan) (n := 2) (fun _ => ⟨_, rfl, rfl⟩) l
theorem sized_gaps (l : List (List (Int × Int))) : sized 1 (l.map encGaps) = true := sized_map (f := encGaps) (n := 1) (fun _ => ⟨_, rfl, rfl⟩) l
def spansOb (l : List (Int × Int)) : Ob := { es := 2, flat := true, t := true, app := true, elems := l.map encSpan }
def rowsOb (l : List (List (Int × Int))) : Ob := { es := 1, flat := true, t := true, app := true, elems := l.map encGaps }
def cutsOb (l : List Cut) : Ob := { es := 3, flat := true, t := true, app := false, elems := l.map encCut }

theorem c103 (l : List Cut) (hl : l.length ≤ 1000) : (orcω E X0).call 103 [.sl false (l.map encCut)] = some (.sl true (l.map encCut)) := by
  cases l with
  | nil =>
    refine (orcω_le 0).call _ _ _ ?_
    simp only [orc, X0, cloneAt, if_true, List.map_nil]
  | cons c l =>
    have hroom : roomy ((c :: l).map encCut).length 24 = true := by simp [roomy] at hl ⊢; omega
    have hbig : ((c :: l).map encCut).length ≤ 4294967296 := by simp at hl ⊢; omega
    have z1 := sized_cuts (c :: l)
    have n1 : nilTest (.sl false ((c :: l).map encCut)) = some false := rfl
    have r1 : refFreeL ((c :: l).map encCut) = true := refFreeL_map (f := encCut) (fun _ => rfl) _
    have b1 : bareL ((c :: l).map encCut) = true := bareL_map (f := encCut) (fun _ => rfl) _
    refine call_of rfl fn103 rfl ?_
    generalize (c :: l).map encCut = vs at *
    have t1 : vs.take vs.length = vs := List.take_length
    simp (maxSteps := 1000000) (implicitDefEqProofs := false) only [Try.ntmps103, Try.results103, efc103, fc103, Option.map_some, hroom, hbig, z1, n1, r1, b1, t1, ss, sd, evOp, evPlain, evVal, evMem, St.get, sliceOf, arrayOf, fieldsOf, normOf, norm, look, evVar, evFieldAddr, nameOf, St.alloc, St.drop, killOb, part, splice, depth, resultsV, ↓reduceIte, Nat.reduceBEq, Nat.reduceAdd, Nat.reduceSub, Nat.reduceMul, Nat.reduceEqDiff, Nat.reduceLeDiff, Nat.reduceLT, effOf, effMem, effVar, effLit, effMake, effApp, lend, evLit, evNil, freeze, evField, evIndexT, orNil, evSlice, placeOf, evMap, mapOf, keyOk, evFrame, closed, fixed, sameEs, wit, Option.isSome_some, St.with, wantedD, Array.size, te, einl, inls, efr]

theorem walk_len (j : Job) (r : Nat) : ∀ (cs : List Cut) (s : Int × List (Int × Int)), (walkG j r cs s).2.length ≤ s.2.length + cs.length
  | [], s => by simp [walkG]
  | c :: cs, s => by
    have h := walk_len j r cs (if c.r = (r : Int) then (c.a + sizeM (stripOf j c), if s.1 < c.a then s.2 ++ [(s.1, c.a)] else s.2) else s)
    have h2 : (if c.r = (r : Int) then (c.a + sizeM (stripOf j c), if s.1 < c.a then s.2 ++ [(s.1, c.a)] else s.2) else s).2.length ≤ s.2.length + 1 := by
      split
      · dsimp only
        split
        · simp
        · omega
      · omega
    show (walkG j r cs _).2.length ≤ _
    simp only [List.length_cons]
    omega
def rowsM (j : Job) (cs : List Cut) (n : Nat) : List (List (Int × Int)) := (List.range n).map fun r => offM j cs r (rollOf j ⟨0, r, 0⟩).l
theorem rows_snoc (j : Job) (cs : List Cut) (n : Nat) : rowsM j cs (n + 1) = rowsM j cs n ++ [offM j cs n (rollOf j ⟨0, n, 0⟩).l] := by
  unfold rowsM
  rw [List.range_succ, List.map_append]
  rfl
theorem rows_len (j : Job) (cs : List Cut) (n : Nat) : (rowsM j cs n).length = n := by simp [rowsM]
theorem gaps_snoc (l : List (Int × Int)) (a b : Int) : l.map encSpan ++ [.agg [.int .i64 a, .int .i64 b]] = (l ++ [(a, b)]).map encSpan := by simp [encSpan]
theorem rowsE_snoc (l : List (List (Int × Int))) (g : List (Int × Int)) : l.map encGaps ++ [.sl true (g.map encSpan)] = (l ++ [g]).map encGaps := by simp [encGaps]
def offR (j : Job) (cuts : List Cut) : List (List (Int × Int)) := if checkM j cuts = 0 then rowsM j (isort ltA cuts) j.rs.length else []

theorem okT54 : okCode (Try.f54.body.getD .skip) = true := by decide +kernel
set_option maxRecDepth 20000 in
set_option maxHeartbeats 16000000 in
theorem c54 (j : Job) (cuts : List Cut) (hn : cuts.length ≤ 1000) : (orcω E X0).call 54 [encJob j, .sl false (cuts.map encCut)] = some (.tup [.sl true ((offR j cuts).map encGaps), .int .i64 (checkM j cuts)]) := by
  refine call_of rfl fn54 rfl ?_
  have hok := okT54
  simp only [Try.f54, Option.getD_some, okCode, Bool.and_eq_true, Bool.and_true, Bool.true_and] at hok
  have k1 := c52 j cuts (by omega)
  unfold offR
  by_cases he : checkM j cuts = 0
  rotate_left
  · rw [if_neg he]
    have q1 : (checkM j cuts != 0) = true := by simpa using he
    generalize checkM j cuts = e at *
    unfold encJob at k1 ⊢
    simp (maxSteps := 1000000) (implicitDefEqProofs := false) only [Try.ntmps54, Try.results54, efc54, fc54, k1, q1, List.map_nil, ss, sd, evOp, evPlain, evVal, evMem, St.get, sliceOf, arrayOf, fieldsOf, normOf, norm, look, evVar, evFieldAddr, nameOf, St.alloc, St.drop, killOb, part, splice, depth, resultsV, ↓reduceIte, Nat.reduceBEq, Nat.reduceAdd, Nat.reduceSub, Nat.reduceMul, Nat.reduceEqDiff, Nat.reduceLeDiff, Nat.reduceLT, effOf, effMem, effVar, effLit, effMake, effApp, lend, evLit, evNil, freeze, evField, evIndexT, orNil, evSlice, placeOf, evMap, mapOf, keyOk, evFrame, closed, fixed, sameEs, wit, Option.isSome_some, St.with, wantedD, Array.size, te, einl, inls, efr]
  rw [if_pos he, he]
  rw [he] at k1
  have hfit := checkM_zero he
  have hj := hfit.job
  have h6 := hj.nss
  have h5 := hj.nrs
  have hl := hfit.len
  have hp := isort_perm (lt := ltA) cuts
  have k2 := c103 cuts hn
  have k3 := fun b outer => c104 b 21 outer [(2, { es := 3, flat := true, t := false, app := false, elems := [.agg [.sl false (j.ss.map encStrip), .sl false (j.rs.map encRoll), .int .i64 j.rep]] }), (21, { es := 3, flat := true, t := true, app := false, elems := cuts.map encCut })] cuts (by omega) true false rfl rfl
  obtain ⟨f3, k3⟩ := Classical.skolem.1 fun b => Classical.skolem.1 (k3 b)
  have ln := isort_len (lt := ltA) cuts
  have hmem : ∀ x ∈ isort ltA cuts, x ∈ cuts := fun x hx => hp.mem_iff.1 hx
  clear he hp
  generalize isort ltA cuts = cs at *
  have r1 : refFreeL (cuts.map encCut) = true := refFreeL_map (f := encCut) (fun _ => rfl) _
  have p1 : plainL (cuts.map encCut) = true := plainL_map (f := encCut) (fun _ => rfl) _
  have z1 := sized_cuts cuts
  unfold encJob at k1 ⊢
  simp (maxSteps := 1000000) (implicitDefEqProofs := false) only [Try.ntmps54, Try.results54, efc54, fc54, k1, k2, k3, r1, p1, z1, bne_self_eq_false, List.length_map, ss, sd, evOp, evPlain, evVal, evMem, St.get, sliceOf, arrayOf, fieldsOf, normOf, norm, look, evVar, evFieldAddr, nameOf, St.alloc, St.drop, killOb, part, splice, depth, resultsV, ↓reduceIte, Nat.reduceBEq, Nat.reduceAdd, Nat.reduceSub, Nat.reduceMul, Nat.reduceEqDiff, Nat.reduceLeDiff, Nat.reduceLT, effOf, effMem, effVar, effLit, effMake, effApp, lend, evLit, evNil, freeze, evField, evIndexT, orNil, evSlice, placeOf, evMap, mapOf, keyOk, evFrame, closed, fixed, sameEs, wit, Option.isSome_some, St.with, wantedD, Array.size, te, einl, inls, efr]
  generalize hr : loopAt _ _ _ _ _ _ = r; revert r
  refine loop_nat j.rs.length (fun i _ => [(7, .own 7 0 i), (27, .int .i64 (i : Nat))]) (fun i _ => [(7, rowsOb (rowsM j cs i))]) (fun _ (_ : Unit) => True) () (by omega) (by simp (maxSteps := 1000000) (implicitDefEqProofs := false) only [rowsOb, rowsM, List.range_zero, List.map_nil, Int.natCast_zero, ss, sd, evOp, evPlain, evVal, evMem, St.get, sliceOf, arrayOf, fieldsOf, normOf, norm, look, evVar, evFieldAddr, nameOf, St.alloc, St.drop, killOb, part, splice, depth, resultsV, ↓reduceIte, Nat.reduceBEq, Nat.reduceAdd, Nat.reduceSub, Nat.reduceMul, Nat.reduceEqDiff, Nat.reduceLeDiff, Nat.reduceLT, effOf, effMem, effVar, effLit, effMake, effApp, lend, evLit, evNil, freeze, evField, evIndexT, orNil, evSlice, placeOf, evMap, mapOf, keyOk, evFrame, closed, fixed, sameEs, wit, Option.isSome_some, St.with, wantedD, Array.size, te, einl, inls, efr]) trivial (fun _ _ => ?_) (fun i _ _ a1 a2 a3 => ?_)
  · have t1 : ((rowsM j cs j.rs.length).map encGaps).take j.rs.length = (rowsM j cs j.rs.length).map encGaps := List.take_of_length_le (by simp [rows_len])
    simp (maxSteps := 1000000) (implicitDefEqProofs := false) only [Int.lt_irrefl, rowsOb, t1, rows_len, Nat.le_refl, if_true, List.length_map, Try.ntmps54, Try.results54, efc54, fc54, ss, sd, evOp, evPlain, evVal, evMem, St.get, sliceOf, arrayOf, fieldsOf, normOf, norm, look, evVar, evFieldAddr, nameOf, St.alloc, St.drop, killOb, part, splice, depth, resultsV, ↓reduceIte, Nat.reduceBEq, Nat.reduceAdd, Nat.reduceSub, Nat.reduceMul, Nat.reduceEqDiff, Nat.reduceLeDiff, Nat.reduceLT, effOf, effMem, effVar, effLit, effMake, effApp, lend, evLit, evNil, freeze, evField, evIndexT, orNil, evSlice, placeOf, evMap, mapOf, keyOk, evFrame, closed, fixed, sameEs, wit, Option.isSome_some, St.with, wantedD, Array.size, te, einl, inls, efr]
  have gr := roll_get (j := j) (c := ⟨0, i, 0⟩) (by dsimp only; omega)
  rw [Int.toNat_natCast] at gr
  have hlr := (hj.rs _ (List.mem_of_getElem? gr)).1
  have hsn := rows_snoc j cs i
  unfold offM at hsn
  have hwl := fun pre => walk_len j i pre (0, [])
  have hws := fun pre x => walkG_snoc j i pre x (0, [])
  have hw0 : walkG j i [] (0, []) = (0, []) := rfl
  generalize rollOf j ⟨0, i, 0⟩ = ro at *
  generalize hW : (fun pre => walkG j i pre (0, [])) = W at *
  have hW' : ∀ pre, walkG j i pre (0, []) = W pre := fun pre => by rw [← hW]
  simp only [hW'] at hsn hwl hws hw0
  clear hW hW'
  obtain ⟨rl, rph, rsh⟩ := ro
  dsimp only at hlr hsn
  simp (maxSteps := 1000000) (implicitDefEqProofs := false) only [a2, gr, encRoll, Int.natCast_nonneg, Int.toNat_natCast, List.getElem?_map, List.length_map, ss, sd, evOp, evPlain, evVal, evMem, St.get, sliceOf, arrayOf, fieldsOf, normOf, norm, look, evVar, evFieldAddr, nameOf, St.alloc, St.drop, killOb, part, splice, depth, resultsV, ↓reduceIte, Nat.reduceBEq, Nat.reduceAdd, Nat.reduceSub, Nat.reduceMul, Nat.reduceEqDiff, Nat.reduceLeDiff, Nat.reduceLT, effOf, effMem, effVar, effLit, effMake, effApp, lend, evLit, evNil, freeze, evField, evIndexT, orNil, evSlice, placeOf, evMap, mapOf, keyOk, evFrame, closed, fixed, sameEs, wit, Option.isSome_some, St.with, wantedD, Array.size, te, einl, inls, efr]
  generalize hr : loopAt _ _ _ _ _ _ = r; revert r
  refine loop_list cs (fun pre _ => [(10, .own 10 0 (W pre).2.length), (11, .int .i64 (W pre).1), (34, .int .i64 pre.length)]) (fun pre _ => [(10, spansOb (W pre).2)]) (fun pre (_ : Unit) => -1 ≤ (W pre).1 ∧ (W pre).1 ≤ 400) () (by omega) (by simp (maxSteps := 1000000) (implicitDefEqProofs := false) only [hw0, spansOb, List.map_nil, ss, sd, evOp, evPlain, evVal, evMem, St.get, sliceOf, arrayOf, fieldsOf, normOf, norm, look, evVar, evFieldAddr, nameOf, St.alloc, St.drop, killOb, part, splice, depth, resultsV, ↓reduceIte, Nat.reduceBEq, Nat.reduceAdd, Nat.reduceSub, Nat.reduceMul, Nat.reduceEqDiff, Nat.reduceLeDiff, Nat.reduceLT, effOf, effMem, effVar, effLit, effMake, effApp, lend, evLit, evNil, freeze, evField, evIndexT, orNil, evSlice, placeOf, evMap, mapOf, keyOk, evFrame, closed, fixed, sameEs, wit, Option.isSome_some, St.with, wantedD, Array.size, te, einl, inls, efr]) (by rw [hw0]; decide) (fun _ hI => ?_) (fun pre x post _ hp hI g1 g2 g3 g4 => ?_)
  · have hwl := hwl cs
    simp only [List.length_nil, Nat.zero_add] at hwl
    generalize W cs = wo at *
    obtain ⟨at', gl⟩ := wo
    dsimp only at *
    have hroom : roomy (gl.length + 1) 16 = true := by simp [roomy]; omega
    have hbig : gl.length + 1 ≤ 4294967296 := by omega
    have hroom2 : roomy (i + 1) 24 = true := by simp [roomy]; omega
    have hbig2 : i + 1 ≤ 4294967296 := by omega
    have z2 := sized_spans gl
    have z3 := sized_gaps (rowsM j cs i)
    have e1 := gaps_snoc gl at' rl
    have lr := rows_len j cs i
    have lc : (cs.length : Int) = cuts.length := by omega
    by_cases hlt : at' < rl
    · rw [if_pos hlt] at hsn
      have e2 := rowsE_snoc (rowsM j cs i) (gl ++ [(at', rl)])
      rw [← hsn] at e2
      have t1 : ((gl ++ [(at', rl)]).map encSpan).take (gl.length + 1) = (gl ++ [(at', rl)]).map encSpan := List.take_of_length_le (by simp)
      have lga : (gl ++ [(at', rl)]).length = gl.length + 1 := by simp
      simp (maxSteps := 1000000) (implicitDefEqProofs := false) only [lc, Int.lt_irrefl, a3, hlt, hroom, hbig, hroom2, hbig2, z2, z3, e1, e2, t1, lga, lr, spansOb, rowsOb, Nat.le_refl, if_true, List.length_map, ss, sd, evOp, evPlain, evVal, evMem, St.get, sliceOf, arrayOf, fieldsOf, normOf, norm, look, evVar, evFieldAddr, nameOf, St.alloc, St.drop, killOb, part, splice, depth, resultsV, ↓reduceIte, Nat.reduceBEq, Nat.reduceAdd, Nat.reduceSub, Nat.reduceMul, Nat.reduceEqDiff, Nat.reduceLeDiff, Nat.reduceLT, effOf, effMem, effVar, effLit, effMake, effApp, lend, evLit, evNil, freeze, evField, evIndexT, orNil, evSlice, placeOf, evMap, mapOf, keyOk, evFrame, closed, fixed, sameEs, wit, Option.isSome_some, St.with, wantedD, Array.size, te, einl, inls, efr]
      (first | exact ⟨(), trivial⟩ | refine ⟨(), ?_, trivial⟩ | skip)
    · rw [if_neg hlt] at hsn
      have e2 := rowsE_snoc (rowsM j cs i) gl
      rw [← hsn] at e2
      have t1 : (gl.map encSpan).take gl.length = gl.map encSpan := List.take_of_length_le (by simp)
      simp (maxSteps := 1000000) (implicitDefEqProofs := false) only [lc, Int.lt_irrefl, a3, hlt, hroom, hbig, hroom2, hbig2, z2, z3, e1, e2, t1, lr, spansOb, rowsOb, Nat.le_refl, if_true, List.length_map, ss, sd, evOp, evPlain, evVal, evMem, St.get, sliceOf, arrayOf, fieldsOf, normOf, norm, look, evVar, evFieldAddr, nameOf, St.alloc, St.drop, killOb, part, splice, depth, resultsV, ↓reduceIte, Nat.reduceBEq, Nat.reduceAdd, Nat.reduceSub, Nat.reduceMul, Nat.reduceEqDiff, Nat.reduceLeDiff, Nat.reduceLT, effOf, effMem, effVar, effLit, effMake, effApp, lend, evLit, evNil, freeze, evField, evIndexT, orNil, evSlice, placeOf, evMap, mapOf, keyOk, evFrame, closed, fixed, sameEs, wit, Option.isSome_some, St.with, wantedD, Array.size, te, einl, inls, efr]
      (first | exact ⟨(), trivial⟩ | refine ⟨(), ?_, trivial⟩ | skip)
  · have hx := hfit.good x (hmem x (by rw [hp]; simp))
    have hws := hws pre x
    have hwl := hwl pre
    obtain ⟨k, hk⟩ : ∃ k : Nat, x.s = k := ⟨x.s.toNat, by omega⟩
    have gs := size_get (j := j) hk (by omega)
    have hs := (hj.ss _ (List.mem_of_getElem? gs)).2
    have k106 := c106 (stripOf j x) hs
    have hsz : sizeM (stripOf j x) = (stripOf j x).b - (stripOf j x).a := rfl
    have kk : (k : Int) < j.ss.length := by omega
    have lpre : pre.length < 1000 := by omega
    rw [ln] at g1
    simp only [List.length_nil, Nat.zero_add] at hwl
    generalize stripOf j x = s at *
    have hz : 1 ≤ sizeM s ∧ sizeM s ≤ 60 := by omega
    generalize sizeM s = z at *
    have w1 : IntKind.i64.wrap (x.a + z) = x.a + z := wrap_in (by omega)
    have hb := hx.2
    clear hsz hs hx hp
    obtain ⟨xs, xr, xa⟩ := x
    obtain ⟨sx, sa, sb⟩ := s
    dsimp only at hk
    subst hk
    simp only [encStrip] at k106
    dsimp only at *
    generalize W (pre ++ [(⟨(k : Int), xr, xa⟩ : Cut)]) = wn at *
    generalize W pre = wo at *
    obtain ⟨at', gl⟩ := wo
    dsimp only at *
    by_cases hr : xr = (i : Int)
    rotate_left
    · have q1 : (xr != (i : Int)) = true := by simpa using hr
      rw [if_neg hr] at hws
      subst hws
      simp (maxSteps := 1000000) (implicitDefEqProofs := false) only [g1, g2, g3, g4, q1, encCut, Int.natCast_nonneg, Int.toNat_natCast, List.getElem?_map, List.length_map, ss, sd, evOp, evPlain, evVal, evMem, St.get, sliceOf, arrayOf, fieldsOf, normOf, norm, look, evVar, evFieldAddr, nameOf, St.alloc, St.drop, killOb, part, splice, depth, resultsV, ↓reduceIte, Nat.reduceBEq, Nat.reduceAdd, Nat.reduceSub, Nat.reduceMul, Nat.reduceEqDiff, Nat.reduceLeDiff, Nat.reduceLT, effOf, effMem, effVar, effLit, effMake, effApp, lend, evLit, evNil, freeze, evField, evIndexT, orNil, evSlice, placeOf, evMap, mapOf, keyOk, evFrame, closed, fixed, sameEs, wit, Option.isSome_some, St.with, wantedD, Array.size, te, einl, inls, efr]
      exact ⟨(), rfl, hI⟩
    have q1 : (xr != (i : Int)) = false := by simpa using hr
    rw [if_pos hr] at hws
    by_cases hlt : at' < xa
    · rw [if_pos hlt] at hws
      subst hws
      have hroom : roomy (gl.length + 1) 16 = true := by simp [roomy]; omega
      have hbig : gl.length + 1 ≤ 4294967296 := by omega
      have z2 := sized_spans gl
      have e1 := gaps_snoc gl at' xa
      simp (maxSteps := 1000000) (implicitDefEqProofs := false) only [g1, g2, g3, g4, gs, kk, k106, w1, q1, hlt, hroom, hbig, z2, e1, spansOb, encStrip, encCut, evRegion_st hok, List.length_append, List.length_singleton, Int.natCast_nonneg, Int.toNat_natCast, List.getElem?_map, List.length_map, ss, sd, evOp, evPlain, evVal, evMem, St.get, sliceOf, arrayOf, fieldsOf, normOf, norm, look, evVar, evFieldAddr, nameOf, St.alloc, St.drop, killOb, part, splice, depth, resultsV, ↓reduceIte, Nat.reduceBEq, Nat.reduceAdd, Nat.reduceSub, Nat.reduceMul, Nat.reduceEqDiff, Nat.reduceLeDiff, Nat.reduceLT, effOf, effMem, effVar, effLit, effMake, effApp, lend, evLit, evNil, freeze, evField, evIndexT, orNil, evSlice, placeOf, evMap, mapOf, keyOk, evFrame, closed, fixed, sameEs, wit, Option.isSome_some, St.with, wantedD, Array.size, te, einl, inls, efr]
      refine ⟨(), ?_, ?_, ?_⟩
      · first | rfl | simp
      · omega
      · omega
    · rw [if_neg hlt] at hws
      subst hws
      simp (maxSteps := 1000000) (implicitDefEqProofs := false) only [g1, g2, g3, g4, gs, kk, k106, w1, q1, hlt, spansOb, encStrip, encCut, evRegion_st hok, Int.natCast_nonneg, Int.toNat_natCast, List.getElem?_map, List.length_map, ss, sd, evOp, evPlain, evVal, evMem, St.get, sliceOf, arrayOf, fieldsOf, normOf, norm, look, evVar, evFieldAddr, nameOf, St.alloc, St.drop, killOb, part, splice, depth, resultsV, ↓reduceIte, Nat.reduceBEq, Nat.reduceAdd, Nat.reduceSub, Nat.reduceMul, Nat.reduceEqDiff, Nat.reduceLeDiff, Nat.reduceLT, effOf, effMem, effVar, effLit, effMake, effApp, lend, evLit, evNil, freeze, evField, evIndexT, orNil, evSlice, placeOf, evMap, mapOf, keyOk, evFrame, closed, fixed, sameEs, wit, Option.isSome_some, St.with, wantedD, Array.size, te, einl, inls, efr]
      refine ⟨(), ?_, ?_, ?_⟩
      · first | rfl | simp
      · omega
      · omega
end Go.AM.D
