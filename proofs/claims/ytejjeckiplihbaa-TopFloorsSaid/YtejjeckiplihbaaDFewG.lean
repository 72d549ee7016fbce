/- A part of the proof: the texts DDiv, DFew, one after another. No condition. -/
import Derived.Test.YtejjeckiplihbaaDMemG
set_option linter.unusedSimpArgs false
set_option maxRecDepth 20000

section
/-
Dividing a set of strips among rolls: divide.
-/
namespace Go.AM.D
open Go Go.AM Go.Proofs

def encPacks (b : Bool) (j : Job) : V := .sl false (j.rs.map fun r => encPackF b j r)
def divV (o : Option (List Cut)) : V := .tup [.sl true ((o.getD []).map encCut), .bool o.isSome]
theorem cutsF_len (j : Job) (r : Roll) (k : Int) : ∀ f set, (cutsF j r k f set).length ≤ f
  | 0, _ => Nat.le_refl _
  | f + 1, set => by
    unfold cutsF
    split
    · simp
    · rw [List.length_cons]
      have := cutsF_len j r k f (set - 2 ^ (ent j r set).2.toNat)
      omega
theorem divM_len (j : Job) : ∀ (rs : List Nat) (set : Nat) (l : List Cut), set < 64 → divM j rs set = some l → l.length ≤ 64 * rs.length
  | [], set, l, _, h => by
    unfold divM at h
    split at h
    · cases h; simp
    · cases h
  | k :: rs, set, l, hs, h => by
    unfold divM at h
    obtain ⟨q, h1, h2, h3, h4⟩ := search_some hs _ set (Nat.le_refl _) hs (sub_self set) h
    split at h4
    · cases h4
    · rw [Option.map_eq_some_iff] at h4
      obtain ⟨rest, hr, rfl⟩ := h4
      have := divM_len j rs (set - q) rest (by omega) hr
      have := cutsF_len j (rollAt j k) k q q
      rw [List.length_append, List.length_cons]
      unfold cutsR
      omega

set_option maxRecDepth 20000 in
theorem c91_nil (b : Bool) (j : Job) (set : Nat) :
    (orcω E X0).call 91 [encJob j, encPacks b j, .sl false [], .int .i64 (set : Nat)] = some (divV (divM j [] set)) := by
  refine call_of rfl fn91 rfl ?_
  unfold divM divV encJob encPacks
  by_cases h0 : set = 0
  · subst h0
    simp (maxSteps := 1000000) (implicitDefEqProofs := false) only [Try.ntmps91, Try.results91, efc91, fc91, List.map_nil, if_true, Option.getD_some, Option.isSome_some, beq_self_eq_true, List.length_nil, Int.natCast_zero, ss, sd, evOp, evPlain, evVal, evMem, St.get, sliceOf, arrayOf, fieldsOf, normOf, norm, look, evVar, evFieldAddr, nameOf, St.alloc, St.drop, killOb, part, splice, depth, resultsV, ↓reduceIte, Nat.reduceBEq, Nat.reduceAdd, Nat.reduceSub, Nat.reduceMul, Nat.reduceEqDiff, Nat.reduceLeDiff, Nat.reduceLT, effOf, effMem, effVar, effLit, effMake, effApp, lend, evLit, evNil, freeze, evField, evIndexT, orNil, evSlice, placeOf, evMap, mapOf, keyOk, evFrame, closed, fixed, sameEs, wit, Option.isSome_some, St.with, wantedD, Array.size, te, einl, inls, efr]
  · have q1 : ((set : Int) == 0) = false := by simpa using h0
    rw [if_neg h0]
    simp (maxSteps := 1000000) (implicitDefEqProofs := false) only [Try.ntmps91, Try.results91, efc91, fc91, List.map_nil, Option.getD_none, Option.isSome_none, q1, beq_self_eq_true, List.length_nil, Int.natCast_zero, ss, sd, evOp, evPlain, evVal, evMem, St.get, sliceOf, arrayOf, fieldsOf, normOf, norm, look, evVar, evFieldAddr, nameOf, St.alloc, St.drop, killOb, part, splice, depth, resultsV, ↓reduceIte, Nat.reduceBEq, Nat.reduceAdd, Nat.reduceSub, Nat.reduceMul, Nat.reduceEqDiff, Nat.reduceLeDiff, Nat.reduceLT, effOf, effMem, effVar, effLit, effMake, effApp, lend, evLit, evNil, freeze, evField, evIndexT, orNil, evSlice, placeOf, evMap, mapOf, keyOk, evFrame, closed, fixed, sameEs, wit, Option.isSome_some, St.with, wantedD, Array.size, te, einl, inls, efr]
theorem okT91 : okCode (Try.f91.body.getD .skip) = true := by decide +kernel
set_option maxRecDepth 20000 in
set_option maxHeartbeats 16000000 in
theorem c91_cons (b : Bool) (j : Job) (hj : Right j) (hr : ∀ r ∈ j.rs, rollOk r j.rep = true) (hs : ∀ s ∈ j.ss, stripOk s = true) (k : Nat) (rs : List Nat) (set : Nat) (hrs : rs.length ≤ 5) (hkn : k < j.rs.length) (hset : set < 2 ^ j.ss.length)
    (ih : ∀ set', set' < 2 ^ j.ss.length → (orcω E X0).call 91 [encJob j, encPacks b j, .sl false ((rs.map fun (k : Nat) => (k : Int)).map fun c => V.int .i64 c), .int .i64 (set' : Nat)] = some (divV (divM j rs set'))) :
    (orcω E X0).call 91 [encJob j, encPacks b j, .sl false (.int .i64 (k : Nat) :: (rs.map fun (k : Nat) => (k : Int)).map fun c => V.int .i64 c), .int .i64 (set : Nat)] = some (divV (divM j (k :: rs) set)) := by
  refine call_of rfl fn91 rfl ?_
  have hok := okT91
  simp only [Try.f91, Option.getD_some, okCode, Bool.and_eq_true, Bool.and_true, Bool.true_and] at hok
  obtain ⟨hk1, hk2⟩ := hok
  have gr : j.rs[k]? = some (rollAt j k) := by
    unfold rollAt
    rw [List.getD_eq_getElem?_getD, List.getElem?_eq_getElem hkn]
    rfl
  have hro := hr _ (List.mem_of_getElem? gr)
  have hN2 : 2 ^ j.ss.length ≤ 64 := Nat.pow_le_pow_right (n := 2) (by omega) hj.nss
  have hent := ent_in hj hro hs
  have k124 := fun p h1 h2 => c124 j (rollAt j k) (k : Nat) p hj hro hs h1 h2
  have hlen := fun set' l hs' h => divM_len j rs set' l hs' h
  have hcl := fun p => cutsF_len j (rollAt j k) (k : Nat) p p
  have hdm : divM j (k :: rs) set = search (fun p => if NEV ≤ (ent j (rollAt j k) p).1 then none else (divM j rs (set - p)).map fun rest => cutsR j (rollAt j k) (k : Nat) p ++ rest) set set := rfl
  rw [hdm]
  clear hdm
  generalize rollAt j k = r at *
  have kki : (k : Int) < j.rs.length := by omega
  have ln : ∀ l : List V, (0 : Int) < ((l.length + 1 : Nat) : Int) := fun l => by omega
  generalize hR : search (fun p => if NEV ≤ (ent j r p).1 then none else (divM j rs (set - p)).map fun rest => cutsR j r (k : Nat) p ++ rest) set set = R
  generalize hN : 2 ^ j.ss.length = N at *
  have z5 : sized 1 ((rs.map fun (k : Nat) => (k : Int)).map fun c => V.int .i64 c) = true := sized_vI _
  generalize ((rs.map fun (k : Nat) => (k : Int)).map fun c => V.int .i64 c) = rl at *
  have e5 : (((rl.length + 1 : Nat) : Int) - 1).toNat = rl.length := by omega
  have e6 : Int.toNat 1 = 1 := rfl
  have e7 : (1 : Int) ≤ ((rl.length + 1 : Nat) : Int) := by omega
  have e8 : (0 : Int) ≤ 1 := by decide
  have e9 : (V.int .i64 (k : Nat) :: rl).drop 1 = rl := rfl
  have q0 : (((rl.length + 1 : Nat) : Int) == 0) = false := by simpa using (show ¬ ((rl.length + 1 : Nat) : Int) = 0 by omega)
  unfold encJob encPacks at *
  simp (maxSteps := 1000000) (implicitDefEqProofs := false) only [Try.ntmps91, Try.results91, efc91, fc91, q0, ln, List.length_cons, List.getElem?_cons_zero, Int.toNat_zero, Int.le_refl, ss, sd, evOp, evPlain, evVal, evMem, St.get, sliceOf, arrayOf, fieldsOf, normOf, norm, look, evVar, evFieldAddr, nameOf, St.alloc, St.drop, killOb, part, splice, depth, resultsV, ↓reduceIte, Nat.reduceBEq, Nat.reduceAdd, Nat.reduceSub, Nat.reduceMul, Nat.reduceEqDiff, Nat.reduceLeDiff, Nat.reduceLT, effOf, effMem, effVar, effLit, effMake, effApp, lend, evLit, evNil, freeze, evField, evIndexT, orNil, evSlice, placeOf, evMap, mapOf, keyOk, evFrame, closed, fixed, sameEs, wit, Option.isSome_some, St.with, wantedD, Array.size, te, einl, inls, efr]
  generalize hr : loopAt _ _ _ _ _ _ = r; revert r
  refine loop_inv (ι := { p : Nat // p ≤ set ∧ subB p set = true ∧ search (fun p => if NEV ≤ (ent j r p).1 then none else (divM j rs (set - p)).map fun rest => cutsR j r (k : Nat) p ++ rest) set p = R }) (fun p => [(11, .int .i64 (p.1 : Nat))]) (fun _ => []) (fun p => p.1) ⟨set, Nat.le_refl _, sub_self set, hR⟩ (by simp (maxSteps := 1000000) (implicitDefEqProofs := false) only [ss, sd, evOp, evPlain, evVal, evMem, St.get, sliceOf, arrayOf, fieldsOf, normOf, norm, look, evVar, evFieldAddr, nameOf, St.alloc, St.drop, killOb, part, splice, depth, resultsV, ↓reduceIte, Nat.reduceBEq, Nat.reduceAdd, Nat.reduceSub, Nat.reduceMul, Nat.reduceEqDiff, Nat.reduceLeDiff, Nat.reduceLT, effOf, effMem, effVar, effLit, effMake, effApp, lend, evLit, evNil, freeze, evField, evIndexT, orNil, evSlice, placeOf, evMap, mapOf, keyOk, evFrame, closed, fixed, sameEs, wit, Option.isSome_some, St.with, wantedD, Array.size, te, einl, inls, efr]) ?_
  rintro ⟨p, hp, hps, hpr⟩
  dsimp only
  have s64 : set < 64 := by omega
  have p64 : p < 64 := by omega
  rcases Nat.eq_zero_or_pos p with h0 | h0
  · subst h0
    have hpr : R = none := hpr.symm
    subst hpr
    unfold divV
    simp (maxSteps := 1000000) (implicitDefEqProofs := false) only [Int.natCast_zero, Int.lt_irrefl, Option.getD_none, Option.isSome_none, List.map_nil, Try.ntmps91, Try.results91, efc91, fc91, ss, sd, evOp, evPlain, evVal, evMem, St.get, sliceOf, arrayOf, fieldsOf, normOf, norm, look, evVar, evFieldAddr, nameOf, St.alloc, St.drop, killOb, part, splice, depth, resultsV, ↓reduceIte, Nat.reduceBEq, Nat.reduceAdd, Nat.reduceSub, Nat.reduceMul, Nat.reduceEqDiff, Nat.reduceLeDiff, Nat.reduceLT, effOf, effMem, effVar, effLit, effMake, effApp, lend, evLit, evNil, freeze, evField, evIndexT, orNil, evSlice, placeOf, evMap, mapOf, keyOk, evFrame, closed, fixed, sameEs, wit, Option.isSome_some, St.with, wantedD, Array.size, te, einl, inls, efr]
  have p0 : (0 : Int) < p := by omega
  have pN : p < N := by omega
  have pNi : (p : Int) < N := by omega
  rw [search_eq _ _ h0] at hpr
  obtain ⟨f1, f2, f3, f4⟩ := sub_all s64 p64 hps
  have f5 := and_set (s := set) s64 p64 h0
  have f6 := and_lt (s := set) h0
  have w1 : IntKind.i64.wrap ((p : Int) - 1) = p - 1 := wrap_in (by omega)
  have hx := hent p
  have k124 := k124 p pN
  have hcl := hcl p
  have hcr : cutsF j r (k : Nat) p p = cutsR j r (k : Nat) p := rfl
  rw [hcr] at hcl
  have ih := ih (set - p) (by omega)
  have hlen := fun l h => hlen (set - p) l (by omega) h
  have cn : ¬ ((cutsR j r (k : Nat) p).length : Int) = 0 := by
    rw [cutsR_eq h0, List.length_cons]
    omega
  generalize cutsR j r (k : Nat) p = cr at *
  generalize hX : (ent j r p).1 = x at *
  by_cases hnev : NEV ≤ x
  · rw [if_pos hnev] at hpr
    dsimp only at hpr
    have hnev' : (1048576 : Int) ≤ x := hnev
    unfold encPackF
    rw [hN]
    simp (maxSteps := 1000000) (implicitDefEqProofs := false) only [p0, pN, pNi, gr, kki, hX, hnev', w1, f5, arr_get, arr_len, Int.natCast_nonneg, Int.toNat_natCast, List.getElem?_map, List.length_map, ss, sd, evOp, evPlain, evVal, evMem, St.get, sliceOf, arrayOf, fieldsOf, normOf, norm, look, evVar, evFieldAddr, nameOf, St.alloc, St.drop, killOb, part, splice, depth, resultsV, ↓reduceIte, Nat.reduceBEq, Nat.reduceAdd, Nat.reduceSub, Nat.reduceMul, Nat.reduceEqDiff, Nat.reduceLeDiff, Nat.reduceLT, effOf, effMem, effVar, effLit, effMake, effApp, lend, evLit, evNil, freeze, evField, evIndexT, orNil, evSlice, placeOf, evMap, mapOf, keyOk, evFrame, closed, fixed, sameEs, wit, Option.isSome_some, St.with, wantedD, Array.size, te, einl, inls, efr]
    exact ⟨⟨(p - 1) &&& set, by omega, f4, hpr⟩, rfl, f6⟩
  · rw [if_neg hnev] at hpr
    have hnev' : ¬ (1048576 : Int) ≤ x := hnev
    have k124 := k124 (by omega)
    generalize divM j rs (set - p) = D at *
    cases D with
    | none =>
      have hpr : search _ set ((p - 1) &&& set) = R := hpr
      unfold divV at ih
      simp only [Option.getD_none, Option.isSome_none, List.map_nil] at ih
      unfold encPackF at *
      rw [hN] at *
      simp (maxSteps := 1000000) (implicitDefEqProofs := false) only [p0, pN, pNi, gr, kki, hX, hnev', w1, f1, f5, ih, z5, e5, e6, e7, e8, e9, List.take_length, Int.le_refl, and_self, if_true, evRegion_st hk1, arr_get, arr_len, Int.natCast_nonneg, Int.toNat_natCast, List.getElem?_map, List.length_map, ss, sd, evOp, evPlain, evVal, evMem, St.get, sliceOf, arrayOf, fieldsOf, normOf, norm, look, evVar, evFieldAddr, nameOf, St.alloc, St.drop, killOb, part, splice, depth, resultsV, ↓reduceIte, Nat.reduceBEq, Nat.reduceAdd, Nat.reduceSub, Nat.reduceMul, Nat.reduceEqDiff, Nat.reduceLeDiff, Nat.reduceLT, effOf, effMem, effVar, effLit, effMake, effApp, lend, evLit, evNil, freeze, evField, evIndexT, orNil, evSlice, placeOf, evMap, mapOf, keyOk, evFrame, closed, fixed, sameEs, wit, Option.isSome_some, St.with, wantedD, Array.size, te, einl, inls, efr]
      exact ⟨⟨(p - 1) &&& set, by omega, f4, hpr⟩, rfl, f6⟩
    | some rest =>
      have hpr : R = some (cr ++ rest) := hpr.symm
      subst hpr
      have hl := hlen rest rfl
      unfold divV at *
      simp only [Option.getD_some, Option.isSome_some] at ih ⊢
      unfold encPackF at *
      rw [hN] at *
      cases rest with
      | nil =>
        simp only [List.map_nil] at ih
        simp (maxSteps := 1000000) (implicitDefEqProofs := false) only [p0, pN, pNi, gr, kki, hX, hnev', w1, f1, f5, ih, k124, cn, z5, e5, e6, e7, e8, e9, List.take_length, List.append_nil, List.map_nil, Int.le_refl, and_self, if_true, evRegion_st hk1, evRegion_st hk2, arr_get, arr_len, Int.natCast_nonneg, Int.toNat_natCast, List.getElem?_map, List.length_map, Try.ntmps91, Try.results91, efc91, fc91, ss, sd, evOp, evPlain, evVal, evMem, St.get, sliceOf, arrayOf, fieldsOf, normOf, norm, look, evVar, evFieldAddr, nameOf, St.alloc, St.drop, killOb, part, splice, depth, resultsV, ↓reduceIte, Nat.reduceBEq, Nat.reduceAdd, Nat.reduceSub, Nat.reduceMul, Nat.reduceEqDiff, Nat.reduceLeDiff, Nat.reduceLT, effOf, effMem, effVar, effLit, effMake, effApp, lend, evLit, evNil, freeze, evField, evIndexT, orNil, evSlice, placeOf, evMap, mapOf, keyOk, evFrame, closed, fixed, sameEs, wit, Option.isSome_some, St.with, wantedD, Array.size, te, einl, inls, efr]
      | cons c rest =>
        have z6 : sized 3 (encCut c :: rest.map encCut) = true := sized_cuts (c :: rest)
        have z7 := sized_cuts cr
        rw [List.length_cons] at hl
        have hbig : cr.length + (rest.length + 1) ≤ 4294967296 := by omega
        have hroom : roomy (cr.length + (rest.length + 1)) 24 = true := by simp [roomy]; omega
        have tk : (cr.map encCut ++ encCut c :: rest.map encCut).take (cr.length + (rest.length + 1)) = cr.map encCut ++ encCut c :: rest.map encCut := List.take_of_length_le (by simp)
        simp only [List.map_cons] at ih
        simp (maxSteps := 1000000) (implicitDefEqProofs := false) only [p0, pN, pNi, gr, kki, hX, hnev', w1, f1, f5, ih, k124, cn, z5, z6, z7, hroom, hbig, tk, List.length_append, List.length_cons, Nat.le_refl, e5, e6, e7, e8, e9, List.take_length, Int.le_refl, and_self, if_true, evRegion_st hk1, evRegion_st hk2, arr_get, arr_len, Int.natCast_nonneg, Int.toNat_natCast, List.getElem?_map, List.length_map, List.map_append, List.map_cons, Try.ntmps91, Try.results91, efc91, fc91, ss, sd, evOp, evPlain, evVal, evMem, St.get, sliceOf, arrayOf, fieldsOf, normOf, norm, look, evVar, evFieldAddr, nameOf, St.alloc, St.drop, killOb, part, splice, depth, resultsV, ↓reduceIte, Nat.reduceBEq, Nat.reduceAdd, Nat.reduceSub, Nat.reduceMul, Nat.reduceEqDiff, Nat.reduceLeDiff, Nat.reduceLT, effOf, effMem, effVar, effLit, effMake, effApp, lend, evLit, evNil, freeze, evField, evIndexT, orNil, evSlice, placeOf, evMap, mapOf, keyOk, evFrame, closed, fixed, sameEs, wit, Option.isSome_some, St.with, wantedD, Array.size, te, einl, inls, efr]
theorem c91 (b : Bool) (j : Job) (hj : Right j) (hr : ∀ r ∈ j.rs, rollOk r j.rep = true) (hs : ∀ s ∈ j.ss, stripOk s = true) : ∀ (rs : List Nat) (set : Nat), rs.length ≤ 5 → (∀ k ∈ rs, k < j.rs.length) → set < 2 ^ j.ss.length →
    (orcω E X0).call 91 [encJob j, encPacks b j, .sl false ((rs.map fun (k : Nat) => (k : Int)).map fun c => V.int .i64 c), .int .i64 (set : Nat)] = some (divV (divM j rs set))
  | [], set, _, _, hset => c91_nil b j set
  | k :: rs, set, hrs, hk, hset => c91_cons b j hj hr hs k rs set (by simp at hrs; omega) (hk k List.mem_cons_self) hset (fun set' h => c91 b j hj hr hs rs set' (by simp at hrs; omega) (fun k' h => hk k' (List.mem_cons_of_mem _ h)) h)
end Go.AM.D
end

section
/-
The fewest rolls: Fewest.
-/
namespace Go.AM.D
open Go Go.AM Go.Proofs

theorem find_hit {α : Type} {F : Nat → Option α} {c : Nat} {x : α} (h : F c = some x) (h0 : ∀ i, i < c → F i = none) : ∀ N, c < N → (List.range N).findSome? F = some x
  | 0, hN => by omega
  | N + 1, hN => by
    rw [List.range_succ, List.findSome?_append]
    by_cases e : c = N
    · subst e
      have : (List.range c).findSome? F = none := List.findSome?_eq_none_iff.2 fun i hi => h0 i (List.mem_range.1 hi)
      rw [this]
      simp [h]
    · rw [find_hit h h0 N (by omega)]
      rfl
theorem find_none {α : Type} {F : Nat → Option α} {N : Nat} (h0 : ∀ i, i < N → F i = none) : (List.range N).findSome? F = none :=
  List.findSome?_eq_none_iff.2 fun i hi => h0 i (List.mem_range.1 hi)
def tryS (j : Job) (count set : Nat) : Option (List Cut) := if ((mem set).length : Int) = count ∧ oneS j (memL set) = true then divM j (mem set) (2 ^ j.ss.length - 1) else none
def tryC (j : Job) (count : Nat) : Option (List Cut × Nat) := ((List.range (2 ^ j.rs.length)).findSome? (tryS j count)).map fun l => (l, count)
def fewM (j : Job) : Option (List Cut × Nat) := (List.range (j.rs.length + 1)).findSome? (tryC j)
def fewV (j : Job) : V :=
  if ¬ jobE j = 0 then .tup [.sl true [], .int .i64 0, .bool false, .int .i64 (jobE j)]
  else match fewM j with
    | some (l, c) => .tup [.sl true (l.map encCut), .int .i64 (c : Nat), .bool true, .int .i64 0]
    | none => .tup [.sl true [], .int .i64 0, .bool false, .int .i64 0]
def packsOb (j : Job) (l : List Roll) : Ob := { es := 2, flat := true, t := true, app := true, elems := l.map fun r => encPackF true j r }
theorem sized_packs (j : Job) (l : List Roll) : sized 2 (l.map fun r => encPackF true j r) = true := sized_map (f := fun r => encPackF true j r) (n := 2) (fun _ => ⟨_, rfl, rfl⟩) l
theorem memL_lt {j : Job} {n : Nat} (h : n < 2 ^ j.rs.length) : ∀ k ∈ mem n, k < j.rs.length := by
  intro k hk
  unfold mem at hk
  have hb := bit_le (List.mem_filter.1 hk).2
  rcases Nat.lt_or_ge k j.rs.length with g | g
  · exact g
  · have := Nat.pow_le_pow_right (n := 2) (by omega) g
    omega

theorem okT43 : okCode (Try.f43.body.getD .skip) = true := by decide +kernel
set_option maxRecDepth 20000 in
set_option maxHeartbeats 16000000 in
theorem c43 (j : Job) : (orcω E X0).call 43 [encJob j] = some (fewV j) := by
  refine call_of rfl fn43 rfl ?_
  have hok := okT43
  simp only [Try.f43, Option.getD_some, okCode, Bool.and_eq_true, Bool.and_true, Bool.true_and] at hok
  have k1 := c50 j
  unfold fewV
  by_cases a2 : jobE j = 0
  rotate_left
  · have q2 : (jobE j != 0) = true := by simpa using a2
    unfold encJob at *
    simp (maxSteps := 1000000) (implicitDefEqProofs := false) only [Try.ntmps43, Try.results43, efc43, fc43, k1, a2, q2, if_true, not_false_eq_true, ss, sd, evOp, evPlain, evVal, evMem, St.get, sliceOf, arrayOf, fieldsOf, normOf, norm, look, evVar, evFieldAddr, nameOf, St.alloc, St.drop, killOb, part, splice, depth, resultsV, ↓reduceIte, Nat.reduceBEq, Nat.reduceAdd, Nat.reduceSub, Nat.reduceMul, Nat.reduceEqDiff, Nat.reduceLeDiff, Nat.reduceLT, effOf, effMem, effVar, effLit, effMake, effApp, lend, evLit, evNil, freeze, evField, evIndexT, orNil, evSlice, placeOf, evMap, mapOf, keyOk, evFrame, closed, fixed, sameEs, wit, Option.isSome_some, St.with, wantedD, Array.size, te, einl, inls, efr]
  rw [if_neg (fun h => h a2)]
  obtain ⟨hj, hjo⟩ := jobE_zero a2
  have hjo := jobOk_iff.1 hjo
  rw [a2] at k1
  have h6 := hj.nss
  have h5 := hj.nrs
  have k2 := fun r hr => c88 j r hj hr hjo.2.1
  have k3 := fun rs set h1 h2 h3 => c91 true j hj hjo.2.2 hjo.2.1 rs set h1 h2 h3
  have k4 := fun l h1 h2 => c90 j l h1 h2
  have shr := shl_in (n := j.rs.length) (by omega)
  have shs := shl_in (n := j.ss.length) (by omega)
  have hS1 : 1 ≤ 2 ^ j.ss.length := Nat.one_le_two_pow
  have hS2 : 2 ^ j.ss.length ≤ 64 := Nat.pow_le_pow_right (n := 2) (by omega) h6
  have hR2 : 2 ^ j.rs.length ≤ 32 := Nat.pow_le_pow_right (n := 2) (by omega) h5
  generalize hF : fewM j = F
  unfold encJob encPacks at *
  have hep : ∀ r, encPack j r = encPackF true j r := fun _ => rfl
  simp (maxSteps := 1000000) (implicitDefEqProofs := false) only [Try.ntmps43, Try.results43, efc43, fc43, k1, bne_self_eq_false, List.length_map, ss, sd, evOp, evPlain, evVal, evMem, St.get, sliceOf, arrayOf, fieldsOf, normOf, norm, look, evVar, evFieldAddr, nameOf, St.alloc, St.drop, killOb, part, splice, depth, resultsV, ↓reduceIte, Nat.reduceBEq, Nat.reduceAdd, Nat.reduceSub, Nat.reduceMul, Nat.reduceEqDiff, Nat.reduceLeDiff, Nat.reduceLT, effOf, effMem, effVar, effLit, effMake, effApp, lend, evLit, evNil, freeze, evField, evIndexT, orNil, evSlice, placeOf, evMap, mapOf, keyOk, evFrame, closed, fixed, sameEs, wit, Option.isSome_some, St.with, wantedD, Array.size, te, einl, inls, efr]
  generalize hr : loopAt _ _ _ _ _ _ = r; revert r
  refine loop_list j.rs (fun pre _ => [(7, .own 7 0 pre.length), (23, .int .i64 pre.length)]) (fun pre _ => [(7, packsOb j pre)]) (fun _ (_ : Unit) => True) () (by omega) (by simp (maxSteps := 1000000) (implicitDefEqProofs := false) only [packsOb, ss, sd, evOp, evPlain, evVal, evMem, St.get, sliceOf, arrayOf, fieldsOf, normOf, norm, look, evVar, evFieldAddr, nameOf, St.alloc, St.drop, killOb, part, splice, depth, resultsV, ↓reduceIte, Nat.reduceBEq, Nat.reduceAdd, Nat.reduceSub, Nat.reduceMul, Nat.reduceEqDiff, Nat.reduceLeDiff, Nat.reduceLT, effOf, effMem, effVar, effLit, effMake, effApp, lend, evLit, evNil, freeze, evField, evIndexT, orNil, evSlice, placeOf, evMap, mapOf, keyOk, evFrame, closed, fixed, sameEs, wit, Option.isSome_some, St.with, wantedD, Array.size, te, einl, inls, efr]) trivial (fun _ _ => ?_) (fun pre x post _ hp _ g1 g2 g3 g4 => ?_)
  rotate_left
  · have hroom : roomy (pre.length + 1) 48 = true := by
      have : pre.length < 6 := by omega
      simp [roomy]; omega
    have hbig : pre.length + 1 ≤ 4294967296 := by omega
    have z1 := sized_packs j pre
    have e1 : (pre.map fun r => encPackF true j r) ++ [.agg [.sl true (arrL (fun q => (ent j x q).1) (2 ^ j.ss.length)), .sl true (arrL (fun q => (ent j x q).2) (2 ^ j.ss.length))]] = (pre ++ [x]).map fun r => encPackF true j r := by simp [encPackF]
    have e3 : (pre ++ [x]).length = pre.length + 1 := by simp
    have k5 := k2 x (hjo.2.2 x (by rw [hp]; simp))
    unfold encPack at k5
    unfold encRoll at *
    have f1 : refFree (encPackF true j x) = true := rfl
    have f2 : isNew (encPackF true j x) = true := rfl
    simp (maxSteps := 1000000) (implicitDefEqProofs := false) only [g1, g2, g3, g4, hroom, hbig, z1, e1, e3, k5, f1, f2, packsOb, Int.natCast_nonneg, Int.toNat_natCast, List.getElem?_map, List.length_map, ss, sd, evOp, evPlain, evVal, evMem, St.get, sliceOf, arrayOf, fieldsOf, normOf, norm, look, evVar, evFieldAddr, nameOf, St.alloc, St.drop, killOb, part, splice, depth, resultsV, ↓reduceIte, Nat.reduceBEq, Nat.reduceAdd, Nat.reduceSub, Nat.reduceMul, Nat.reduceEqDiff, Nat.reduceLeDiff, Nat.reduceLT, effOf, effMem, effVar, effLit, effMake, effApp, lend, evLit, evNil, freeze, evField, evIndexT, orNil, evSlice, placeOf, evMap, mapOf, keyOk, evFrame, closed, fixed, sameEs, wit, Option.isSome_some, St.with, wantedD, Array.size, te, einl, inls, efr]
    (first | exact ⟨(), trivial⟩ | refine ⟨(), ?_, trivial⟩ | skip)
  · have w1 : IntKind.i64.wrap ((j.rs.length : Int) + 1) = ((j.rs.length + 1 : Nat) : Int) := by rw [wrap_in (by omega)]; omega
    simp (maxSteps := 1000000) (implicitDefEqProofs := false) only [Int.lt_irrefl, w1, packsOb, ss, sd, evOp, evPlain, evVal, evMem, St.get, sliceOf, arrayOf, fieldsOf, normOf, norm, look, evVar, evFieldAddr, nameOf, St.alloc, St.drop, killOb, part, splice, depth, resultsV, ↓reduceIte, Nat.reduceBEq, Nat.reduceAdd, Nat.reduceSub, Nat.reduceMul, Nat.reduceEqDiff, Nat.reduceLeDiff, Nat.reduceLT, effOf, effMem, effVar, effLit, effMake, effApp, lend, evLit, evNil, freeze, evField, evIndexT, orNil, evSlice, placeOf, evMap, mapOf, keyOk, evFrame, closed, fixed, sameEs, wit, Option.isSome_some, St.with, wantedD, Array.size, te, einl, inls, efr]
    generalize hr : loopAt _ _ _ _ _ _ = r; revert r
    refine loop_nat (j.rs.length + 1) (fun c _ => [(38, .int .i64 (c : Nat))]) (fun _ _ => []) (fun c (_ : Unit) => ∀ i, i < c → tryC j i = none) () (by omega) (by simp (maxSteps := 1000000) (implicitDefEqProofs := false) only [Int.natCast_zero, ss, sd, evOp, evPlain, evVal, evMem, St.get, sliceOf, arrayOf, fieldsOf, normOf, norm, look, evVar, evFieldAddr, nameOf, St.alloc, St.drop, killOb, part, splice, depth, resultsV, ↓reduceIte, Nat.reduceBEq, Nat.reduceAdd, Nat.reduceSub, Nat.reduceMul, Nat.reduceEqDiff, Nat.reduceLeDiff, Nat.reduceLT, effOf, effMem, effVar, effLit, effMake, effApp, lend, evLit, evNil, freeze, evField, evIndexT, orNil, evSlice, placeOf, evMap, mapOf, keyOk, evFrame, closed, fixed, sameEs, wit, Option.isSome_some, St.with, wantedD, Array.size, te, einl, inls, efr]) (fun i h => by omega) (fun _ hI => ?_) (fun c _ hI a1 a2 a3 => ?_)
    · have hF : F = none := by rw [← hF]; exact find_none hI
      subst hF
      simp (maxSteps := 1000000) (implicitDefEqProofs := false) only [Int.lt_irrefl, Try.ntmps43, Try.results43, efc43, fc43, ss, sd, evOp, evPlain, evVal, evMem, St.get, sliceOf, arrayOf, fieldsOf, normOf, norm, look, evVar, evFieldAddr, nameOf, St.alloc, St.drop, killOb, part, splice, depth, resultsV, ↓reduceIte, Nat.reduceBEq, Nat.reduceAdd, Nat.reduceSub, Nat.reduceMul, Nat.reduceEqDiff, Nat.reduceLeDiff, Nat.reduceLT, effOf, effMem, effVar, effLit, effMake, effApp, lend, evLit, evNil, freeze, evField, evIndexT, orNil, evSlice, placeOf, evMap, mapOf, keyOk, evFrame, closed, fixed, sameEs, wit, Option.isSome_some, St.with, wantedD, Array.size, te, einl, inls, efr]
    · simp (maxSteps := 1000000) (implicitDefEqProofs := false) only [a2, shr, List.length_map, Int.natCast_nonneg, Int.toNat_natCast, ss, sd, evOp, evPlain, evVal, evMem, St.get, sliceOf, arrayOf, fieldsOf, normOf, norm, look, evVar, evFieldAddr, nameOf, St.alloc, St.drop, killOb, part, splice, depth, resultsV, ↓reduceIte, Nat.reduceBEq, Nat.reduceAdd, Nat.reduceSub, Nat.reduceMul, Nat.reduceEqDiff, Nat.reduceLeDiff, Nat.reduceLT, effOf, effMem, effVar, effLit, effMake, effApp, lend, evLit, evNil, freeze, evField, evIndexT, orNil, evSlice, placeOf, evMap, mapOf, keyOk, evFrame, closed, fixed, sameEs, wit, Option.isSome_some, St.with, wantedD, Array.size, te, einl, inls, efr]
      generalize hr : loopAt _ _ _ _ _ _ = r; revert r
      refine loop_nat (2 ^ j.rs.length) (fun s _ => [(45, .int .i64 (s : Nat))]) (fun _ _ => []) (fun s (_ : Unit) => ∀ i, i < s → tryS j c i = none) () (by omega) (by simp (maxSteps := 1000000) (implicitDefEqProofs := false) only [Int.natCast_zero, ss, sd, evOp, evPlain, evVal, evMem, St.get, sliceOf, arrayOf, fieldsOf, normOf, norm, look, evVar, evFieldAddr, nameOf, St.alloc, St.drop, killOb, part, splice, depth, resultsV, ↓reduceIte, Nat.reduceBEq, Nat.reduceAdd, Nat.reduceSub, Nat.reduceMul, Nat.reduceEqDiff, Nat.reduceLeDiff, Nat.reduceLT, effOf, effMem, effVar, effLit, effMake, effApp, lend, evLit, evNil, freeze, evField, evIndexT, orNil, evSlice, placeOf, evMap, mapOf, keyOk, evFrame, closed, fixed, sameEs, wit, Option.isSome_some, St.with, wantedD, Array.size, te, einl, inls, efr]) (fun i h => by omega) (fun _ hJ => ?_) (fun s _ hJ b1 b2 b3 => ?_)
      · have hC : tryC j c = none := by unfold tryC; rw [find_none hJ]; rfl
        have hI' : ∀ i, i < c + 1 → tryC j i = none := fun i hi => by
          by_cases e : i = c
          · rw [e]; exact hC
          · exact hI i (by omega)
        simp (maxSteps := 1000000) (implicitDefEqProofs := false) only [Int.lt_irrefl, a3, ss, sd, evOp, evPlain, evVal, evMem, St.get, sliceOf, arrayOf, fieldsOf, normOf, norm, look, evVar, evFieldAddr, nameOf, St.alloc, St.drop, killOb, part, splice, depth, resultsV, ↓reduceIte, Nat.reduceBEq, Nat.reduceAdd, Nat.reduceSub, Nat.reduceMul, Nat.reduceEqDiff, Nat.reduceLeDiff, Nat.reduceLT, effOf, effMem, effVar, effLit, effMake, effApp, lend, evLit, evNil, freeze, evField, evIndexT, orNil, evSlice, placeOf, evMap, mapOf, keyOk, evFrame, closed, fixed, sameEs, wit, Option.isSome_some, St.with, wantedD, Array.size, te, einl, inls, efr]
        first | exact ⟨(), rfl, hI'⟩ | exact ⟨(), hI'⟩
      · have k5 := c89 s (by omega)
        have hml := memL_lt (j := j) b1
        have hmi : ∀ x ∈ memL s, 0 ≤ x ∧ x < j.rs.length := fun x hx => by
          unfold memL at hx
          obtain ⟨i, hi, rfl⟩ := List.mem_map.1 hx
          have := hml i hi
          omega
        have hm5 : (mem s).length ≤ 5 := by
          have := List.length_filter_le (bitP s) (List.range 5)
          rw [List.length_range] at this
          exact this
        have hmL : (memL s).length = (mem s).length := by simp [memL]
        have k6 := k4 (memL s) hmi (by omega)
        have k7 := k3 (mem s) (2 ^ j.ss.length - 1) hm5 hml (by omega)
        have w2 : IntKind.i64.wrap (((2 ^ j.ss.length : Nat) : Int) - 1) = ((2 ^ j.ss.length - 1 : Nat) : Int) := by rw [wrap_in (by omega)]; omega
        have hT : tryS j c s = if ((mem s).length : Int) = c ∧ oneS j (memL s) = true then divM j (mem s) (2 ^ j.ss.length - 1) else none := rfl
        have hml2 : (mem s).map (fun (k : Nat) => (k : Int)) = memL s := rfl
        rw [hml2] at k7
        generalize oneS j (memL s) = os at *
        generalize divM j (mem s) (2 ^ j.ss.length - 1) = D at *
        have hJ' : tryS j c s = none → ∀ i, i < s + 1 → tryS j c i = none := fun h i hi => by
          by_cases e : i = s
          · rw [e]; exact h
          · exact hJ i (by omega)
        by_cases c1 : ((mem s).length : Int) = c
        rotate_left
        · have q1 : (((mem s).length : Int) != c) = true := by simpa using c1
          rw [if_neg (fun h => c1 h.1)] at hT
          have hJ' := hJ' hT
          simp (maxSteps := 1000000) (implicitDefEqProofs := false) only [b2, b3, k5, hmL, q1, List.length_map, ss, sd, evOp, evPlain, evVal, evMem, St.get, sliceOf, arrayOf, fieldsOf, normOf, norm, look, evVar, evFieldAddr, nameOf, St.alloc, St.drop, killOb, part, splice, depth, resultsV, ↓reduceIte, Nat.reduceBEq, Nat.reduceAdd, Nat.reduceSub, Nat.reduceMul, Nat.reduceEqDiff, Nat.reduceLeDiff, Nat.reduceLT, effOf, effMem, effVar, effLit, effMake, effApp, lend, evLit, evNil, freeze, evField, evIndexT, orNil, evSlice, placeOf, evMap, mapOf, keyOk, evFrame, closed, fixed, sameEs, wit, Option.isSome_some, St.with, wantedD, Array.size, te, einl, inls, efr]
          first | exact ⟨(), rfl, hJ'⟩ | exact ⟨(), hJ'⟩
        have q1 : (((mem s).length : Int) != c) = false := by simpa using c1
        cases os with
        | false =>
          rw [if_neg (fun h => by cases h.2)] at hT
          have hJ' := hJ' hT
          simp (maxSteps := 1000000) (implicitDefEqProofs := false) only [b2, b3, k5, k6, hmL, q1, List.length_map, ss, sd, evOp, evPlain, evVal, evMem, St.get, sliceOf, arrayOf, fieldsOf, normOf, norm, look, evVar, evFieldAddr, nameOf, St.alloc, St.drop, killOb, part, splice, depth, resultsV, ↓reduceIte, Nat.reduceBEq, Nat.reduceAdd, Nat.reduceSub, Nat.reduceMul, Nat.reduceEqDiff, Nat.reduceLeDiff, Nat.reduceLT, effOf, effMem, effVar, effLit, effMake, effApp, lend, evLit, evNil, freeze, evField, evIndexT, orNil, evSlice, placeOf, evMap, mapOf, keyOk, evFrame, closed, fixed, sameEs, wit, Option.isSome_some, St.with, wantedD, Array.size, te, einl, inls, efr]
          first | exact ⟨(), rfl, hJ'⟩ | exact ⟨(), hJ'⟩
        | true =>
          rw [if_pos ⟨c1, rfl⟩] at hT
          unfold divV at k7
          cases D with
          | none =>
            have hJ' := hJ' hT
            simp only [Option.getD_none, Option.isSome_none, List.map_nil] at k7
            simp (maxSteps := 1000000) (implicitDefEqProofs := false) only [b2, b3, k5, k6, k7, hmL, q1, shs, w2, packsOb, evRegion_st hok, List.length_map, Int.natCast_nonneg, Int.toNat_natCast, ss, sd, evOp, evPlain, evVal, evMem, St.get, sliceOf, arrayOf, fieldsOf, normOf, norm, look, evVar, evFieldAddr, nameOf, St.alloc, St.drop, killOb, part, splice, depth, resultsV, ↓reduceIte, Nat.reduceBEq, Nat.reduceAdd, Nat.reduceSub, Nat.reduceMul, Nat.reduceEqDiff, Nat.reduceLeDiff, Nat.reduceLT, effOf, effMem, effVar, effLit, effMake, effApp, lend, evLit, evNil, freeze, evField, evIndexT, orNil, evSlice, placeOf, evMap, mapOf, keyOk, evFrame, closed, fixed, sameEs, wit, Option.isSome_some, St.with, wantedD, Array.size, te, einl, inls, efr]
            first | exact ⟨(), rfl, hJ'⟩ | exact ⟨(), hJ'⟩
          | some l =>
            have hC : tryC j c = some (l, c) := by unfold tryC; rw [find_hit hT hJ _ b1]; rfl
            have hF : F = some (l, c) := by rw [← hF]; exact find_hit hC hI _ a1
            subst hF
            simp only [Option.getD_some, Option.isSome_some] at k7
            simp (maxSteps := 1000000) (implicitDefEqProofs := false) only [b2, b3, k5, k6, k7, hmL, q1, shs, w2, packsOb, evRegion_st hok, List.length_map, Int.natCast_nonneg, Int.toNat_natCast, Try.ntmps43, Try.results43, efc43, fc43, ss, sd, evOp, evPlain, evVal, evMem, St.get, sliceOf, arrayOf, fieldsOf, normOf, norm, look, evVar, evFieldAddr, nameOf, St.alloc, St.drop, killOb, part, splice, depth, resultsV, ↓reduceIte, Nat.reduceBEq, Nat.reduceAdd, Nat.reduceSub, Nat.reduceMul, Nat.reduceEqDiff, Nat.reduceLeDiff, Nat.reduceLT, effOf, effMem, effVar, effLit, effMake, effApp, lend, evLit, evNil, freeze, evField, evIndexT, orNil, evSlice, placeOf, evMap, mapOf, keyOk, evFrame, closed, fixed, sameEs, wit, Option.isSome_some, St.with, wantedD, Array.size, te, einl, inls, efr]
end Go.AM.D
end
