/-
Shares by dilution: the numerator, with what is known already (shares.in).
-/
import Derived.Test.YteocppddjlglbaaFShare
import Derived.Test.YteocppddjlglbaaFNumer
import Derived.Test.YteocppddjlglbaaAmNew
set_option linter.unusedVariables false
set_option linter.unusedSimpArgs false
set_option maxRecDepth 20000

namespace Go.AM.F
open Go Go.AM Go.Proofs

theorem inf18 : (drawn (Try.f18.body.getD .skip)).map infosX = [[([], false), ([], false), ([], false), ([], false), ([], false), ([0], false), ([], false), ([5], false), ([0], false), ([], false), ([5, 8], false), ([], false), ([], false), ([0], false), ([], true), ([], true)], [([], false), ([], false), ([], false), ([], false), ([], false), ([], false), ([], true)]] := by decide +kernel
theorem okD18 : (drawn (Try.f18.body.getD .skip)).all okBadX = true := by decide +kernel
def entK (l : List Lot) (o : Nat) (ks : List Nat) : List V := ks.map fun j => .tup [.int .i64 ((j : Nat) : Int), nV (num l o j)]
theorem eqT3 (i j : Nat) : eqT E 8 3 (.int .i64 (i : Int)) (.int .i64 (j : Int)) = some (decide (i = j)) := by
  unfold eqT
  rw [ty3]
  simp only [ti3, if_true]
  congr 1
  by_cases h : i = j
  · subst h; simp
  · rw [decide_eq_false h]; simp; omega
theorem find_ent (l : List Lot) (o i : Nat) : ∀ ks : List Nat, xZ E 3 (.int .i64 (i : Int)) (entK l o ks) = some (if i ∈ ks then some (nV (num l o i)) else none)
  | [] => rfl
  | j :: r => by
    have ih := find_ent l o i r
    unfold entK at ih ⊢
    simp only [List.map_cons, xZ, eqT3]
    by_cases h : i = j
    · subst h
      rw [decide_eq_true rfl]; simp [ask]
    · rw [decide_eq_false h]
      simp only [ask, ih, List.mem_cons, h, false_or]
theorem eqW_self_part (p : Part) : eqW (encPart p) (encPart p) = true := by simp [encPart, eqW, eqWL]
theorem eqWL_parts : ∀ ps : List Part, eqWL (ps.map encPart) (ps.map encPart) = true
  | [] => rfl
  | p :: r => by simp only [List.map_cons, eqWL, eqW_self_part, eqWL_parts r, Bool.and_self]
theorem eqW_self_lot (x : Lot) : eqW (encLot x) (encLot x) = true := by simp [encLot, eqW, eqWL, eqWL_parts]
theorem eqWL_lots : ∀ l : List Lot, eqWL (l.map encLot) (l.map encLot) = true
  | [] => rfl
  | x :: r => by simp only [List.map_cons, eqWL, eqW_self_lot, eqWL_lots r, Bool.and_self]

def zeroOb : Ob := { es := 20, flat := true, t := true, app := false, elems := [ti54.zero] }
def left18 (l : List Lot) (o : Nat) (c N : Nat) (K : List V) : List (Nat × Ob) := match c with
  | 0 => [(1004, natOb (wd N)), (1005, natOb (wd N)), (1027, mapOb K), (1029, shOb l o)]
  | 1 => [(1004, natOb (wd N)), (1005, zeroOb), (1007, natOb (wd N)), (1027, mapOb K), (1029, shOb l o)]
  | _ => [(1004, natOb (wd N)), (1007, natOb (wd N)), (1027, mapOb K), (1029, shOb l o)]
def InIs (l : List Lot) (o i : Nat) (ks : List Nat) : Prop := ∃ (sl : List V) (c : Nat) (ks' : List Nat), (∀ j ∈ ks', j ∈ ks ∨ j ≤ i) ∧
  (orcω E X0).inl 1000 18 [.ptr 1029 0 0, .int .i64 (i : Int)] (shSt l o (entK l o ks)) = some (nV (num l o i), { slots := sl, outer := [[.ptr 1029 0 0, .mapr 1027]], objs := left18 l o c (num l o i) (entK l o ks') })
theorem in_of {l : List Lot} {o i : Nat} {ks : List Nat} (c : Nat) (ks' : List Nat) (h1 : ∀ j ∈ ks', j ∈ ks ∨ j ≤ i)
    (h : ∃ sl, (orcω E X0).inl 1000 18 [.ptr 1029 0 0, .int .i64 (i : Int)] (shSt l o (entK l o ks)) = some (nV (num l o i), { slots := sl, outer := [[.ptr 1029 0 0, .mapr 1027]], objs := left18 l o c (num l o i) (entK l o ks') })) : InIs l o i ks := by
  obtain ⟨sl, h⟩ := h
  exact ⟨sl, c, ks', h1, h⟩

set_option maxHeartbeats 8000000 in
theorem in_known {l : List Lot} (o i : Nat) (ks : List Nat) (h : i ∈ ks) : InIs l o i ks := by
  have hf := find_ent l o i ks
  rw [if_pos h] at hf
  generalize hN : num l o i = N at *
  refine in_of 0 ks (fun j hj => .inl hj) ?_
  rw [hN]
  refine (fun h : ∃ sl : List V, _ = some (nV N, ({ slots := sl, outer := [[.ptr 1029 0 0, .mapr 1027]], objs := left18 l o 0 N (entK l o ks) } : St)) => h.elim fun sl h => ⟨sl, inl_of rfl fn18 rfl h⟩) ?_
  simp only [nV, natV] at hf
  simp (maxSteps := 1000000) (implicitDefEqProofs := false) only [shSt, shOb, mapOb, left18, encLots, natOb, nV, natV, nn, hf, Try.ntmps18, Try.results18, efc18, fc18, ss, sd, zH, qG, zF, zG, St.get, qE, qF, qB, zC, norm, look, zE, qA, qI, St.alloc, St.drop, zA, part, zB, depth, qD, ↓reduceIte, Nat.reduceBEq, Nat.reduceAdd, Nat.reduceSub, Nat.reduceMul, Nat.reduceEqDiff, Nat.reduceLeDiff, Nat.reduceLT, qJ, qK, qL, qM, qN, qO, qP, qQ, qR, zI, qS, qC, qT, evSlice0, qV, qW, qX, qY, qZ, zJ, zK, zL, wit, Option.isSome_some, qH, xK, evPre, St.with, zD, Array.size, toldV, isIntV, orArr, offB, effFr, effFr2, effFr3, mapIn, restSame, sameO, eqW, eqWL, pickR, te, einl, inls, efr]
  exact ⟨_, rfl⟩

theorem ent_snoc (l : List Lot) (o i : Nat) (ks : List Nat) : entK l o ks ++ [V.tup [.int .i64 (i : Int), V.agg ((wd (num l o i)).map vW)]] = entK l o (ks ++ [i]) := by
  simp [entK, nV, natV]
set_option maxHeartbeats 8000000 in
theorem in_low {l : List Lot} (o i : Nat) (ks : List Nat) (hio : i < o) (h : i ∉ ks) : InIs l o i ks := by
  have hf := find_ent l o i ks
  rw [if_neg h] at hf
  have hs := ent_snoc l o i ks
  have hN : num l o i = 0 := num_low hio
  have hz : natV (wd 0) = ti54.zero := rfl
  have b1 : ((i : Int) == (o : Int)) = false := by simp; omega
  have b2 : ¬ (o : Int) < (i : Int) := by omega
  rw [hN] at hs
  refine in_of 1 (ks ++ [i]) (fun j hj => (List.mem_append.1 hj).imp id fun h => by rw [List.mem_singleton.1 h]; exact Nat.le_refl _) ?_
  rw [hN]
  refine (fun h : ∃ sl : List V, _ = some (nV 0, ({ slots := sl, outer := [[.ptr 1029 0 0, .mapr 1027]], objs := left18 l o 1 0 (entK l o (ks ++ [i])) } : St)) => h.elim fun sl h => ⟨sl, inl_of rfl fn18 rfl h⟩) ?_
  have hi' := inf18
  have ho' := okD18
  simp only [Try.f18, Option.getD_some, drawn, List.map_cons, List.map_nil, List.nil_append, List.append_nil, List.cons_append, List.cons.injEq, and_true] at hi'
  simp only [Try.f18, Option.getD_some, drawn, List.nil_append, List.append_nil, List.cons_append, List.all_cons, List.all_nil, Bool.and_true, Bool.and_eq_true] at ho'
  obtain ⟨hi1, hi2⟩ := hi'
  obtain ⟨ho1, ho2⟩ := ho'
  have hs2 : entK l o ks ++ [V.tup [.int .i64 (i : Int), ti54.zero]] = entK l o (ks ++ [i]) := hs
  simp only [ti54] at hs2
  have hz2 : natOb (wd 0) = zeroOb := rfl
  have hz3 : nV 0 = ti54.zero := rfl
  rw [hz3]
  unfold left18
  rw [hz2]
  simp (maxSteps := 1000000) (implicitDefEqProofs := false) only [shSt, shOb, mapOb, encLots, zeroOb, ti54, hf, b1, b2, hs2, Int.natCast_zero, List.isEmpty_cons, regN ho2 hi2, evNT_nil, evNT_cons, effN_true, effN_false, effN2_some, effN2_none, effX, effNew, effFreshed, effThaw, suppX, calmT, free, Eff.writes, supp, isBarX, Option.toList_some, Option.toList_none, reduceCtorEq, if_false, Try.ntmps18, Try.results18, efc18, fc18, ss, sd, zH, qG, zF, zG, St.get, qE, qF, qB, zC, norm, look, zE, qA, qI, St.alloc, St.drop, zA, part, zB, depth, qD, ↓reduceIte, Nat.reduceBEq, Nat.reduceAdd, Nat.reduceSub, Nat.reduceMul, Nat.reduceEqDiff, Nat.reduceLeDiff, Nat.reduceLT, qJ, qK, qL, qM, qN, qO, qP, qQ, qR, zI, qS, qC, qT, evSlice0, qV, qW, qX, qY, qZ, zJ, zK, zL, wit, Option.isSome_some, qH, xK, evPre, St.with, zD, Array.size, toldV, isIntV, orArr, offB, effFr, effFr2, effFr3, mapIn, restSame, sameO, eqW, eqWL, pickR, te, einl, inls, efr]
  exact ⟨_, rfl⟩

theorem wd0 : (wd 0).map vW = [V.int .u32 0, V.int .u32 0, V.int .u32 0, V.int .u32 0, V.int .u32 0, V.int .u32 0, V.int .u32 0, V.int .u32 0, V.int .u32 0, V.int .u32 0, V.int .u32 0, V.int .u32 0, V.int .u32 0, V.int .u32 0, V.int .u32 0, V.int .u32 0, V.int .u32 0, V.int .u32 0, V.int .u32 0, V.int .u32 0] := rfl
def termN (l : List Lot) (o i : Nat) (p : Part) : Nat := num l o p.lot.toNat * p.mass.toNat * seg l (p.lot.toNat + 1) (i - (p.lot.toNat + 1))
section
variable {l : List Lot} (g : Good l)
include g
set_option maxHeartbeats 8000000 in
theorem in_self (o : Nat) (ks : List Nat) (hi : o < l.length) (h : o ∉ ks) : InIs l o o ks := by
  have hf := find_ent l o o ks
  rw [if_neg h] at hf
  have hs := ent_snoc l o o ks
  have hN : num l o o = seg l 0 (o + 1) := num_self
  obtain ⟨sl, k2⟩ := i32 g o (entK l o ks) 1 0 (o + 1) (by decide +kernel) (by omega) (by rw [Nat.one_mul]; exact W_lt g (by omega))
  rw [Nat.zero_add, Nat.one_mul, ← hN] at k2
  have k1 : (orcω E X0).call 33 [.int .i64 1] = some (nV 1) := k33 1 (by decide)
  have w1 : IntKind.i64.wrap ((o : Int) + 1) = ((o + 1 : Nat) : Int) := by have := g.v.len; rw [wrap_in (by omega)]; omega
  generalize hN' : num l o o = N at *
  refine in_of 1 (ks ++ [o]) (fun j hj => (List.mem_append.1 hj).imp id fun h => by rw [List.mem_singleton.1 h]; exact Nat.le_refl _) ?_
  rw [hN']
  refine (fun h : ∃ sl : List V, _ = some (nV N, ({ slots := sl, outer := [[.ptr 1029 0 0, .mapr 1027]], objs := left18 l o 1 N (entK l o (ks ++ [o])) } : St)) => h.elim fun sl h => ⟨sl, inl_of rfl fn18 rfl h⟩) ?_
  have hi' := inf18
  have ho' := okD18
  simp only [Try.f18, Option.getD_some, drawn, List.map_cons, List.map_nil, List.nil_append, List.append_nil, List.cons_append, List.cons.injEq, and_true] at hi'
  simp only [Try.f18, Option.getD_some, drawn, List.nil_append, List.append_nil, List.cons_append, List.all_cons, List.all_nil, Bool.and_true, Bool.and_eq_true] at ho'
  obtain ⟨hi1, hi2⟩ := hi'
  obtain ⟨ho1, ho2⟩ := ho'
  simp only [shSt, shOb, mapOb, encLots, natOb, nV, natV, Int.natCast_zero] at k1 k2
  simp (maxSteps := 1000000) (implicitDefEqProofs := false) only [shSt, shOb, mapOb, left18, encLots, natOb, zeroOb, ti54, nV, natV, nn, hf, k1, k2, w1, hs, Int.natCast_zero, List.isEmpty_cons, regN ho2 hi2, evNT_nil, evNT_cons, effN_true, effN_false, effN2_some, effN2_none, effX, effNew, effFreshed, effThaw, suppX, calmT, free, Eff.writes, supp, isBarX, Option.toList_some, Option.toList_none, reduceCtorEq, if_false, Try.ntmps18, Try.results18, efc18, fc18, ss, sd, zH, qG, zF, zG, St.get, qE, qF, qB, zC, norm, look, zE, qA, qI, St.alloc, St.drop, zA, part, zB, depth, qD, ↓reduceIte, Nat.reduceBEq, Nat.reduceAdd, Nat.reduceSub, Nat.reduceMul, Nat.reduceEqDiff, Nat.reduceLeDiff, Nat.reduceLT, qJ, qK, qL, qM, qN, qO, qP, qQ, qR, zI, qS, qC, qT, evSlice0, qV, qW, qX, qY, qZ, zJ, zK, zL, wit, Option.isSome_some, qH, xK, evPre, St.with, zD, Array.size, toldV, isIntV, orArr, offB, effFr, effFr2, effFr3, mapIn, restSame, sameO, eqW, eqWL, pickR, te, einl, inls, efr]
  exact ⟨_, rfl⟩

set_option maxHeartbeats 16000000 in
theorem in_up (o i : Nat) (ks : List Nat) (hi : i < l.length) (hio : o < i) (h : i ∉ ks) (ih : ∀ j, j < i → ∀ ks, InIs l o j ks) : InIs l o i ks := by
  have v := g.v
  have hf := find_ent l o i ks
  rw [if_neg h] at hf
  have hN : num l o i = sumN (termN l o i) l[i].parts := num_up v hio hi
  have hNl := num_le v o i hi
  have hW := W_lt g (n := i + 1) (by omega)
  have b1 : ((i : Int) == (o : Int)) = false := by simp; omega
  have b2 : (o : Int) < (i : Int) := by omega
  have b3 : (i : Int) < l.length := by omega
  have g1 := lots_get hi
  have hpo := v.parts hi
  have hea := v.earlier hi
  refine (fun h : ∃ (ks' : List Nat) (sl : List V), (∀ j ∈ ks', j ∈ ks ∨ j ≤ i) ∧ _ = some (nV (num l o i), ({ slots := sl, outer := [[.ptr 1029 0 0, .mapr 1027]], objs := left18 l o 2 (num l o i) (entK l o ks') } : St)) => h.elim fun ks' h => h.elim fun sl h => in_of 2 ks' h.1 ⟨sl, inl_of rfl fn18 rfl h.2⟩) ?_
  have hi' := inf18
  have ho' := okD18
  simp only [Try.f18, Option.getD_some, drawn, List.map_cons, List.map_nil, List.nil_append, List.append_nil, List.cons_append, List.cons.injEq, and_true] at hi'
  simp only [Try.f18, Option.getD_some, drawn, List.nil_append, List.append_nil, List.cons_append, List.all_cons, List.all_nil, Bool.and_true, Bool.and_eq_true] at ho'
  obtain ⟨hi1, hi2⟩ := hi'
  obtain ⟨ho1, ho2⟩ := ho'
  generalize l[i] = x at *
  obtain ⟨xk, xm, ps⟩ := x
  dsimp only at hN hpo hea
  have hpl := hpo.1
  simp (maxSteps := 1000000) (implicitDefEqProofs := false) only [shSt, shOb, mapOb, encLots, encLot, natOb, nV, natV, nn, hf, b1, b2, b3, g1, List.length_map, Int.natCast_nonneg, Int.toNat_natCast, Try.ntmps18, Try.results18, efc18, fc18, ss, sd, zH, qG, zF, zG, St.get, qE, qF, qB, zC, norm, look, zE, qA, qI, St.alloc, St.drop, zA, part, zB, depth, qD, ↓reduceIte, Nat.reduceBEq, Nat.reduceAdd, Nat.reduceSub, Nat.reduceMul, Nat.reduceEqDiff, Nat.reduceLeDiff, Nat.reduceLT, qJ, qK, qL, qM, qN, qO, qP, qQ, qR, zI, qS, qC, qT, evSlice0, qV, qW, qX, qY, qZ, zJ, zK, zL, wit, Option.isSome_some, qH, xK, evPre, St.with, zD, Array.size, toldV, isIntV, orArr, offB, effFr, effFr2, effFr3, mapIn, restSame, sameO, eqW, eqWL, pickR, te, einl, inls, efr]
  generalize hr : loopAt _ _ _ _ _ _ = r; revert r
  refine loop_list ps (fun pre _ => [(49, .int .i64 pre.length)]) (fun pre ks1 => [(1007, natOb (wd (sumN (termN l o i) pre))), (1027, mapOb (entK l o ks1))]) (fun _ (ks1 : List Nat) => ∀ j ∈ ks1, j ∈ ks ∨ j < i) ks (by omega) (by simp (maxSteps := 1000000) (implicitDefEqProofs := false) only [natOb, natV, mapOb, sumN, wd0, List.length_nil, Int.natCast_zero, ss, sd, zH, qG, zF, zG, St.get, qE, qF, qB, zC, norm, look, zE, qA, qI, St.alloc, St.drop, zA, part, zB, depth, qD, ↓reduceIte, Nat.reduceBEq, Nat.reduceAdd, Nat.reduceSub, Nat.reduceMul, Nat.reduceEqDiff, Nat.reduceLeDiff, Nat.reduceLT, qJ, qK, qL, qM, qN, qO, qP, qQ, qR, zI, qS, qC, qT, evSlice0, qV, qW, qX, qY, qZ, zJ, zK, zL, wit, Option.isSome_some, qH, xK, evPre, St.with, zD, Array.size, toldV, isIntV, orArr, offB, effFr, effFr2, effFr3, mapIn, restSame, sameO, eqW, eqWL, pickR, te, einl, inls, efr]) (fun j hj => .inl hj) (fun ks1 hk => ?_) (fun pre p post ks1 hp hk e1 e2 e3 e4 => ?_)
  · have hni : i ∉ ks1 := fun hh => (hk i hh).elim h fun hh => Nat.lt_irrefl _ hh
    have hf1 := find_ent l o i ks1
    rw [if_neg hni] at hf1
    have hs := ent_snoc l o i ks1
    have hcond : ∀ j ∈ ks1 ++ [i], j ∈ ks ∨ j ≤ i := fun j hj => (List.mem_append.1 hj).elim (fun hj => (hk j hj).imp id Nat.le_of_lt) fun hj => .inr (by rw [List.mem_singleton.1 hj]; exact Nat.le_refl _)
    rw [← hN]
    generalize num l o i = N at *
    simp (maxSteps := 1000000) (implicitDefEqProofs := false) only [Int.lt_irrefl, List.length_map, shOb, mapOb, left18, encLots, natOb, nV, natV, nn, hf1, hs, List.isEmpty_cons, regN ho2 hi2, evNT_nil, evNT_cons, effN_true, effN_false, effN2_some, effN2_none, effX, effNew, effFreshed, effThaw, suppX, calmT, free, Eff.writes, supp, isBarX, Option.toList_some, Option.toList_none, reduceCtorEq, if_false, Try.ntmps18, Try.results18, efc18, fc18, ss, sd, zH, qG, zF, zG, St.get, qE, qF, qB, zC, norm, look, zE, qA, qI, St.alloc, St.drop, zA, part, zB, depth, qD, ↓reduceIte, Nat.reduceBEq, Nat.reduceAdd, Nat.reduceSub, Nat.reduceMul, Nat.reduceEqDiff, Nat.reduceLeDiff, Nat.reduceLT, qJ, qK, qL, qM, qN, qO, qP, qQ, qR, zI, qS, qC, qT, evSlice0, qV, qW, qX, qY, qZ, zJ, zK, zL, wit, Option.isSome_some, qH, xK, evPre, St.with, zD, Array.size, toldV, isIntV, orArr, offB, effFr, effFr2, effFr3, mapIn, restSame, sameO, eqW, eqWL, pickR, te, einl, inls, efr]
    exact ⟨ks1 ++ [i], _, hcond, rfl⟩
  · have hpm : p ∈ ps := by rw [hp]; simp
    have hlo := hea p hpm
    have hma := hpo.2 p hpm
    obtain ⟨q, hq⟩ : ∃ q : Nat, p.lot = q := ⟨p.lot.toNat, by omega⟩
    obtain ⟨m, hm⟩ : ∃ m : Nat, p.mass = m := ⟨p.mass.toNat, by omega⟩
    obtain ⟨pl, pm⟩ := p
    dsimp only at hq hm hlo hma
    subst hq hm
    have hqi : q < i := by omega
    obtain ⟨sl, c, ks2, hk2, k1⟩ := ih q hqi ks1
    have hterm : termN l o i ⟨(q : Int), (m : Int)⟩ = num l o q * m * seg l (q + 1) (i - (q + 1)) := by simp [termN]
    have hsum : sumN (termN l o i) (pre ++ [⟨(q : Int), (m : Int)⟩]) = sumN (termN l o i) pre + num l o q * m * seg l (q + 1) (i - (q + 1)) := by
      rw [sumN_app]; simp only [sumN, hterm]; omega
    have hle : sumN (termN l o i) (pre ++ [⟨(q : Int), (m : Int)⟩]) ≤ num l o i := by
      have hz : ∀ z : List Part, sumN (termN l o i) z ≤ sumN (termN l o i) (z ++ post) := fun z => by rw [sumN_app]; exact Nat.le_add_right _ _
      have e := hz (pre ++ [(⟨(q : Int), (m : Int)⟩ : Part)])
      rw [List.append_assoc pre] at e
      rw [hN, hp]
      exact e
    rw [hsum] at hle
    have hsp := seg_pos v (q + 1) (i - (q + 1)) (by omega)
    have hnm : num l o q * m ≤ num l o q * m * seg l (q + 1) (i - (q + 1)) := Nat.le_mul_of_pos_right _ hsp
    have hnq : num l o q ≤ num l o q * m := Nat.le_mul_of_pos_right _ (by omega)
    have d1 := k35 (num l o q) m (by omega) (by omega) (by omega)
    obtain ⟨sl2, d2⟩ := i32 g o (entK l o ks2) (num l o q * m) (q + 1) (i - (q + 1)) (by omega) (by omega) (by omega)
    rw [show q + 1 + (i - (q + 1)) = i by omega] at d2
    have d3 := k34 (sumN (termN l o i) pre) (num l o q * m * seg l (q + 1) (i - (q + 1))) (by omega) (by omega) (by omega)
    rw [← hsum] at d3
    have hcond : ∀ j ∈ ks2, j ∈ ks ∨ j < i := fun j hj => (hk2 j hj).elim (hk j) fun hj => .inr (by omega)
    have w1 : IntKind.i64.wrap ((q : Int) + 1) = ((q + 1 : Nat) : Int) := by have := v.len; rw [wrap_in (by omega)]; omega
    have el := eqWL_lots l
    generalize num l o q = Nq at *
    generalize Nq * m = Nm at *
    generalize Nm * seg l (q + 1) (i - (q + 1)) = Ns at *
    generalize sumN (termN l o i) pre = Sp at *
    generalize sumN (termN l o i) (pre ++ [⟨(q : Int), (m : Int)⟩]) = Sq at *
    generalize entK l o ks1 = K1 at *
    match c, k1 with
    | 0, k1 =>
      simp only [shSt, shOb, mapOb, left18, encLots, natOb, nV, natV] at k1 d1 d2 d3
      simp (maxSteps := 1000000) (implicitDefEqProofs := false) only [e1, e2, e3, e4, encPart, shOb, mapOb, encLots, natOb, nV, natV, nn, k1, d1, d2, d3, w1, el, beq_self_eq_true, Int.natCast_nonneg, Int.toNat_natCast, List.getElem?_map, List.length_map, List.isEmpty_cons, regN ho1 hi1, evNT_nil, evNT_cons, effN_true, effN_false, effN2_some, effN2_none, effX, effNew, effFreshed, effThaw, suppX, calmT, free, Eff.writes, supp, isBarX, Option.toList_some, Option.toList_none, reduceCtorEq, if_false, ss, sd, zH, qG, zF, zG, St.get, qE, qF, qB, zC, norm, look, zE, qA, qI, St.alloc, St.drop, zA, part, zB, depth, qD, ↓reduceIte, Nat.reduceBEq, Nat.reduceAdd, Nat.reduceSub, Nat.reduceMul, Nat.reduceEqDiff, Nat.reduceLeDiff, Nat.reduceLT, qJ, qK, qL, qM, qN, qO, qP, qQ, qR, zI, qS, qC, qT, evSlice0, qV, qW, qX, qY, qZ, zJ, zK, zL, wit, Option.isSome_some, qH, xK, evPre, St.with, zD, Array.size, toldV, isIntV, orArr, offB, effFr, effFr2, effFr3, mapIn, restSame, sameO, eqW, eqWL, pickR, te, einl, inls, efr]
      exact ⟨ks2, rfl, hcond⟩
    | 1, k1 =>
      simp only [shSt, shOb, mapOb, left18, zeroOb, ti54, encLots, natOb, nV, natV] at k1 d1 d2 d3
      simp (maxSteps := 1000000) (implicitDefEqProofs := false) only [e1, e2, e3, e4, encPart, shOb, mapOb, encLots, natOb, nV, natV, nn, k1, d1, d2, d3, w1, el, beq_self_eq_true, Int.natCast_nonneg, Int.toNat_natCast, List.getElem?_map, List.length_map, List.isEmpty_cons, regN ho1 hi1, evNT_nil, evNT_cons, effN_true, effN_false, effN2_some, effN2_none, effX, effNew, effFreshed, effThaw, suppX, calmT, free, Eff.writes, supp, isBarX, Option.toList_some, Option.toList_none, reduceCtorEq, if_false, ss, sd, zH, qG, zF, zG, St.get, qE, qF, qB, zC, norm, look, zE, qA, qI, St.alloc, St.drop, zA, part, zB, depth, qD, ↓reduceIte, Nat.reduceBEq, Nat.reduceAdd, Nat.reduceSub, Nat.reduceMul, Nat.reduceEqDiff, Nat.reduceLeDiff, Nat.reduceLT, qJ, qK, qL, qM, qN, qO, qP, qQ, qR, zI, qS, qC, qT, evSlice0, qV, qW, qX, qY, qZ, zJ, zK, zL, wit, Option.isSome_some, qH, xK, evPre, St.with, zD, Array.size, toldV, isIntV, orArr, offB, effFr, effFr2, effFr3, mapIn, restSame, sameO, eqW, eqWL, pickR, te, einl, inls, efr]
      exact ⟨ks2, rfl, hcond⟩
    | c + 2, k1 =>
      simp only [shSt, shOb, mapOb, left18, encLots, natOb, nV, natV] at k1 d1 d2 d3
      simp (maxSteps := 1000000) (implicitDefEqProofs := false) only [e1, e2, e3, e4, encPart, shOb, mapOb, encLots, natOb, nV, natV, nn, k1, d1, d2, d3, w1, el, beq_self_eq_true, Int.natCast_nonneg, Int.toNat_natCast, List.getElem?_map, List.length_map, List.isEmpty_cons, regN ho1 hi1, evNT_nil, evNT_cons, effN_true, effN_false, effN2_some, effN2_none, effX, effNew, effFreshed, effThaw, suppX, calmT, free, Eff.writes, supp, isBarX, Option.toList_some, Option.toList_none, reduceCtorEq, if_false, ss, sd, zH, qG, zF, zG, St.get, qE, qF, qB, zC, norm, look, zE, qA, qI, St.alloc, St.drop, zA, part, zB, depth, qD, ↓reduceIte, Nat.reduceBEq, Nat.reduceAdd, Nat.reduceSub, Nat.reduceMul, Nat.reduceEqDiff, Nat.reduceLeDiff, Nat.reduceLT, qJ, qK, qL, qM, qN, qO, qP, qQ, qR, zI, qS, qC, qT, evSlice0, qV, qW, qX, qY, qZ, zJ, zK, zL, wit, Option.isSome_some, qH, xK, evPre, St.with, zD, Array.size, toldV, isIntV, orArr, offB, effFr, effFr2, effFr3, mapIn, restSame, sameO, eqW, eqWL, pickR, te, einl, inls, efr]
      exact ⟨ks2, rfl, hcond⟩

theorem in_is (o : Nat) (ho : o < l.length) : ∀ (i : Nat), i < l.length → ∀ ks, InIs l o i ks := by
  intro i
  induction i using Nat.strongRecOn with
  | _ i ih =>
    intro hi ks
    by_cases h : i ∈ ks
    · exact in_known o i ks h
    rcases Nat.lt_trichotomy i o with h2 | h2 | h2
    · exact in_low o i ks h2 h
    · subst h2; exact in_self g i ks hi h
    · exact in_up g o i ks hi h2 h fun j hj ks => ih j hj (by omega) ks
end
end Go.AM.F

