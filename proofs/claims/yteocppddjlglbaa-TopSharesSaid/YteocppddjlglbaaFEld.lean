/-
The lots that are in a lot (lot.elders) and the received ones among them (lot.Sources).
-/
import Derived.Test.YteocppddjlglbaaFLotD
import Derived.Test.YteocppddjlglbaaFShareP
set_option linter.unusedVariables false
set_option linter.unusedSimpArgs false
set_option maxRecDepth 20000

namespace Go.AM.F
open Go Go.AM Go.Proofs

def bls (n : Nat) (f : Nat → Bool) : List V := (List.range n).map fun i => .bool (f i)
def updB (f : Nat → Bool) (k : Nat) : Nat → Bool := fun i => if i = k then true else f i
theorem bls_len (n : Nat) (f : Nat → Bool) : (bls n f).length = n := by simp [bls]
theorem bls_get {n k : Nat} (f : Nat → Bool) (h : k < n) : (bls n f)[k]? = some (.bool (f k)) := by simp [bls, h]
theorem bls_set {n k : Nat} (f : Nat → Bool) (h : k < n) : (bls n f).set k (.bool true) = bls n (updB f k) := by
  refine List.ext_getElem? fun j => ?_
  rw [List.getElem?_set, bls_len]
  by_cases hj : k = j
  · subst hj
    rw [if_pos rfl, if_pos h, bls_get _ h]
    simp [updB]
  · rw [if_neg hj]
    by_cases hjn : j < n
    · rw [bls_get _ hjn, bls_get _ hjn]
      simp only [updB]
      rw [if_neg (by omega)]
    · rw [List.getElem?_eq_none (by rw [bls_len]; omega), List.getElem?_eq_none (by rw [bls_len]; omega)]
theorem bls_take (n : Nat) (f : Nat → Bool) : List.take n (bls n f) = bls n f := List.take_of_length_le (by rw [bls_len]; exact Nat.le_refl _)
theorem bls_zero (n : Nat) : List.replicate n (V.bool false) = bls n fun _ => false := by
  unfold bls
  induction n with
  | zero => rfl
  | succ n ih => rw [List.replicate_succ', ih, List.range_succ, List.map_append]; rfl

theorem bls_ne {n : Nat} (f : Nat → Bool) (h : 0 < n) : (bls n f).isEmpty = false := by
  cases hb : bls n f with
  | nil => have := bls_len n f; rw [hb] at this; simp at this; omega
  | cons a r => rfl

def witE : List V := [.ptr 5 0 0, .ptr 2 0 0, .ptr 6 0 0, .ptr 11 0 0, .ptr 5 0 0, .ptr 2 0 0, .ptr 6 0 0, .ptr 11 0 0, .ptr 5 0 0, .ptr 2 0 0, .ptr 6 0 0, .ptr 11 0 0, .ptr 5 0 0, .ptr 2 0 0, .ptr 6 0 0, .ptr 11 0 0, .ptr 5 0 0, .ptr 2 0 0, .ptr 6 0 0, .ptr 11 0 0, .ptr 5 0 0, .ptr 2 0 0, .ptr 6 0 0, .ptr 11 0 0, .ptr 5 0 0, .ptr 2 0 0, .ptr 6 0 0]
def ob2 (l : List Lot) : Ob := { es := 1, flat := true, t := false, app := false, elems := [.sl false (l.map encLot)] }
def ob5 (n : Nat) : Ob := { es := 1, flat := false, t := true, app := false, elems := [.own 11 0 n] }
def obC : Ob := { es := 1, flat := false, t := true, app := false, elems := [.clo 41 [] [.ptr 5 0 0, .ptr 2 0 0, .ptr 6 0 0]] }
def obB (n : Nat) (f : Nat → Bool) : Ob := { es := 1, flat := true, t := true, app := false, elems := bls n f }
def eldObs (l : List Lot) (f : Nat → Bool) : List (Nat × Ob) := [(2, ob2 l), (5, ob5 l.length), (6, obC), (11, obB l.length f)]
def eldSt (l : List Lot) (f : Nat → Bool) : St := { slots := [], outer := [witE], objs := eldObs l f }

structure Visited (l : List Lot) (i : Nat) (f f' : Nat → Bool) : Prop where
  keep : ∀ j, f j = true → f' j = true
  self : f' i = true
  parts : ∀ j, j < l.length → f' j = true → f j = false → ∀ p ∈ (lotN l j).parts, f' p.lot.toNat = true
def EldIs (l : List Lot) (i : Nat) (f : Nat → Bool) : Prop := ∃ (sl : List V) (f' : Nat → Bool), Visited l i f f' ∧
  (orcω E X0).inl 1000 41 [.int .i64 (i : Int), .ptr 5 0 0, .ptr 2 0 0, .ptr 6 0 0] (eldSt l f) = some (.tup [], { slots := sl, outer := [witE], objs := eldObs l f' })

set_option maxHeartbeats 16000000 in
theorem eld_is {l : List Lot} (v : Valid l) : ∀ (i : Nat), i < l.length → ∀ f, EldIs l i f := by
  intro i
  induction i using Nat.strongRecOn with
  | _ i ih =>
    intro hi f
    have hi' : (i : Int) < l.length := by omega
    have g1 := bls_get f hi
    have g2 := lots_get hi
    have hpo := v.parts hi
    have hea := v.earlier hi
    have hne := fun f => bls_ne (n := l.length) f (by omega)
    have hlot := lotN_at hi
    refine (fun h : ∃ (f' : Nat → Bool) (sl : List V), Visited l i f f' ∧ _ = some ((.tup [] : V), ({ slots := sl, outer := [witE], objs := eldObs l f' } : St)) => h.elim fun f' h => h.elim fun sl h => ⟨sl, f', h.1, inl_of rfl fn41 rfl h.2⟩) ?_
    by_cases hf : f i = true
    · rw [hf] at g1
      simp (maxSteps := 1000000) (implicitDefEqProofs := false) only [eldSt, eldObs, ob2, ob5, obC, obB, witE, hi', g1, bls_len, Int.natCast_nonneg, Int.toNat_natCast, Try.ntmps41, Try.results41, efc41, fc41, ss, sd, zH, qG, zF, zG, St.get, qE, qF, qB, zC, norm, look, zE, qA, qI, St.alloc, St.drop, zA, part, zB, depth, qD, ↓reduceIte, Nat.reduceBEq, Nat.reduceAdd, Nat.reduceSub, Nat.reduceMul, Nat.reduceEqDiff, Nat.reduceLeDiff, Nat.reduceLT, qJ, qK, qL, qM, qN, qO, qP, qQ, qR, zI, qS, qC, qT, evSlice0, qV, qW, qX, qY, qZ, zJ, zK, zL, wit, Option.isSome_some, qH, xK, evPre, St.with, zD, Array.size, toldV, isIntV, orArr, offB, effFr, effFr2, effFr3, mapIn, restSame, sameO, eqW, eqWL, pickR, te, einl, inls, efr]
      exact ⟨f, _, ⟨fun _ h => h, hf, fun j _ h1 h2 => by rw [h1] at h2; cases h2⟩, rfl⟩
    · have hf' : f i = false := by simpa using hf
      rw [hf'] at g1
      have g3 := bls_set f hi
      generalize l[i] = x at *
      obtain ⟨xk, xm, ps⟩ := x
      dsimp only at hpo hea
      simp (maxSteps := 1000000) (implicitDefEqProofs := false) only [eldSt, eldObs, ob2, ob5, obC, obB, witE, hi', g1, g2, g3, encLot, bls_len, Int.natCast_nonneg, Int.toNat_natCast, List.length_map, Try.ntmps41, Try.results41, efc41, fc41, ss, sd, zH, qG, zF, zG, St.get, qE, qF, qB, zC, norm, look, zE, qA, qI, St.alloc, St.drop, zA, part, zB, depth, qD, ↓reduceIte, Nat.reduceBEq, Nat.reduceAdd, Nat.reduceSub, Nat.reduceMul, Nat.reduceEqDiff, Nat.reduceLeDiff, Nat.reduceLT, qJ, qK, qL, qM, qN, qO, qP, qQ, qR, zI, qS, qC, qT, evSlice0, qV, qW, qX, qY, qZ, zJ, zK, zL, wit, Option.isSome_some, qH, xK, evPre, St.with, zD, Array.size, toldV, isIntV, orArr, offB, effFr, effFr2, effFr3, mapIn, restSame, sameO, eqW, eqWL, pickR, te, einl, inls, efr]
      generalize hr : loopAt _ _ _ _ _ _ = r; revert r
      refine loop_list ps (fun pre _ => [(20, .int .i64 pre.length)]) (fun _ h => [(11, obB l.length h)]) (fun pre (h : Nat → Bool) => (∀ j, f j = true → h j = true) ∧ h i = true ∧ (∀ p ∈ pre, h p.lot.toNat = true) ∧ (∀ j, j < l.length → j ≠ i → h j = true → f j = false → ∀ p ∈ (lotN l j).parts, h p.lot.toNat = true)) (updB f i) (by have := hpo.1; omega) (by simp (maxSteps := 1000000) (implicitDefEqProofs := false) only [obB, ss, sd, zH, qG, zF, zG, St.get, qE, qF, qB, zC, norm, look, zE, qA, qI, St.alloc, St.drop, zA, part, zB, depth, qD, ↓reduceIte, Nat.reduceBEq, Nat.reduceAdd, Nat.reduceSub, Nat.reduceMul, Nat.reduceEqDiff, Nat.reduceLeDiff, Nat.reduceLT, qJ, qK, qL, qM, qN, qO, qP, qQ, qR, zI, qS, qC, qT, evSlice0, qV, qW, qX, qY, qZ, zJ, zK, zL, wit, Option.isSome_some, qH, xK, evPre, St.with, zD, Array.size, toldV, isIntV, orArr, offB, effFr, effFr2, effFr3, mapIn, restSame, sameO, eqW, eqWL, pickR, te, einl, inls, efr]) ⟨fun j hj => by simp [updB, hj], by simp [updB], (fun p hp => by cases hp), (fun j hj hji h1 h2 => by simp [updB, hji, h2] at h1)⟩ (fun h hh => ?_) (fun pre p post h hp hh e1 e2 e3 e4 => ?_)
      · simp (maxSteps := 1000000) (implicitDefEqProofs := false) only [Int.lt_irrefl, obB, List.length_map, Try.ntmps41, Try.results41, efc41, fc41, ss, sd, zH, qG, zF, zG, St.get, qE, qF, qB, zC, norm, look, zE, qA, qI, St.alloc, St.drop, zA, part, zB, depth, qD, ↓reduceIte, Nat.reduceBEq, Nat.reduceAdd, Nat.reduceSub, Nat.reduceMul, Nat.reduceEqDiff, Nat.reduceLeDiff, Nat.reduceLT, qJ, qK, qL, qM, qN, qO, qP, qQ, qR, zI, qS, qC, qT, evSlice0, qV, qW, qX, qY, qZ, zJ, zK, zL, wit, Option.isSome_some, qH, xK, evPre, St.with, zD, Array.size, toldV, isIntV, orArr, offB, effFr, effFr2, effFr3, mapIn, restSame, sameO, eqW, eqWL, pickR, te, einl, inls, efr]
        refine ⟨h, _, ⟨hh.1, hh.2.1, fun j hj h1 h2 => ?_⟩, rfl⟩
        by_cases hji : j = i
        · subst hji; rw [hlot]; exact hh.2.2.1
        · exact hh.2.2.2 j hj hji h1 h2
      · have hpm : p ∈ ps := by rw [hp]; simp
        have hlo := hea p hpm
        obtain ⟨q, hq⟩ : ∃ q : Nat, p.lot = q := ⟨p.lot.toNat, by omega⟩
        obtain ⟨pl, pm⟩ := p
        dsimp only at hq hlo
        subst hq
        obtain ⟨sl, f', hv, k1⟩ := ih q (by omega) (by omega) h
        simp only [eldSt, eldObs, ob2, ob5, obC, obB, witE] at k1
        simp (maxSteps := 1000000) (implicitDefEqProofs := false) only [e1, e2, e3, e4, k1, hne, obB, witE, encPart, List.isEmpty_cons, Int.natCast_nonneg, Int.toNat_natCast, List.getElem?_map, List.length_map, ss, sd, zH, qG, zF, zG, St.get, qE, qF, qB, zC, norm, look, zE, qA, qI, St.alloc, St.drop, zA, part, zB, depth, qD, ↓reduceIte, Nat.reduceBEq, Nat.reduceAdd, Nat.reduceSub, Nat.reduceMul, Nat.reduceEqDiff, Nat.reduceLeDiff, Nat.reduceLT, qJ, qK, qL, qM, qN, qO, qP, qQ, qR, zI, qS, qC, qT, evSlice0, qV, qW, qX, qY, qZ, zJ, zK, zL, wit, Option.isSome_some, qH, xK, evPre, St.with, zD, Array.size, toldV, isIntV, orArr, offB, effFr, effFr2, effFr3, mapIn, restSame, sameO, eqW, eqWL, pickR, te, einl, inls, efr]
        refine ⟨f', rfl, fun j hj => hv.keep j (hh.1 j hj), hv.keep i hh.2.1, fun p hp => ?_, fun j hj hji h1 h2 p hp => ?_⟩
        · rcases List.mem_append.1 hp with hp | hp
          · exact hv.keep _ (hh.2.2.1 p hp)
          · rw [List.mem_singleton.1 hp]; exact hv.self
        · cases hj2 : h j with
          | true => exact hv.keep _ (hh.2.2.2 j hj hji hj2 h2 p hp)
          | false => exact hv.parts j hj h1 hj2 p hp
theorem i1 : ((1 : Nat) : Int) = 1 := rfl
structure Elders (l : List Lot) (i : Nat) (f : Nat → Bool) : Prop where
  self : f i = true
  parts : ∀ j, j < l.length → f j = true → ∀ p ∈ (lotN l j).parts, f p.lot.toNat = true
set_option maxHeartbeats 16000000 in
theorem c25 {l : List Lot} (g : Good l) (i : Nat) (hi : i < l.length) : ∃ f, Elders l i f ∧ (orcω E X0).call 25 [encLots l, .sl false [.int .i64 (i : Int)]] = some (.sl true (bls l.length f)) := by
  obtain ⟨sl, f, hv, k1⟩ := eld_is g.v i hi fun _ => false
  refine ⟨f, ⟨hv.self, fun j hj hf => hv.parts j hj hf rfl⟩, ?_⟩
  refine call_of rfl fn25 rfl ?_
  have hl := g.v.len
  have hroom : roomy l.length 1 = true := by simp [roomy]; omega
  have hnn : (0 : Int) ≤ l.length ∧ (l.length : Int) ≤ 4294967296 := by omega
  have hne := fun f => bls_ne (n := l.length) f (by omega)
  simp only [eldSt, eldObs, ob2, ob5, obC, obB, witE] at k1
  simp (maxSteps := 1000000) (implicitDefEqProofs := false) only [encLots, List.length_map, hroom, hnn.1, hnn.2, Int.toNat_natCast, bls_zero, Try.ntmps25, Try.results25, efc25, fc25, ss, sd, zH, qG, zF, zG, St.get, qE, qF, qB, zC, norm, look, zE, qA, qI, St.alloc, St.drop, zA, part, zB, depth, qD, ↓reduceIte, Nat.reduceBEq, Nat.reduceAdd, Nat.reduceSub, Nat.reduceMul, Nat.reduceEqDiff, Nat.reduceLeDiff, Nat.reduceLT, qJ, qK, qL, qM, qN, qO, qP, qQ, qR, zI, qS, qC, qT, evSlice0, qV, qW, qX, qY, qZ, zJ, zK, zL, wit, Option.isSome_some, qH, xK, evPre, St.with, zD, Array.size, toldV, isIntV, orArr, offB, effFr, effFr2, effFr3, mapIn, restSame, sameO, eqW, eqWL, pickR, te, einl, inls, efr]
  generalize hr : loopAt _ _ _ _ _ _ = r; revert r
  refine loop_inv (ι := Bool) (fun b => [(15, .int .i64 (if b = true then 0 else 1))]) (fun b => [(11, obB l.length (if b = true then fun _ => false else f))]) (fun b => if b = true then 1 else 0) true (by simp (maxSteps := 1000000) (implicitDefEqProofs := false) only [obB, if_true, ss, sd, zH, qG, zF, zG, St.get, qE, qF, qB, zC, norm, look, zE, qA, qI, St.alloc, St.drop, zA, part, zB, depth, qD, ↓reduceIte, Nat.reduceBEq, Nat.reduceAdd, Nat.reduceSub, Nat.reduceMul, Nat.reduceEqDiff, Nat.reduceLeDiff, Nat.reduceLT, qJ, qK, qL, qM, qN, qO, qP, qQ, qR, zI, qS, qC, qT, evSlice0, qV, qW, qX, qY, qZ, zJ, zK, zL, wit, Option.isSome_some, qH, xK, evPre, St.with, zD, Array.size, toldV, isIntV, orArr, offB, effFr, effFr2, effFr3, mapIn, restSame, sameO, eqW, eqWL, pickR, te, einl, inls, efr]) ?_
  have q4 : (0 : Int) < 1 := by decide
  have q5 : IntKind.i64.wrap (0 + 1) = 1 := by decide
  rintro (b | b)
  · simp (maxSteps := 1000000) (implicitDefEqProofs := false) only [i1, Int.lt_irrefl, obB, Bool.false_eq_true, if_false, bls_len, bls_take, Nat.le_refl, Try.ntmps25, Try.results25, efc25, fc25, ss, sd, zH, qG, zF, zG, St.get, qE, qF, qB, zC, norm, look, zE, qA, qI, St.alloc, St.drop, zA, part, zB, depth, qD, ↓reduceIte, Nat.reduceBEq, Nat.reduceAdd, Nat.reduceSub, Nat.reduceMul, Nat.reduceEqDiff, Nat.reduceLeDiff, Nat.reduceLT, qJ, qK, qL, qM, qN, qO, qP, qQ, qR, zI, qS, qC, qT, evSlice0, qV, qW, qX, qY, qZ, zJ, zK, zL, wit, Option.isSome_some, qH, xK, evPre, St.with, zD, Array.size, toldV, isIntV, orArr, offB, effFr, effFr2, effFr3, mapIn, restSame, sameO, eqW, eqWL, pickR, te, einl, inls, efr]
    done
  · simp (maxSteps := 1000000) (implicitDefEqProofs := false) only [i1, q4, q5, obB, if_true, k1, hne, List.isEmpty_cons, Int.le_refl, Int.toNat_zero, List.getElem?_cons_zero, Nat.zero_add, Int.natCast_nonneg, Int.toNat_natCast, List.length_map, List.map_cons, List.map_nil, ss, sd, zH, qG, zF, zG, St.get, qE, qF, qB, zC, norm, look, zE, qA, qI, St.alloc, St.drop, zA, part, zB, depth, qD, ↓reduceIte, Nat.reduceBEq, Nat.reduceAdd, Nat.reduceSub, Nat.reduceMul, Nat.reduceEqDiff, Nat.reduceLeDiff, Nat.reduceLT, qJ, qK, qL, qM, qN, qO, qP, qQ, qR, zI, qS, qC, qT, evSlice0, qV, qW, qX, qY, qZ, zJ, zK, zL, wit, Option.isSome_some, qH, xK, evPre, St.with, zD, Array.size, toldV, isIntV, orArr, offB, effFr, effFr2, effFr3, mapIn, restSame, sameO, eqW, eqWL, pickR, te, einl, inls, efr]
    exact ⟨false, rfl, by decide⟩
end Go.AM.F

