/-
Lots: what is left, the error of a genealogy.
-/
import Derived.Test.YteocppddjlglbaaFLotB
set_option linter.unusedVariables false
set_option linter.unusedSimpArgs false
set_option maxRecDepth 20000

namespace Go.AM.F
open Go Go.AM Go.Proofs

def ints (n : Nat) (f : Nat → Int) : List V := (List.range n).map fun i => .int .i64 (f i)
def updF (f : Nat → Int) (k : Nat) (z : Int) : Nat → Int := fun i => if i = k then z else f i
theorem ints_len (n : Nat) (f : Nat → Int) : (ints n f).length = n := by simp [ints]
theorem ints_get {n k : Nat} (f : Nat → Int) (h : k < n) : (ints n f)[k]? = some (.int .i64 (f k)) := by simp [ints, h]
theorem ints_congr {n : Nat} {f g : Nat → Int} (h : ∀ i, i < n → f i = g i) : ints n f = ints n g := by
  unfold ints
  exact List.map_congr_left fun i hi => by rw [h i (List.mem_range.1 hi)]
theorem ints_set {n k : Nat} (f : Nat → Int) (z : Int) (h : k < n) : (ints n f).set k (.int .i64 z) = ints n (updF f k z) := by
  refine List.ext_getElem? fun j => ?_
  rw [List.getElem?_set, ints_len]
  by_cases hj : k = j
  · subst hj
    rw [if_pos rfl, if_pos h, ints_get _ h]
    simp [updF]
  · rw [if_neg hj]
    by_cases hjn : j < n
    · rw [ints_get _ hjn, ints_get _ hjn]
      simp only [updF]
      rw [if_neg (by omega)]
    · rw [List.getElem?_eq_none (by rw [ints_len]; omega), List.getElem?_eq_none (by rw [ints_len]; omega)]
theorem ints_take (n : Nat) (f : Nat → Int) : List.take n (ints n f) = ints n f := List.take_of_length_le (by rw [ints_len]; exact Nat.le_refl _)
theorem ints_zero (n : Nat) : List.replicate n (V.int .i64 0) = ints n fun _ => 0 := by
  unfold ints
  induction n with
  | zero => rfl
  | succ n ih => rw [List.replicate_succ', ih, List.range_succ, List.map_append]; rfl

def intsOb (n : Nat) (f : Nat → Int) : Ob := { es := 1, flat := true, t := true, app := true, elems := ints n f }

theorem okT22 : okCode (Try.f22.body.getD .skip) = true := by decide +kernel
set_option maxHeartbeats 8000000 in
theorem c22 (l : List Lot) (v : Sane l) : (orcω E X0).call 22 [encLots l] = some (.sl true (ints l.length (leftF l))) := by
  refine call_of rfl fn22 rfl ?_
  have hok := okT22
  simp only [Try.f22, Option.getD_some, okCode, Bool.and_eq_true, Bool.and_true, Bool.true_and] at hok
  have hl := v.len
  have hroom : roomy l.length 8 = true := by simp [roomy]; omega
  have hnn : (0 : Int) ≤ l.length ∧ (l.length : Int) ≤ 4294967296 := by omega
  have hpo : ∀ x ∈ l, PartsOk x.parts := fun x hx => by
    obtain ⟨i, hi, rfl⟩ := List.mem_iff_getElem.1 hx
    exact (partsE_ok (lotE_parts (v.lots i hi)).1).1
  simp (maxSteps := 1000000) (implicitDefEqProofs := false) only [encLots, List.length_map, hroom, hnn.1, hnn.2, Int.toNat_natCast, ints_zero, Try.ntmps22, Try.results22, efc22, fc22, ss, sd, zH, qG, zF, zG, St.get, qE, qF, qB, zC, norm, look, zE, qA, qI, St.alloc, St.drop, zA, part, zB, depth, qD, ↓reduceIte, Nat.reduceBEq, Nat.reduceAdd, Nat.reduceSub, Nat.reduceMul, Nat.reduceEqDiff, Nat.reduceLeDiff, Nat.reduceLT, qJ, qK, qL, qM, qN, qO, qP, qQ, qR, zI, qS, qC, qT, evSlice0, qV, qW, qX, qY, qZ, zJ, zK, zL, wit, Option.isSome_some, qH, xK, evPre, St.with, zD, Array.size, toldV, isIntV, orArr, offB, effFr, effFr2, effFr3, mapIn, restSame, sameO, eqW, eqWL, pickR, te, einl, inls, efr]
  generalize hr : loopAt _ _ _ _ _ _ = r; revert r
  refine loop_list l (fun pre _ => [(13, .int .i64 pre.length)]) (fun _ g => [(3, intsOb l.length g)]) (fun pre (g : Nat → Int) => ∀ i, i < l.length → g i = (if i < pre.length then (lotAt l i).mass else 0) - sumTk i pre) (fun _ => 0) (by omega) (by simp (maxSteps := 1000000) (implicitDefEqProofs := false) only [intsOb, ss, sd, zH, qG, zF, zG, St.get, qE, qF, qB, zC, norm, look, zE, qA, qI, St.alloc, St.drop, zA, part, zB, depth, qD, ↓reduceIte, Nat.reduceBEq, Nat.reduceAdd, Nat.reduceSub, Nat.reduceMul, Nat.reduceEqDiff, Nat.reduceLeDiff, Nat.reduceLT, qJ, qK, qL, qM, qN, qO, qP, qQ, qR, zI, qS, qC, qT, evSlice0, qV, qW, qX, qY, qZ, zJ, zK, zL, wit, Option.isSome_some, qH, xK, evPre, St.with, zD, Array.size, toldV, isIntV, orArr, offB, effFr, effFr2, effFr3, mapIn, restSame, sameO, eqW, eqWL, pickR, te, einl, inls, efr]) (fun i _ => by simp [sumTk]) (fun g hg => ?_) (fun pre x post g hx hg g1 g2 g3 g4 => ?_)
  · have e1 : ints l.length g = ints l.length (leftF l) := ints_congr fun i hi => by rw [hg i hi, if_pos hi]; rfl
    simp (maxSteps := 1000000) (implicitDefEqProofs := false) only [Int.lt_irrefl, intsOb, e1, List.length_map, ints_len, ints_take, Nat.le_refl, Try.ntmps22, Try.results22, efc22, fc22, ss, sd, zH, qG, zF, zG, St.get, qE, qF, qB, zC, norm, look, zE, qA, qI, St.alloc, St.drop, zA, part, zB, depth, qD, ↓reduceIte, Nat.reduceBEq, Nat.reduceAdd, Nat.reduceSub, Nat.reduceMul, Nat.reduceEqDiff, Nat.reduceLeDiff, Nat.reduceLT, qJ, qK, qL, qM, qN, qO, qP, qQ, qR, zI, qS, qC, qT, evSlice0, qV, qW, qX, qY, qZ, zJ, zK, zL, wit, Option.isSome_some, qH, xK, evPre, St.with, zD, Array.size, toldV, isIntV, orArr, offB, effFr, effFr2, effFr3, mapIn, restSame, sameO, eqW, eqWL, pickR, te, einl, inls, efr]
  · have hlen : pre.length < l.length := by rw [hx]; simp
    have hxk : l[pre.length] = x := by
      have := congrArg (fun z => z[pre.length]?) hx
      simp only [List.getElem?_eq_getElem hlen, List.getElem?_append_right (Nat.le_refl _), Nat.sub_self, List.getElem?_cons_zero, Option.some.injEq] at this
      exact this
    have hat : (lotAt l pre.length).mass = x.mass := by
      unfold lotAt
      rw [Int.toNat_natCast, List.getD_eq_getElem?_getD, List.getElem?_eq_getElem hlen, hxk]; rfl
    have hok1 := lotE_parts (v.lots pre.length hlen)
    rw [hxk] at hok1
    obtain ⟨hx1, hx2⟩ := partsE_ok hok1.1
    have hpre : ∀ y ∈ pre, PartsOk y.parts := fun y hy => hpo y (by rw [hx]; simp [hy])
    have hz : sumTk pre.length pre = 0 := by
      have : ∀ (q : List Lot) (o : Nat), (∀ j, (h : j < q.length) → ∀ p ∈ q[j].parts, p.lot < pre.length) → sumTk pre.length q = 0 := by
        intro q
        induction q with
        | nil => intro o _; rfl
        | cons y q ih =>
          intro o h
          simp only [sumTk]
          have h0 := tkP_zero (i := pre.length) (ps := y.parts) (h 0 (by simp))
          rw [ih 0 fun j hj => h (j + 1) (by simpa using hj), h0]; rfl
      refine this pre 0 fun j hj p hp => ?_
      have hj' : j < l.length := by omega
      have hjx : l[j] = pre[j] := by
        have := congrArg (fun z => z[j]?) hx
        simp only [List.getElem?_eq_getElem hj', List.getElem?_append_left hj, List.getElem?_eq_getElem hj, Option.some.injEq] at this
        exact this
      have := (partsE_ok (lotE_parts (v.lots j hj')).1).2 p (by rw [hjx]; exact hp)
      omega
    obtain ⟨k, m, ps⟩ := x
    dsimp only at hx1 hx2 hat hok1
    have g5 := ints_get g hlen
    have g6 := ints_set g m hlen
    simp (maxSteps := 1000000) (implicitDefEqProofs := false) only [g1, g2, g3, g4, g5, g6, encLot, intsOb, Int.natCast_nonneg, Int.toNat_natCast, List.getElem?_map, List.length_map, ss, sd, zH, qG, zF, zG, St.get, qE, qF, qB, zC, norm, look, zE, qA, qI, St.alloc, St.drop, zA, part, zB, depth, qD, ↓reduceIte, Nat.reduceBEq, Nat.reduceAdd, Nat.reduceSub, Nat.reduceMul, Nat.reduceEqDiff, Nat.reduceLeDiff, Nat.reduceLT, qJ, qK, qL, qM, qN, qO, qP, qQ, qR, zI, qS, qC, qT, evSlice0, qV, qW, qX, qY, qZ, zJ, zK, zL, wit, Option.isSome_some, qH, xK, evPre, St.with, zD, Array.size, toldV, isIntV, orArr, offB, effFr, effFr2, effFr3, mapIn, restSame, sameO, eqW, eqWL, pickR, te, einl, inls, efr]
    generalize hr : loopAt _ _ _ _ _ _ = r; revert r
    refine loop_list ps (fun pr _ => [(26, .int .i64 pr.length)]) (fun _ h => [(3, intsOb l.length h)]) (fun pr (h : Nat → Int) => ∀ i, i < l.length → h i = (if i < pre.length + 1 then (lotAt l i).mass else 0) - sumTk i pre - tkP i pr) (updF g pre.length m) (by have := hx1.1; omega) (by simp (maxSteps := 1000000) (implicitDefEqProofs := false) only [intsOb, ss, sd, zH, qG, zF, zG, St.get, qE, qF, qB, zC, norm, look, zE, qA, qI, St.alloc, St.drop, zA, part, zB, depth, qD, ↓reduceIte, Nat.reduceBEq, Nat.reduceAdd, Nat.reduceSub, Nat.reduceMul, Nat.reduceEqDiff, Nat.reduceLeDiff, Nat.reduceLT, qJ, qK, qL, qM, qN, qO, qP, qQ, qR, zI, qS, qC, qT, evSlice0, qV, qW, qX, qY, qZ, zJ, zK, zL, wit, Option.isSome_some, qH, xK, evPre, St.with, zD, Array.size, toldV, isIntV, orArr, offB, effFr, effFr2, effFr3, mapIn, restSame, sameO, eqW, eqWL, pickR, te, einl, inls, efr]) (fun i hi => ?_) (fun h hh => ?_) (fun pr p po h hp hh e1 e2 e3 e4 => ?_)
    · simp only [tkP, updF]
      by_cases hi2 : i = pre.length
      · rw [if_pos hi2, if_pos (by omega), hi2, hz, hat]; omega
      · rw [if_neg hi2, hg i hi]
        by_cases hi3 : i < pre.length
        · rw [if_pos hi3, if_pos (by omega)]; omega
        · rw [if_neg hi3, if_neg (by omega)]; omega
    · simp (maxSteps := 1000000) (implicitDefEqProofs := false) only [Int.lt_irrefl, intsOb, g1, g2, g3, g4, List.length_map, ss, sd, zH, qG, zF, zG, St.get, qE, qF, qB, zC, norm, look, zE, qA, qI, St.alloc, St.drop, zA, part, zB, depth, qD, ↓reduceIte, Nat.reduceBEq, Nat.reduceAdd, Nat.reduceSub, Nat.reduceMul, Nat.reduceEqDiff, Nat.reduceLeDiff, Nat.reduceLT, qJ, qK, qL, qM, qN, qO, qP, qQ, qR, zI, qS, qC, qT, evSlice0, qV, qW, qX, qY, qZ, zJ, zK, zL, wit, Option.isSome_some, qH, xK, evPre, St.with, zD, Array.size, toldV, isIntV, orArr, offB, effFr, effFr2, effFr3, mapIn, restSame, sameO, eqW, eqWL, pickR, te, einl, inls, efr]
      refine ⟨h, rfl, fun i hi => ?_⟩
      rw [hh i hi, sumTk_app]
      simp only [List.length_append, List.length_singleton, sumTk]
      omega
    · have hpm : p ∈ ps := by rw [hp]; simp
      have hlo := hx2 p hpm
      have hma := hx1.2 p hpm
      obtain ⟨q, hq⟩ : ∃ q : Nat, p.lot = q := ⟨p.lot.toNat, by omega⟩
      have hql : q < l.length := by omega
      obtain ⟨pl, pm⟩ := p
      dsimp only at hq hlo hma
      subst hq
      have hql' : (q : Int) < l.length := by omega
      have b1 := sumTk_le q hpre
      have b2 := tkP_le q (ps := pr) fun z hz => hx1.2 z (by rw [hp]; simp [hz])
      have b3 : pr.length ≤ 6 := by have := congrArg List.length hp; have := hx1.1; simp at *; omega
      have b4 : 0 ≤ (lotAt l q).mass ∧ (lotAt l q).mass ≤ 100000 := by
        have := lotE_parts (v.lots q hql)
        unfold lotAt
        rw [Int.toNat_natCast, List.getD_eq_getElem?_getD, List.getElem?_eq_getElem hql]
        dsimp only [Option.getD_some]
        omega
      have b5 := hh q hql
      have w1 : IntKind.i64.wrap (h q - pm) = h q - pm := by
        refine wrap_in ?_
        split at b5 <;> omega
      have g7 := ints_get h hql
      have g8 := ints_set h (h q - pm) hql
      simp (maxSteps := 1000000) (implicitDefEqProofs := false) only [e1, e2, e3, e4, g7, g8, w1, hql', evRegion_st hok, encPart, intsOb, Int.natCast_nonneg, Int.toNat_natCast, List.getElem?_map, List.length_map, ss, sd, zH, qG, zF, zG, St.get, qE, qF, qB, zC, norm, look, zE, qA, qI, St.alloc, St.drop, zA, part, zB, depth, qD, ↓reduceIte, Nat.reduceBEq, Nat.reduceAdd, Nat.reduceSub, Nat.reduceMul, Nat.reduceEqDiff, Nat.reduceLeDiff, Nat.reduceLT, qJ, qK, qL, qM, qN, qO, qP, qQ, qR, zI, qS, qC, qT, evSlice0, qV, qW, qX, qY, qZ, zJ, zK, zL, wit, Option.isSome_some, qH, xK, evPre, St.with, zD, Array.size, toldV, isIntV, orArr, offB, effFr, effFr2, effFr3, mapIn, restSame, sameO, eqW, eqWL, pickR, te, einl, inls, efr]
      refine ⟨_, rfl, fun i hi => ?_⟩
      rw [tkP_app]
      simp only [updF, tkP]
      by_cases hi2 : i = q
      · subst hi2
        rw [if_pos rfl, if_pos rfl, b5]; omega
      · have hi3 : ¬ ((q : Int) = (i : Int)) := by omega
        rw [if_neg hi2, if_neg hi3, hh i hi]; omega
end Go.AM.F

