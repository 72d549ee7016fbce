/-
Shares by paths (the statement's byPaths).
-/
import Derived.Test.YteocppddjlglbaaFShareB
import Derived.Test.YteocppddjlglbaaFFracP
import Derived.Test.YteocppddjlglbaaAmBad
set_option linter.unusedVariables false
set_option linter.unusedSimpArgs false
set_option maxRecDepth 20000

namespace Go.AM.F
open Go Go.AM Go.Proofs

def stepOb (s : Int) : Ob := { es := 1, flat := true, t := true, app := false, elems := [.int .i64 s] }
def ratOb (r : Nat × Nat) : Ob := { es := 2, flat := true, t := true, app := false, elems := [ratV r.1 r.2] }
def pathSt (s : Int) : St := { slots := [], outer := [[.ptr 7 0 0]], objs := [(7, stepOb s)] }
def leftP (c : Nat) (s : Int) (r x y z u : Nat × Nat) : List (Nat × Ob) := match c with
  | 0 => [(7, stepOb s), (1008, ratOb r)]
  | 1 => [(7, stepOb s), (1008, ratOb r), (1010, ratOb r)]
  | _ => [(7, stepOb s), (1008, ratOb r), (1010, ratOb r), (1012, ratOb x), (1014, ratOb y), (1016, ratOb z), (1018, ratOb u)]
def PathIs (l : List Lot) (o i : Nat) (s : Int) : Prop := ∃ (sl : List V) (c : Nat) (r x y z u : Nat × Nat) (ok : Bool) (s' : Int), SmallN r ∧ (0 ≤ s' ∧ s' ≤ s) ∧ (ok = true → validN r.1 r.2 = true ∧ Fr r (num l o i) (seg l 0 (i + 1))) ∧
  (orcω E X0).inl 1000 7 [encLots l, .int .i64 (o : Int), .int .i64 (i : Int), .ptr 7 0 0] (pathSt s) = some (.tup [ratV r.1 r.2, .bool ok], { slots := sl, outer := [[.ptr 7 0 0]], objs := leftP c s' r x y z u })
theorem path_of {l : List Lot} {o i : Nat} {s : Int} (h : ∃ (sl : List V) (c : Nat) (r x y z u : Nat × Nat) (ok : Bool) (s' : Int), (SmallN r ∧ (0 ≤ s' ∧ s' ≤ s) ∧ (ok = true → validN r.1 r.2 = true ∧ Fr r (num l o i) (seg l 0 (i + 1)))) ∧
    atEnd E Try.f7 (den E X0 (E.fc 7) 1000 (Try.f7.body.getD .skip) { (pathSt s) with slots := [encLots l, .int .i64 (o : Int), .int .i64 (i : Int), .ptr 7 0 0] ++ List.replicate (Try.f7.ntmps - 4) .und }) = some (.tup [ratV r.1 r.2, .bool ok], { slots := sl, outer := [[.ptr 7 0 0]], objs := leftP c s' r x y z u })) : PathIs l o i s := by
  obtain ⟨sl, c, r, x, y, z, u, ok, s', h1, h2⟩ := h
  exact ⟨sl, c, r, x, y, z, u, ok, s', h1.1, h1.2.1, h1.2.2, inl_of rfl fn7 rfl h2⟩

theorem inf7 : (drawn (Try.f7.body.getD .skip)).map infosOf = [[([], false), ([], false), ([], false), ([], false), ([], false), ([3], false), ([], true)], [([], false), ([], false), ([], false), ([], false), ([], false), ([], false), ([], false), ([], false), ([], false), ([], false), ([], false), ([], false), ([], false), ([], false), ([], false), ([], false), ([], false), ([], false), ([2, 4, 6, 8, 11, 12, 13, 14], false), ([], false), ([], true)], [([], false), ([], false), ([], false), ([], false), ([], false), ([3], false), ([], true)]] := by decide +kernel
theorem okD7 : (drawn (Try.f7.body.getD .skip)).all okBad = true := by decide +kernel


set_option maxHeartbeats 16000000 in
theorem path_self {l : List Lot} (o : Nat) (s : Int) (hs : 1 ≤ s ∧ s ≤ 3000) : PathIs l o o s := by
  have w1 : IntKind.i64.wrap (s - 1) = s - 1 := wrap_in (by omega)
  have hi := inf7
  have ho := okD7
  simp only [Try.f7, Option.getD_some, drawn, List.map_cons, List.map_nil, List.nil_append, List.append_nil, List.cons_append, List.cons.injEq, and_true] at hi
  simp only [Try.f7, Option.getD_some, drawn, List.nil_append, List.append_nil, List.cons_append, List.all_cons, List.all_nil, Bool.and_true, Bool.and_eq_true] at ho
  obtain ⟨hi1, hi2, hi3⟩ := hi
  obtain ⟨ho1, ho2, ho3⟩ := ho
  apply path_of
  simp only [Try.f7, Option.getD_some]
  simp (maxSteps := 1000000) (implicitDefEqProofs := false) only [pathSt, stepOb, ratOb, encLots, w1, beq_self_eq_true, regT ho1 hi1, evBT_nil, evBT_cons, effT_true, effT_false, effT2_some, effT2_none, calmT, free, Eff.writes, supp, isBar, Option.toList_some, Option.toList_none, reduceCtorEq, if_false, List.length_cons, List.length_nil, Try.ntmps7, Try.results7, efc7, fc7, ss, sd, zH, qG, zF, zG, St.get, qE, qF, qB, zC, norm, look, zE, qA, qI, St.alloc, St.drop, zA, part, zB, depth, qD, ↓reduceIte, Nat.reduceBEq, Nat.reduceAdd, Nat.reduceSub, Nat.reduceMul, Nat.reduceEqDiff, Nat.reduceLeDiff, Nat.reduceLT, qJ, qK, qL, qM, qN, qO, qP, qQ, qR, zI, qS, qC, qT, evSlice0, qV, qW, qX, qY, qZ, zJ, zK, zL, wit, Option.isSome_some, qH, xK, evPre, St.with, zD, Array.size, toldV, isIntV, orArr, offB, effFr, effFr2, effFr3, mapIn, restSame, sameO, eqW, eqWL, pickR, te, einl, inls, efr]
  exact ⟨_, 0, (1, 1), (0, 0), (0, 0), (0, 0), (0, 0), _, _, ⟨⟨by decide, by decide⟩, ⟨by omega, by omega⟩, fun _ => ⟨by decide, by unfold Fr; rw [num_self]; omega⟩⟩, rfl⟩

theorem look_leftP (c : Nat) (s : Int) (r x y z u : Nat × Nat) : look (leftP c s r x y z u) 7 = some (stepOb s) := by
  unfold leftP; split <;> rfl
theorem pick_leftP (c : Nat) (s : Int) (r x y z u : Nat × Nat) : xG [7] (leftP c s r x y z u) = [(7, stepOb s)] := by
  unfold leftP; split <;> rfl
theorem make_ok {n d : Nat} (hn : n ≤ 1099511627776) (hd : d ≤ 1048576) : (makeN n d).2.2 = 0 := by
  have h1 : n / Nat.gcd n d ≤ n := Nat.div_le_self _ _
  have h2 : d / Nat.gcd n d ≤ d := Nat.div_le_self _ _
  unfold makeN
  rw [if_neg (by omega)]
theorem num_any {l : List Lot} (v : Valid l) {o i : Nat} (hi : i < l.length) (hio : i ≠ o) : num l o i = sumN (termN l o i) l[i].parts := by
  rcases Nat.lt_or_gt_of_ne hio with h | h
  · rw [num_low h]
    have : sumN (termN l o i) l[i].parts = sumN (fun _ => 0) l[i].parts := sumN_congr fun p hp => by
      have := v.earlier hi p hp
      unfold termN
      rw [num_low (by omega)]; simp
    rw [this]
    have : ∀ ps : List Part, sumN (fun _ => 0) ps = 0 := by
      intro ps; induction ps with
      | nil => rfl
      | cons a r ih => simp [sumN, ih]
    rw [this]
  · exact num_up v h hi
theorem term_fr {l : List Lot} {o i q m : Nat} (hi : i < l.length) (hq : q < i) {s k t : Nat × Nat} (hs : Fr s (num l o q) (seg l 0 (q + 1))) (hk : Fr k m (tkN l[i])) (ht : Fr t (s.1 * k.1) (s.2 * k.2)) (h1 : 0 < s.2) (h2 : 0 < k.2) :
    Fr t (termN l o i ⟨(q : Int), (m : Int)⟩) (seg l 0 (i + 1)) := by
  have h := fr_scale (fr_mul hs hk ht h1 h2) (seg l (q + 1) (i - (q + 1)))
  have e : seg l 0 (q + 1) * tkN l[i] * seg l (q + 1) (i - (q + 1)) = seg l 0 (i + 1) := by
    rw [show seg l 0 (i + 1) = seg l 0 i * tkN (lotN l (0 + i)) from rfl, Nat.zero_add, lotN_at hi, ← seg_split hq]
    ac_rfl
  rw [e] at h
  simpa [termN] using h

section
variable {l : List Lot} (g : Good l)
include g
set_option maxHeartbeats 32000000 in
theorem path_up (o i : Nat) (hi : i < l.length) (hio : i ≠ o) (s : Int) (hs : 1 ≤ s ∧ s ≤ 3000) (ih : ∀ j, j < i → ∀ s, 1 ≤ s ∧ s ≤ 3000 → PathIs l o j s) : PathIs l o i s := by
  have v := g.v
  have w1 : IntKind.i64.wrap (s - 1) = s - 1 := wrap_in (by omega)
  have b1 : ((o : Int) == (i : Int)) = false := by simp; omega
  have hi' : (i : Int) < l.length := by omega
  have hN := num_any v hi hio
  have hpo := v.parts hi
  have hea := v.earlier hi
  have gl := lots_get hi
  have kT := c24 l[i] hpo
  have hT := tkN_eq v hi
  have hTp := tkN_pos v hi
  have hterm := fun q m s k t hq => @term_fr l o i q m hi hq s k t
  have hi := inf7
  have ho := okD7
  simp only [Try.f7, Option.getD_some, drawn, List.map_cons, List.map_nil, List.nil_append, List.append_nil, List.cons_append, List.cons.injEq, and_true] at hi
  simp only [Try.f7, Option.getD_some, drawn, List.nil_append, List.append_nil, List.cons_append, List.all_cons, List.all_nil, Bool.and_true, Bool.and_eq_true] at ho
  obtain ⟨hi1, hi2, hi3⟩ := hi
  obtain ⟨ho1, ho2, ho3⟩ := ho
  generalize hW : seg l 0 (i + 1) = W at *
  generalize tkN l[i] = T at *
  generalize l[i] = x0 at *
  obtain ⟨xk, xm, ps⟩ := x0
  dsimp only at hN hpo hea kT hT
  simp only [encLot] at kT
  have hpl := hpo.1
  apply path_of
  rw [hW]
  simp only [Try.f7, Option.getD_some]
  simp (maxSteps := 1000000) (implicitDefEqProofs := false) only [pathSt, stepOb, ratOb, encLots, w1, b1, Int.natCast_zero, List.length_cons, List.length_nil, Try.ntmps7, Try.results7, efc7, fc7, ss, sd, zH, qG, zF, zG, St.get, qE, qF, qB, zC, norm, look, zE, qA, qI, St.alloc, St.drop, zA, part, zB, depth, qD, ↓reduceIte, Nat.reduceBEq, Nat.reduceAdd, Nat.reduceSub, Nat.reduceMul, Nat.reduceEqDiff, Nat.reduceLeDiff, Nat.reduceLT, qJ, qK, qL, qM, qN, qO, qP, qQ, qR, zI, qS, qC, qT, evSlice0, qV, qW, qX, qY, qZ, zJ, zK, zL, wit, Option.isSome_some, qH, xK, evPre, St.with, zD, Array.size, toldV, isIntV, orArr, offB, effFr, effFr2, effFr3, mapIn, restSame, sameO, eqW, eqWL, pickR, te, einl, inls, efr]
  generalize hr : loopAt _ _ _ _ _ _ = r; revert r
  refine loop_inv (ι := { x : (List Part × List Part) × (Nat × Nat) × Int // ps = x.1.1 ++ x.1.2 ∧ validN x.2.1.1 x.2.1.2 = true ∧ Fr x.2.1 (sumN (termN l o i) x.1.1) W ∧ 0 ≤ x.2.2 ∧ x.2.2 ≤ s - 1 })
    (fun a => [(11, .int .i64 a.1.1.1.length)]) (fun a => [(7, stepOb a.1.2.2), (1010, ratOb a.1.2.1)]) (fun a => a.1.1.2.length) ⟨(([], ps), (0, 1), s - 1), rfl, (rfl : validN 0 1 = true), (by unfold Fr; simp [sumN]), (show 0 ≤ s - 1 by omega), (show s - 1 ≤ s - 1 by omega)⟩ (by simp (maxSteps := 1000000) (implicitDefEqProofs := false) only [stepOb, ratOb, ratV, List.length_nil, Int.natCast_zero, Int.natCast_one, ss, sd, zH, qG, zF, zG, St.get, qE, qF, qB, zC, norm, look, zE, qA, qI, St.alloc, St.drop, zA, part, zB, depth, qD, ↓reduceIte, Nat.reduceBEq, Nat.reduceAdd, Nat.reduceSub, Nat.reduceMul, Nat.reduceEqDiff, Nat.reduceLeDiff, Nat.reduceLT, qJ, qK, qL, qM, qN, qO, qP, qQ, qR, zI, qS, qC, qT, evSlice0, qV, qW, qX, qY, qZ, zJ, zK, zL, wit, Option.isSome_some, qH, xK, evPre, St.with, zD, Array.size, toldV, isIntV, orArr, offB, effFr, effFr2, effFr3, mapIn, restSame, sameO, eqW, eqWL, pickR, te, einl, inls, efr]) ?_
  rintro ⟨⟨⟨pre, post⟩, r, s1⟩, hp, hv, hfr, hs1, hs2⟩
  dsimp only at hp hv hfr hs1 hs2 ⊢
  have hrs := valid_small hv
  cases post with
  | nil =>
    have hpe : pre = ps := by rw [hp]; simp
    subst hpe
    have hlt : ¬ ((pre.length : Nat) : Int) < ((pre.length : Nat) : Int) := Int.lt_irrefl _
    simp (maxSteps := 1000000) (implicitDefEqProofs := false) only [gl, hi', hlt, encLot, stepOb, ratOb, ratV, List.length_map, Int.natCast_nonneg, Int.toNat_natCast, regT ho3 hi3, evBT_nil, evBT_cons, effT_true, effT_false, effT2_some, effT2_none, calmT, free, Eff.writes, supp, isBar, Option.toList_some, Option.toList_none, reduceCtorEq, if_false, Try.ntmps7, Try.results7, efc7, fc7, ss, sd, zH, qG, zF, zG, St.get, qE, qF, qB, zC, norm, look, zE, qA, qI, St.alloc, St.drop, zA, part, zB, depth, qD, ↓reduceIte, Nat.reduceBEq, Nat.reduceAdd, Nat.reduceSub, Nat.reduceMul, Nat.reduceEqDiff, Nat.reduceLeDiff, Nat.reduceLT, qJ, qK, qL, qM, qN, qO, qP, qQ, qR, zI, qS, qC, qT, evSlice0, qV, qW, qX, qY, qZ, zJ, zK, zL, wit, Option.isSome_some, qH, xK, evPre, St.with, zD, Array.size, toldV, isIntV, orArr, offB, effFr, effFr2, effFr3, mapIn, restSame, sameO, eqW, eqWL, pickR, te, einl, inls, efr]
    exact ⟨_, 1, r, (0, 0), (0, 0), (0, 0), (0, 0), _, s1, ⟨hrs, ⟨hs1, by omega⟩, fun _ => ⟨hv, by rw [hN]; exact hfr⟩⟩, rfl⟩
  | cons p post =>
    have hpm : p ∈ ps := by rw [hp]; simp
    have hlo := hea p hpm
    have hma := hpo.2 p hpm
    have hlt : ((pre.length : Nat) : Int) < ((ps.length : Nat) : Int) := by rw [hp]; simp; omega
    have hget : ps[pre.length]? = some p := by rw [hp]; simp
    by_cases hs0 : 0 < s1
    · obtain ⟨q, hq⟩ : ∃ q : Nat, p.lot = q := ⟨p.lot.toNat, by omega⟩
      obtain ⟨m, hm⟩ : ∃ m : Nat, p.mass = m := ⟨p.mass.toNat, by omega⟩
      obtain ⟨pl, pm⟩ := p
      dsimp only at hq hm hlo hma
      subst hq hm
      have hTs : sumP ps = (T : Int) ∧ 1 ≤ T := by
        have h1 := sumP_le ps hpo.2
        have h2 : 1 ≤ ps.length := by rw [hp]; simp; omega
        rcases hT with ⟨t1, t2⟩ | ⟨t1, t2⟩
        · exact ⟨t2, hTp.1⟩
        · omega
      rw [hTs.1] at kT
      obtain ⟨sl, c, r1, x, y, z, u, ok, s2, hsm, hs3, hok, k1⟩ := ih q (by omega) s1 ⟨by omega, by omega⟩
      have k2 := c13 m T (by omega) ⟨hTs.2, by omega⟩
      have e0 : (makeN m T).2.2 = 0 := make_ok (by omega) (by omega)
      have hk := make_spec hTs.2 e0
      have hks := make_small m T
      obtain ⟨kr, hkr⟩ : ∃ kr : Nat × Nat, kr = ((makeN m T).1, (makeN m T).2.1) := ⟨_, rfl⟩
      have k2' : (orcω E X0).call 13 [.int .i64 (m : Int), .int .i64 (T : Int)] = some (.tup [ratV kr.1 kr.2, .int .i64 0]) := by rw [k2, hkr]; unfold encN; rw [e0]
      rw [← hkr] at hk hks
      have hkv : validN kr.1 kr.2 = true := by rw [hkr]; exact hk.2
      have k3 := c14 r1 kr hsm hks
      have hts := mul_small r1 kr
      obtain ⟨t, ht⟩ : ∃ t : Nat × Nat, t = ((mulN r1 kr).1, (mulN r1 kr).2.1) := ⟨_, rfl⟩
      obtain ⟨f, hf⟩ : ∃ f : Int, f = (mulN r1 kr).2.2 := ⟨_, rfl⟩
      have k3' : (orcω E X0).call 14 [ratV r1.1 r1.2, ratV kr.1 kr.2] = some (.tup [ratV t.1 t.2, .int .i64 f]) := by rw [k3, ht, hf]; rfl
      rw [← ht] at hts
      have k4 := c9 r t hrs hts
      obtain ⟨w, hw⟩ : ∃ w : Nat × Nat, w = ((addN r t).1, (addN r t).2.1) := ⟨_, rfl⟩
      obtain ⟨e, he⟩ : ∃ e : Int, e = (addN r t).2.2 := ⟨_, rfl⟩
      have k4' : (orcω E X0).call 9 [ratV r.1 r.2, ratV t.1 t.2] = some (.tup [ratV w.1 w.2, .int .i64 e]) := by rw [k4, hw, he]; rfl
      have hlk := look_leftP c s2 r1 x y z u
      have hpk := pick_leftP c s2 r1 x y z u
      have hpl2 : pre.length ≤ 6 := by have := congrArg List.length hp; simp at this; omega
      have q5 : IntKind.i64.wrap ((pre.length : Int) + 1) = (((pre ++ [(⟨(q : Int), (m : Int)⟩ : Part)]).length : Nat) : Int) := by rw [wrap_in (by omega)]; simp
      simp only [pathSt, stepOb, encLots] at k1
      simp only [stepOb] at hlk hpk
      simp only [ratV] at k1 k2' k3' k4'
      cases ok with
      | false =>
        simp (maxSteps := 1000000) (implicitDefEqProofs := false) only [gl, hi', hlt, hs0, hget, k1, k2', k3', k4', kT, hlk, hpk, encLot, encPart, stepOb, ratOb, ratV, List.length_map, List.isEmpty_cons, List.getElem?_map, Int.natCast_nonneg, Int.toNat_natCast, regT ho2 hi2, evBT_nil, evBT_cons, effT_true, effT_false, effT2_some, effT2_none, calmT, free, Eff.writes, supp, isBar, Option.toList_some, Option.toList_none, reduceCtorEq, if_false, Try.ntmps7, Try.results7, efc7, fc7, ss, sd, zH, qG, zF, zG, St.get, qE, qF, qB, zC, norm, look, zE, qA, qI, St.alloc, St.drop, zA, part, zB, depth, qD, ↓reduceIte, Nat.reduceBEq, Nat.reduceAdd, Nat.reduceSub, Nat.reduceMul, Nat.reduceEqDiff, Nat.reduceLeDiff, Nat.reduceLT, qJ, qK, qL, qM, qN, qO, qP, qQ, qR, zI, qS, qC, qT, evSlice0, qV, qW, qX, qY, qZ, zJ, zK, zL, wit, Option.isSome_some, qH, xK, evPre, St.with, zD, Array.size, toldV, isIntV, orArr, offB, effFr, effFr2, effFr3, mapIn, restSame, sameO, eqW, eqWL, pickR, te, einl, inls, efr]
        exact ⟨_, 2, r, r1, kr, t, w, false, s2, ⟨hrs, ⟨hs3.1, by omega⟩, fun h => by cases h⟩, rfl⟩
      | true =>
        by_cases hf0 : f = 0
        · by_cases he0 : e = 0
          · subst hf0 he0
            simp (maxSteps := 1000000) (implicitDefEqProofs := false) only [gl, hi', hlt, hs0, hget, k1, k2', k3', k4', kT, hlk, hpk, encLot, encPart, stepOb, ratOb, ratV, List.length_map, List.isEmpty_cons, List.getElem?_map, Int.natCast_nonneg, Int.toNat_natCast, bne_self_eq_false, q5, regT ho2 hi2, evBT_nil, evBT_cons, effT_true, effT_false, effT2_some, effT2_none, calmT, free, Eff.writes, supp, isBar, Option.toList_some, Option.toList_none, reduceCtorEq, if_false, Try.ntmps7, Try.results7, efc7, fc7, ss, sd, zH, qG, zF, zG, St.get, qE, qF, qB, zC, norm, look, zE, qA, qI, St.alloc, St.drop, zA, part, zB, depth, qD, ↓reduceIte, Nat.reduceBEq, Nat.reduceAdd, Nat.reduceSub, Nat.reduceMul, Nat.reduceEqDiff, Nat.reduceLeDiff, Nat.reduceLT, qJ, qK, qL, qM, qN, qO, qP, qQ, qR, zI, qS, qC, qT, evSlice0, qV, qW, qX, qY, qZ, zJ, zK, zL, wit, Option.isSome_some, qH, xK, evPre, St.with, zD, Array.size, toldV, isIntV, orArr, offB, effFr, effFr2, effFr3, mapIn, restSame, sameO, eqW, eqWL, pickR, te, einl, inls, efr]
            obtain ⟨v1, v2⟩ := hok rfl
            obtain ⟨_, _, m3, m4⟩ := mul_spec hf.symm
            rw [← ht] at m3
            obtain ⟨_, _, a3, a4⟩ := add_spec he.symm
            rw [← hw] at a3
            have htv : validN t.1 t.2 = true := by rw [ht]; exact m4
            have hwv : validN w.1 w.2 = true := by rw [hw]; exact a4
            have hkf : Fr kr m T := hk.1
            have hfin := fr_add hfr (hterm q m r1 kr t (by omega) v2 hkf m3 (validN_iff.1 v1).1.1 (validN_iff.1 hkv).1.1) a3 (validN_iff.1 hv).1.1 (validN_iff.1 htv).1.1
            refine ⟨⟨((pre ++ [⟨(q : Int), (m : Int)⟩], post), w, s2), by rw [hp]; simp, hwv, ?_, hs3.1, by dsimp only; omega⟩, rfl, by simp⟩
            dsimp only
            rw [sumN_app]
            simpa [sumN] using hfin
          · have r0 := bneI he0
            subst hf0
            simp (maxSteps := 1000000) (implicitDefEqProofs := false) only [gl, hi', hlt, hs0, hget, k1, k2', k3', k4', kT, hlk, hpk, encLot, encPart, stepOb, ratOb, ratV, List.length_map, List.isEmpty_cons, List.getElem?_map, Int.natCast_nonneg, Int.toNat_natCast, bne_self_eq_false, r0, regT ho2 hi2, evBT_nil, evBT_cons, effT_true, effT_false, effT2_some, effT2_none, calmT, free, Eff.writes, supp, isBar, Option.toList_some, Option.toList_none, reduceCtorEq, if_false, Try.ntmps7, Try.results7, efc7, fc7, ss, sd, zH, qG, zF, zG, St.get, qE, qF, qB, zC, norm, look, zE, qA, qI, St.alloc, St.drop, zA, part, zB, depth, qD, ↓reduceIte, Nat.reduceBEq, Nat.reduceAdd, Nat.reduceSub, Nat.reduceMul, Nat.reduceEqDiff, Nat.reduceLeDiff, Nat.reduceLT, qJ, qK, qL, qM, qN, qO, qP, qQ, qR, zI, qS, qC, qT, evSlice0, qV, qW, qX, qY, qZ, zJ, zK, zL, wit, Option.isSome_some, qH, xK, evPre, St.with, zD, Array.size, toldV, isIntV, orArr, offB, effFr, effFr2, effFr3, mapIn, restSame, sameO, eqW, eqWL, pickR, te, einl, inls, efr]
            exact ⟨_, 2, r, r1, kr, t, w, false, s2, ⟨hrs, ⟨hs3.1, by omega⟩, fun h => by cases h⟩, rfl⟩
        · have r0 := bneI hf0
          simp (maxSteps := 1000000) (implicitDefEqProofs := false) only [gl, hi', hlt, hs0, hget, k1, k2', k3', k4', kT, hlk, hpk, encLot, encPart, stepOb, ratOb, ratV, List.length_map, List.isEmpty_cons, List.getElem?_map, Int.natCast_nonneg, Int.toNat_natCast, bne_self_eq_false, r0, regT ho2 hi2, evBT_nil, evBT_cons, effT_true, effT_false, effT2_some, effT2_none, calmT, free, Eff.writes, supp, isBar, Option.toList_some, Option.toList_none, reduceCtorEq, if_false, Try.ntmps7, Try.results7, efc7, fc7, ss, sd, zH, qG, zF, zG, St.get, qE, qF, qB, zC, norm, look, zE, qA, qI, St.alloc, St.drop, zA, part, zB, depth, qD, ↓reduceIte, Nat.reduceBEq, Nat.reduceAdd, Nat.reduceSub, Nat.reduceMul, Nat.reduceEqDiff, Nat.reduceLeDiff, Nat.reduceLT, qJ, qK, qL, qM, qN, qO, qP, qQ, qR, zI, qS, qC, qT, evSlice0, qV, qW, qX, qY, qZ, zJ, zK, zL, wit, Option.isSome_some, qH, xK, evPre, St.with, zD, Array.size, toldV, isIntV, orArr, offB, effFr, effFr2, effFr3, mapIn, restSame, sameO, eqW, eqWL, pickR, te, einl, inls, efr]
          exact ⟨_, 2, r, r1, kr, t, w, false, s2, ⟨hrs, ⟨hs3.1, by omega⟩, fun h => by cases h⟩, rfl⟩
    · have hz : s1 = 0 := by omega
      subst hz
      simp (maxSteps := 1000000) (implicitDefEqProofs := false) only [gl, hi', hlt, Int.lt_irrefl, encLot, stepOb, ratOb, ratV, List.length_map, Int.natCast_nonneg, Int.toNat_natCast, regT ho3 hi3, evBT_nil, evBT_cons, effT_true, effT_false, effT2_some, effT2_none, calmT, free, Eff.writes, supp, isBar, Option.toList_some, Option.toList_none, reduceCtorEq, if_false, Try.ntmps7, Try.results7, efc7, fc7, ss, sd, zH, qG, zF, zG, St.get, qE, qF, qB, zC, norm, look, zE, qA, qI, St.alloc, St.drop, zA, part, zB, depth, qD, ↓reduceIte, Nat.reduceBEq, Nat.reduceAdd, Nat.reduceSub, Nat.reduceMul, Nat.reduceEqDiff, Nat.reduceLeDiff, Nat.reduceLT, qJ, qK, qL, qM, qN, qO, qP, qQ, qR, zI, qS, qC, qT, evSlice0, qV, qW, qX, qY, qZ, zJ, zK, zL, wit, Option.isSome_some, qH, xK, evPre, St.with, zD, Array.size, toldV, isIntV, orArr, offB, effFr, effFr2, effFr3, mapIn, restSame, sameO, eqW, eqWL, pickR, te, einl, inls, efr]
      exact ⟨_, 1, r, (0, 0), (0, 0), (0, 0), (0, 0), _, 0, ⟨hrs, ⟨by omega, by omega⟩, fun h => by cases h⟩, rfl⟩

theorem path_is (o : Nat) : ∀ (i : Nat), i < l.length → ∀ s, 1 ≤ s ∧ s ≤ 3000 → PathIs l o i s := by
  intro i
  induction i using Nat.strongRecOn with
  | _ i ih =>
    intro hi s hs
    by_cases h : i = o
    · subst h; exact path_self i s hs
    · exact path_up g o i hi h s hs fun j hj s hs => ih j hj (by omega) s hs
end
end Go.AM.F

