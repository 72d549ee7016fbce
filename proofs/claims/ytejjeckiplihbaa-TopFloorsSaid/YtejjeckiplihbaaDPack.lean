/-
Packing a roll: pack.
-/
import Derived.Test.YtejjeckiplihbaaDPackP
import Derived.Test.YtejjeckiplihbaaAmBad
set_option linter.unusedSimpArgs false
set_option maxRecDepth 20000

namespace Go.AM.D
open Go Go.AM Go.Proofs

theorem inf88 : (drawn (Try.f88.body.getD .skip)).map infosOf = [[([], false), ([], false), ([], false), ([1], false), ([], false), ([1, 3], false), ([], true)], [([], false), ([], false), ([], true), ([], true), ([], true), ([], true), ([], false), ([], false), ([], false), ([], false), ([], false), ([], false), ([], true), ([], true), ([], true), ([], true)], [([], false), ([], false), ([], false), ([], false), ([], false), ([], false), ([], false), ([], false), ([], false), ([], false), ([], false), ([], false), ([], false), ([], true), ([], true), ([], true)], [([], false), ([], false), ([], false), ([], false), ([], false), ([], false), ([], false), ([], false), ([], false), ([4], false), ([], true), ([], true)]] := by decide +kernel
theorem okD88 : (drawn (Try.f88.body.getD .skip)).all okBad = true := by decide +kernel

theorem shl_in {n : Nat} (h : n ≤ 6) : IntKind.i64.wrap (1 * 2 ^ (min n (IntKind.bits .i64))) = ((2 ^ n : Nat) : Int) := by
  have : n = 0 ∨ n = 1 ∨ n = 2 ∨ n = 3 ∨ n = 4 ∨ n = 5 ∨ n = 6 := by omega
  rcases this with rfl | rfl | rfl | rfl | rfl | rfl | rfl <;> decide
theorem bits_facts : ((List.range 64).all fun k => (List.range 6).all fun i =>
    decide (bitsI .and .i64 ((k : Int).fdiv (2 ^ (min i (IntKind.bits .i64)))) 1 = if bitP k i = true then 1 else 0) && (!bitP k i || decide (bitsI .andNot .i64 (k : Int) ((2 ^ i : Nat) : Int) = ((k - 2 ^ i : Nat) : Int)))) = true := by decide +kernel
theorem and_bit {k i : Nat} (hk : k < 64) (hi : i < 6) : bitsI .and .i64 ((k : Int).fdiv (2 ^ (min i (IntKind.bits .i64)))) 1 = if bitP k i = true then 1 else 0 := by
  have h := List.all_eq_true.1 (List.all_eq_true.1 bits_facts k (List.mem_range.2 hk)) i (List.mem_range.2 hi)
  rw [Bool.and_eq_true] at h
  exact of_decide_eq_true h.1
theorem andNot_bit {k i : Nat} (hk : k < 64) (hi : i < 6) (hb : bitP k i = true) : bitsI .andNot .i64 (k : Int) ((2 ^ i : Nat) : Int) = ((k - 2 ^ i : Nat) : Int) := by
  have h := List.all_eq_true.1 (List.all_eq_true.1 bits_facts k (List.mem_range.2 hk)) i (List.mem_range.2 hi)
  rw [Bool.and_eq_true, hb] at h
  simpa using h.2
def arrL (f : Nat → Int) (N : Nat) : List V := (List.range N).map fun q => V.int .i64 (f q)
def updF (f : Nat → Int) (k : Nat) (v : Int) : Nat → Int := fun q => if q = k then v else f q
theorem arr_len (f : Nat → Int) (N : Nat) : (arrL f N).length = N := by simp [arrL]
theorem arr_get {f : Nat → Int} {N q : Nat} (h : q < N) : (arrL f N)[q]? = some (.int .i64 (f q)) := by
  simp [arrL, List.getElem?_range h]
theorem arr_congr {f g : Nat → Int} {N : Nat} (h : ∀ q, q < N → f q = g q) : arrL f N = arrL g N := by
  unfold arrL
  apply List.map_congr_left
  intro q hq
  rw [h q (List.mem_range.1 hq)]
theorem arr_set (f : Nat → Int) (N k : Nat) (v : Int) : (arrL f N).set k (.int .i64 v) = arrL (updF f k v) N := by
  unfold arrL updF
  apply List.ext_getElem
  · simp
  · intro i h1 h2
    simp only [List.getElem_set, List.getElem_map, List.getElem_range]
    by_cases e : k = i
    · subst e; simp
    · rw [if_neg e, if_neg (fun h => e h.symm)]
theorem arr_zero (N : Nat) : List.replicate N (V.int .i64 0) = arrL (fun _ => 0) N := by
  unfold arrL
  rw [List.map_const', List.length_range]
def arrOb (f : Nat → Int) (N : Nat) : Ob := { es := 1, flat := true, t := true, app := true, elems := arrL f N }
def lowE (g : Nat → Int) (k : Nat) : Nat → Int := fun q => if q < k then g q else 0
theorem low_next (g : Nat → Int) (k N : Nat) : arrL (updF (lowE g k) k (g k)) N = arrL (lowE g (k + 1)) N := by
  apply arr_congr
  intro q _
  unfold updF lowE
  by_cases e : q = k
  · subst e; rw [if_pos rfl, if_pos (by omega)]
  · rw [if_neg e]
    by_cases h : q < k
    · rw [if_pos h, if_pos (by omega)]
    · rw [if_neg h, if_neg (by omega)]
theorem low_same (g : Nat → Int) (k N : Nat) : arrL (updF (lowE g k) k 0) N = arrL (lowE g k) N := by
  apply arr_congr
  intro q _
  unfold updF lowE
  by_cases e : q = k
  · subst e; rw [if_pos rfl, if_neg (by omega)]
  · rw [if_neg e]
theorem updF_updF (f : Nat → Int) (k : Nat) (v w : Int) : updF (updF f k v) k w = updF f k w := by
  funext q
  unfold updF
  split <;> rfl
theorem updF_low {g : Nat → Int} {k q : Nat} (v : Int) (h : q < k) : updF (lowE g k) k v q = g q := by
  unfold updF lowE
  rw [if_neg (by omega), if_pos h]
def encPack (j : Job) (r : Roll) : V := .agg [.sl true (arrL (fun q => (ent j r q).1) (2 ^ j.ss.length)), .sl true (arrL (fun q => (ent j r q).2) (2 ^ j.ss.length))]
theorem updF_at (f : Nat → Int) (k : Nat) (v : Int) : updF f k v k = v := if_pos rfl
set_option maxRecDepth 20000 in
set_option maxHeartbeats 16000000 in
theorem c88 (j : Job) (r : Roll) (hj : Right j) (hr : rollOk r j.rep = true) (hs : ∀ s ∈ j.ss, stripOk s = true) : (orcω E X0).call 88 [encJob j, encRoll r] = some (encPack j r) := by
  refine call_of rfl fn88 rfl ?_
  have hi := inf88
  have ho := okD88
  simp only [Try.f88, Option.getD_some, drawn, List.map_cons, List.map_nil, List.nil_append, List.append_nil, List.cons_append, List.cons.injEq, and_true] at hi
  simp only [Try.f88, Option.getD_some, drawn, List.nil_append, List.append_nil, List.cons_append, List.all_cons, List.all_nil, Bool.and_true, Bool.and_eq_true] at ho
  obtain ⟨hi1, hi2, hi3, hi4⟩ := hi
  obtain ⟨ho1, ho2, ho3, ho4⟩ := ho
  have b1 := rollOk_iff.1 hr
  have h6 := hj.nss
  have k9 := c64 j.rep (inB_iff.2 b1.1)
  have shl := shl_in h6
  have shi := fun i (h : i < j.ss.length) => shl_in (n := i) (by omega)
  have hN1 : 1 ≤ 2 ^ j.ss.length := Nat.one_le_two_pow
  have hN2 : 2 ^ j.ss.length ≤ 64 := Nat.pow_le_pow_right (n := 2) (by omega) h6
  unfold encPack
  generalize hN : 2 ^ j.ss.length = N at shl hN1 hN2 ⊢
  have hroom : roomy N 8 = true := by simp [roomy]; omega
  have hbig : (N : Int) ≤ 4294967296 := by omega
  unfold kindV at k9
  unfold encJob
  by_cases hrep : j.rep = 1
  · rw [if_pos hrep] at k9

    simp (maxSteps := 1000000) (implicitDefEqProofs := false) only [Try.ntmps88, Try.results88, efc88, fc88, k9, shl, evField, encRoll, hroom, hbig, regT ho1 hi1, evBT_nil, evBT_cons, effT_true, effT_false, effT2_some, effT2_none, calmT, free, Eff.writes, supp, isBar, Option.toList_some, Option.toList_none, Int.natCast_nonneg, Int.toNat_natCast, and_self, if_true, List.length_map, ss, sd, evOp, evPlain, evVal, evMem, St.get, sliceOf, arrayOf, fieldsOf, normOf, norm, look, evVar, evFieldAddr, nameOf, St.alloc, St.drop, killOb, part, splice, depth, resultsV, ↓reduceIte, Nat.reduceBEq, Nat.reduceAdd, Nat.reduceSub, Nat.reduceMul, Nat.reduceEqDiff, Nat.reduceLeDiff, Nat.reduceLT, effOf, effMem, effVar, effLit, effMake, effApp, lend, evLit, evNil, freeze, evField, evIndexT, orNil, evSlice, placeOf, evMap, mapOf, keyOk, evFrame, closed, fixed, sameEs, wit, Option.isSome_some, St.with, wantedD, Array.size, te, einl, inls, efr]
    generalize hr : loopAt _ _ _ _ _ _ = r; revert r
    rw [arr_zero]
    refine loop_inv (ι := { k : Nat // 1 ≤ k ∧ k ≤ N }) (fun k => [(8, .int .i64 (k.1 : Nat))]) (fun k => [(17, arrOb (lowE (fun q => (ent j r q).1) k.1) N), (19, arrOb (lowE (fun q => (ent j r q).2) k.1) N)]) (fun k => N - k.1) ⟨1, by omega, hN1⟩ (by
      have z1 : arrL (lowE (fun q => (ent j r q).1) 1) N = arrL (fun _ => 0) N := arr_congr fun q _ => by
        unfold lowE
        split
        · rename_i h
          obtain rfl : q = 0 := by omega
          rfl
        · rfl
      have z2 : arrL (lowE (fun q => (ent j r q).2) 1) N = arrL (fun _ => 0) N := arr_congr fun q _ => by
        unfold lowE
        split
        · rename_i h
          obtain rfl : q = 0 := by omega
          rfl
        · rfl
      simp (maxSteps := 1000000) (implicitDefEqProofs := false) only [arrOb, z1, z2, Int.natCast_one, ss, sd, evOp, evPlain, evVal, evMem, St.get, sliceOf, arrayOf, fieldsOf, normOf, norm, look, evVar, evFieldAddr, nameOf, St.alloc, St.drop, killOb, part, splice, depth, resultsV, ↓reduceIte, Nat.reduceBEq, Nat.reduceAdd, Nat.reduceSub, Nat.reduceMul, Nat.reduceEqDiff, Nat.reduceLeDiff, Nat.reduceLT, effOf, effMem, effVar, effLit, effMake, effApp, lend, evLit, evNil, freeze, evField, evIndexT, orNil, evSlice, placeOf, evMap, mapOf, keyOk, evFrame, closed, fixed, sameEs, wit, Option.isSome_some, St.with, wantedD, Array.size, te, einl, inls, efr]) ?_
    rintro ⟨k, k1, k2⟩
    dsimp only
    by_cases hk : k = N
    · subst hk
      have t1 : arrL (lowE (fun q => (ent j r q).1) k) k = arrL (fun q => (ent j r q).1) k := arr_congr fun q hq => if_pos hq
      have t2 : arrL (lowE (fun q => (ent j r q).2) k) k = arrL (fun q => (ent j r q).2) k := arr_congr fun q hq => if_pos hq
      have t3 : ∀ f, (arrL f k).take k = arrL f k := fun f => List.take_of_length_le (by rw [arr_len]; exact Nat.le_refl _)
      simp (maxSteps := 1000000) (implicitDefEqProofs := false) only [Int.lt_irrefl, arrOb, t1, t2, t3, arr_len, Try.ntmps88, Try.results88, efc88, fc88, ss, sd, evOp, evPlain, evVal, evMem, St.get, sliceOf, arrayOf, fieldsOf, normOf, norm, look, evVar, evFieldAddr, nameOf, St.alloc, St.drop, killOb, part, splice, depth, resultsV, ↓reduceIte, Nat.reduceBEq, Nat.reduceAdd, Nat.reduceSub, Nat.reduceMul, Nat.reduceEqDiff, Nat.reduceLeDiff, Nat.reduceLT, effOf, effMem, effVar, effLit, effMake, effApp, lend, evLit, evNil, freeze, evField, evIndexT, orNil, evSlice, placeOf, evMap, mapOf, keyOk, evFrame, closed, fixed, sameEs, wit, Option.isSome_some, St.with, wantedD, Array.size, te, einl, inls, efr]
    · have kN : k < N := by omega
      have kNi : (k : Int) < N := by omega
      have w1 : IntKind.i64.wrap ((k : Int) + 1) = ((k + 1 : Nat) : Int) := by rw [wrap_in (by omega)]; omega
      simp (maxSteps := 1000000) (implicitDefEqProofs := false) only [kNi, kN, arrOb, arr_get, arr_set, arr_len, Int.natCast_nonneg, Int.toNat_natCast, List.length_map, ss, sd, evOp, evPlain, evVal, evMem, St.get, sliceOf, arrayOf, fieldsOf, normOf, norm, look, evVar, evFieldAddr, nameOf, St.alloc, St.drop, killOb, part, splice, depth, resultsV, ↓reduceIte, Nat.reduceBEq, Nat.reduceAdd, Nat.reduceSub, Nat.reduceMul, Nat.reduceEqDiff, Nat.reduceLeDiff, Nat.reduceLT, effOf, effMem, effVar, effLit, effMake, effApp, lend, evLit, evNil, freeze, evField, evIndexT, orNil, evSlice, placeOf, evMap, mapOf, keyOk, evFrame, closed, fixed, sameEs, wit, Option.isSome_some, St.with, wantedD, Array.size, te, einl, inls, efr]
      generalize hr : loopAt _ _ _ _ _ _ = r; revert r
      refine loop_list j.ss (fun pre _ => [(37, .int .i64 pre.length)]) (fun pre _ => [(17, arrOb (updF (lowE (fun q => (ent j r q).1) k) k (packTo j r (ent j r) k pre.length).1) N), (19, arrOb (updF (lowE (fun q => (ent j r q).2) k) k (packTo j r (ent j r) k pre.length).2) N)]) (fun _ (_ : Unit) => True) () (by omega) (by
        have z2 := low_same (fun q => (ent j r q).2) k N
        simp (maxSteps := 1000000) (implicitDefEqProofs := false) only [arrOb, z2, packTo, List.range_zero, List.foldl_nil, NEV, ss, sd, evOp, evPlain, evVal, evMem, St.get, sliceOf, arrayOf, fieldsOf, normOf, norm, look, evVar, evFieldAddr, nameOf, St.alloc, St.drop, killOb, part, splice, depth, resultsV, ↓reduceIte, Nat.reduceBEq, Nat.reduceAdd, Nat.reduceSub, Nat.reduceMul, Nat.reduceEqDiff, Nat.reduceLeDiff, Nat.reduceLT, effOf, effMem, effVar, effLit, effMake, effApp, lend, evLit, evNil, freeze, evField, evIndexT, orNil, evSlice, placeOf, evMap, mapOf, keyOk, evFrame, closed, fixed, sameEs, wit, Option.isSome_some, St.with, wantedD, Array.size, te, einl, inls, efr]) trivial (fun _ _ => ?_) (fun pre s post _ hp _ g1 g2 g3 g4 => ?_)
      · have z1 := low_next (fun q => (ent j r q).1) k N
        have z2 := low_next (fun q => (ent j r q).2) k N
        rw [ent_eq k1] at z1 z2
        simp (maxSteps := 1000000) (implicitDefEqProofs := false) only [Int.lt_irrefl, arrOb, z1, z2, w1, ss, sd, evOp, evPlain, evVal, evMem, St.get, sliceOf, arrayOf, fieldsOf, normOf, norm, look, evVar, evFieldAddr, nameOf, St.alloc, St.drop, killOb, part, splice, depth, resultsV, ↓reduceIte, Nat.reduceBEq, Nat.reduceAdd, Nat.reduceSub, Nat.reduceMul, Nat.reduceEqDiff, Nat.reduceLeDiff, Nat.reduceLT, effOf, effMem, effVar, effLit, effMake, effApp, lend, evLit, evNil, freeze, evField, evIndexT, orNil, evSlice, placeOf, evMap, mapOf, keyOk, evFrame, closed, fixed, sameEs, wit, Option.isSome_some, St.with, wantedD, Array.size, te, einl, inls, efr]
        exact ⟨⟨k + 1, by omega, by omega⟩, by first | rfl | simp, by dsimp only; omega⟩
      · have hlt : pre.length < j.ss.length := g2
        have gs : j.ss[pre.length]? = some s := g3
        have hst : stripI j pre.length = s := by unfold stripI; exact getD_of gs
        have hi : pre.length < 6 := by omega
        have hk64 : k < 64 := by omega
        have ab := and_bit hk64 hi
        have hps : packTo j r (ent j r) k (pre ++ [s]).length = packStep j r (ent j r) k (packTo j r (ent j r) k pre.length) pre.length := by rw [show (pre ++ [s]).length = pre.length + 1 by simp, packTo_succ]
        have hacc := packTo_in hj hr hs (T := ent j r) (ent_in hj hr hs) (set := k) pre.length (by omega)
        rw [hps]
        unfold packStep
        rw [hst]
        have ho := stripOk_iff.1 (hs s (List.mem_of_getElem? gs))
        have sh := shi pre.length hlt
        generalize packTo j r (ent j r) k pre.length = acc at *
        cases hb : bitP k pre.length with
        | false =>
          rw [hb] at ab
          have ab : bitsI .and .i64 ((k : Int).fdiv (2 ^ (min pre.length (IntKind.bits .i64)))) 1 = 0 := ab
          rw [if_pos (Or.inl rfl)]
          simp (maxSteps := 1000000) (implicitDefEqProofs := false) only [g1, g2, g3, g4, ab, beq_self_eq_true, arrOb, regT ho2 hi2, regT ho3 hi3, evBT_nil, evBT_cons, effT_true, effT_false, effT2_some, effT2_none, calmT, free, Eff.writes, supp, isBar, Option.toList_some, Option.toList_none, encStrip, Int.natCast_nonneg, Int.toNat_natCast, List.getElem?_map, List.length_map, ss, sd, evOp, evPlain, evVal, evMem, St.get, sliceOf, arrayOf, fieldsOf, normOf, norm, look, evVar, evFieldAddr, nameOf, St.alloc, St.drop, killOb, part, splice, depth, resultsV, ↓reduceIte, Nat.reduceBEq, Nat.reduceAdd, Nat.reduceSub, Nat.reduceMul, Nat.reduceEqDiff, Nat.reduceLeDiff, Nat.reduceLT, effOf, effMem, effVar, effLit, effMake, effApp, lend, evLit, evNil, freeze, evField, evIndexT, orNil, evSlice, placeOf, evMap, mapOf, keyOk, evFrame, closed, fixed, sameEs, wit, Option.isSome_some, St.with, wantedD, Array.size, te, einl, inls, efr]
          (first | exact ⟨(), trivial⟩ | refine ⟨(), ?_, trivial⟩ | skip)
        | true =>
          rw [hb] at ab
          have ab : bitsI .and .i64 ((k : Int).fdiv (2 ^ (min pre.length (IntKind.bits .i64)))) 1 = 1 := ab
          have an := andNot_bit hk64 hi hb
          have q10 : ((1 : Int) == 0) = false := rfl
          have lt := bit_lt hb
          have ltN : k - 2 ^ pre.length < N := by omega
          have ltNi : ((k - 2 ^ pre.length : Nat) : Int) < N := by omega
          have gl := updF_low (g := fun q => (ent j r q).1) (k := k) (q := k - 2 ^ pre.length) acc.1 lt
          try dsimp only at gl
          have hin := ent_in hj hr hs (k - 2 ^ pre.length)
          generalize hx : (ent j r (k - 2 ^ pre.length)).1 = x at *
          have hx0 : 0 ≤ x := by rw [← hx]; exact hin.lo
          have hx1 : x = NEV ∨ x ≤ r.l := by rw [← hx]; exact hin.hi
          by_cases hnev : NEV ≤ x
          · rw [if_pos (Or.inr hnev)]
            have hnev' : (1048576 : Int) ≤ x := hnev
            simp (maxSteps := 1000000) (implicitDefEqProofs := false) only [g1, g2, g3, g4, sh, ab, an, q10, kN, kNi, ltN, ltNi, arr_get, arr_len, gl, hnev', arrOb, regT ho2 hi2, regT ho3 hi3, evBT_nil, evBT_cons, effT_true, effT_false, effT2_some, effT2_none, calmT, free, Eff.writes, supp, isBar, Option.toList_some, Option.toList_none, encStrip, Int.natCast_nonneg, Int.toNat_natCast, List.getElem?_map, List.length_map, ss, sd, evOp, evPlain, evVal, evMem, St.get, sliceOf, arrayOf, fieldsOf, normOf, norm, look, evVar, evFieldAddr, nameOf, St.alloc, St.drop, killOb, part, splice, depth, resultsV, ↓reduceIte, Nat.reduceBEq, Nat.reduceAdd, Nat.reduceSub, Nat.reduceMul, Nat.reduceEqDiff, Nat.reduceLeDiff, Nat.reduceLT, effOf, effMem, effVar, effLit, effMake, effApp, lend, evLit, evNil, freeze, evField, evIndexT, orNil, evSlice, placeOf, evMap, mapOf, keyOk, evFrame, closed, fixed, sameEs, wit, Option.isSome_some, St.with, wantedD, Array.size, te, einl, inls, efr]
            (first | exact ⟨(), trivial⟩ | refine ⟨(), ?_, trivial⟩ | skip)
          · rw [if_neg (fun h => h.elim (fun h => by cases h) hnev)]
            have hnev' : ¬ (1048576 : Int) ≤ x := hnev
            have hxl : x ≤ 300 := by
              have := hx1.resolve_left (fun e => hnev (by rw [e]; exact Int.le_refl _))
              omega
            have kn : (orcω E X0).call 133 [encRoll r, .int .i64 x, encStrip s] = some (.int .i64 (nextM r.ph j.rep x s.a)) := by
              rw [hrep, next_one]; exact c133 r x s
            have ks := c106 s ⟨ho.2.1, ho.2.2⟩
            have nx := next_in (phase := r.ph) (rep := j.rep) (at' := x) (a := s.a) b1.1.1
            have hsz : sizeM s = s.b - s.a := rfl
            generalize nextM r.ph j.rep x s.a = y at *
            have sz : 1 ≤ sizeM s ∧ sizeM s ≤ 60 := by omega
            generalize sizeM s = z at *
            have w2 : IntKind.i64.wrap (y + z) = y + z := wrap_in (by omega)
            have ga := updF_at (lowE (fun q => (ent j r q).1) k) k acc.1
            unfold encRoll encStrip at *
            by_cases c1 : y + z ≤ r.l
            · by_cases c2 : y + z < acc.1
              · rw [if_pos ⟨c1, c2⟩]
                simp (maxSteps := 1000000) (implicitDefEqProofs := false) only [g1, g2, g3, g4, sh, ab, an, q10, kN, kNi, ltN, ltNi, arr_get, arr_len, arr_set, updF_updF, gl, ga, hnev', kn, ks, w2, c1, c2, arrOb, regT ho2 hi2, regT ho3 hi3, evBT_nil, evBT_cons, effT_true, effT_false, effT2_some, effT2_none, calmT, free, Eff.writes, supp, isBar, Option.toList_some, Option.toList_none, regT ho4 hi4, Int.natCast_nonneg, Int.toNat_natCast, List.getElem?_map, List.length_map, ss, sd, evOp, evPlain, evVal, evMem, St.get, sliceOf, arrayOf, fieldsOf, normOf, norm, look, evVar, evFieldAddr, nameOf, St.alloc, St.drop, killOb, part, splice, depth, resultsV, ↓reduceIte, Nat.reduceBEq, Nat.reduceAdd, Nat.reduceSub, Nat.reduceMul, Nat.reduceEqDiff, Nat.reduceLeDiff, Nat.reduceLT, effOf, effMem, effVar, effLit, effMake, effApp, lend, evLit, evNil, freeze, evField, evIndexT, orNil, evSlice, placeOf, evMap, mapOf, keyOk, evFrame, closed, fixed, sameEs, wit, Option.isSome_some, St.with, wantedD, Array.size, te, einl, inls, efr]
                (first | exact ⟨(), trivial⟩ | refine ⟨(), ?_, trivial⟩ | skip)
              · rw [if_neg (fun h => c2 h.2)]
                simp (maxSteps := 1000000) (implicitDefEqProofs := false) only [g1, g2, g3, g4, sh, ab, an, q10, kN, kNi, ltN, ltNi, arr_get, arr_len, gl, ga, hnev', kn, ks, w2, c1, c2, arrOb, regT ho2 hi2, regT ho3 hi3, evBT_nil, evBT_cons, effT_true, effT_false, effT2_some, effT2_none, calmT, free, Eff.writes, supp, isBar, Option.toList_some, Option.toList_none, regT ho4 hi4, Int.natCast_nonneg, Int.toNat_natCast, List.getElem?_map, List.length_map, ss, sd, evOp, evPlain, evVal, evMem, St.get, sliceOf, arrayOf, fieldsOf, normOf, norm, look, evVar, evFieldAddr, nameOf, St.alloc, St.drop, killOb, part, splice, depth, resultsV, ↓reduceIte, Nat.reduceBEq, Nat.reduceAdd, Nat.reduceSub, Nat.reduceMul, Nat.reduceEqDiff, Nat.reduceLeDiff, Nat.reduceLT, effOf, effMem, effVar, effLit, effMake, effApp, lend, evLit, evNil, freeze, evField, evIndexT, orNil, evSlice, placeOf, evMap, mapOf, keyOk, evFrame, closed, fixed, sameEs, wit, Option.isSome_some, St.with, wantedD, Array.size, te, einl, inls, efr]
                (first | exact ⟨(), trivial⟩ | refine ⟨(), ?_, trivial⟩ | skip)
            · rw [if_neg (fun h => c1 h.1)]
              simp (maxSteps := 1000000) (implicitDefEqProofs := false) only [g1, g2, g3, g4, sh, ab, an, q10, kN, kNi, ltN, ltNi, arr_get, arr_len, gl, ga, hnev', kn, ks, w2, c1, arrOb, regT ho2 hi2, regT ho3 hi3, evBT_nil, evBT_cons, effT_true, effT_false, effT2_some, effT2_none, calmT, free, Eff.writes, supp, isBar, Option.toList_some, Option.toList_none, regT ho4 hi4, Int.natCast_nonneg, Int.toNat_natCast, List.getElem?_map, List.length_map, ss, sd, evOp, evPlain, evVal, evMem, St.get, sliceOf, arrayOf, fieldsOf, normOf, norm, look, evVar, evFieldAddr, nameOf, St.alloc, St.drop, killOb, part, splice, depth, resultsV, ↓reduceIte, Nat.reduceBEq, Nat.reduceAdd, Nat.reduceSub, Nat.reduceMul, Nat.reduceEqDiff, Nat.reduceLeDiff, Nat.reduceLT, effOf, effMem, effVar, effLit, effMake, effApp, lend, evLit, evNil, freeze, evField, evIndexT, orNil, evSlice, placeOf, evMap, mapOf, keyOk, evFrame, closed, fixed, sameEs, wit, Option.isSome_some, St.with, wantedD, Array.size, te, einl, inls, efr]
              (first | exact ⟨(), trivial⟩ | refine ⟨(), ?_, trivial⟩ | skip)
  · rw [if_neg hrep] at k9

    simp (maxSteps := 1000000) (implicitDefEqProofs := false) only [Try.ntmps88, Try.results88, efc88, fc88, k9, shl, evField, encRoll, hroom, hbig, regT ho1 hi1, evBT_nil, evBT_cons, effT_true, effT_false, effT2_some, effT2_none, calmT, free, Eff.writes, supp, isBar, Option.toList_some, Option.toList_none, Int.natCast_nonneg, Int.toNat_natCast, and_self, if_true, List.length_map, ss, sd, evOp, evPlain, evVal, evMem, St.get, sliceOf, arrayOf, fieldsOf, normOf, norm, look, evVar, evFieldAddr, nameOf, St.alloc, St.drop, killOb, part, splice, depth, resultsV, ↓reduceIte, Nat.reduceBEq, Nat.reduceAdd, Nat.reduceSub, Nat.reduceMul, Nat.reduceEqDiff, Nat.reduceLeDiff, Nat.reduceLT, effOf, effMem, effVar, effLit, effMake, effApp, lend, evLit, evNil, freeze, evField, evIndexT, orNil, evSlice, placeOf, evMap, mapOf, keyOk, evFrame, closed, fixed, sameEs, wit, Option.isSome_some, St.with, wantedD, Array.size, te, einl, inls, efr]
    generalize hr : loopAt _ _ _ _ _ _ = r; revert r
    rw [arr_zero]
    refine loop_inv (ι := { k : Nat // 1 ≤ k ∧ k ≤ N }) (fun k => [(8, .int .i64 (k.1 : Nat))]) (fun k => [(17, arrOb (lowE (fun q => (ent j r q).1) k.1) N), (19, arrOb (lowE (fun q => (ent j r q).2) k.1) N)]) (fun k => N - k.1) ⟨1, by omega, hN1⟩ (by
      have z1 : arrL (lowE (fun q => (ent j r q).1) 1) N = arrL (fun _ => 0) N := arr_congr fun q _ => by
        unfold lowE
        split
        · rename_i h
          obtain rfl : q = 0 := by omega
          rfl
        · rfl
      have z2 : arrL (lowE (fun q => (ent j r q).2) 1) N = arrL (fun _ => 0) N := arr_congr fun q _ => by
        unfold lowE
        split
        · rename_i h
          obtain rfl : q = 0 := by omega
          rfl
        · rfl
      simp (maxSteps := 1000000) (implicitDefEqProofs := false) only [arrOb, z1, z2, Int.natCast_one, ss, sd, evOp, evPlain, evVal, evMem, St.get, sliceOf, arrayOf, fieldsOf, normOf, norm, look, evVar, evFieldAddr, nameOf, St.alloc, St.drop, killOb, part, splice, depth, resultsV, ↓reduceIte, Nat.reduceBEq, Nat.reduceAdd, Nat.reduceSub, Nat.reduceMul, Nat.reduceEqDiff, Nat.reduceLeDiff, Nat.reduceLT, effOf, effMem, effVar, effLit, effMake, effApp, lend, evLit, evNil, freeze, evField, evIndexT, orNil, evSlice, placeOf, evMap, mapOf, keyOk, evFrame, closed, fixed, sameEs, wit, Option.isSome_some, St.with, wantedD, Array.size, te, einl, inls, efr]) ?_
    rintro ⟨k, k1, k2⟩
    dsimp only
    by_cases hk : k = N
    · subst hk
      have t1 : arrL (lowE (fun q => (ent j r q).1) k) k = arrL (fun q => (ent j r q).1) k := arr_congr fun q hq => if_pos hq
      have t2 : arrL (lowE (fun q => (ent j r q).2) k) k = arrL (fun q => (ent j r q).2) k := arr_congr fun q hq => if_pos hq
      have t3 : ∀ f, (arrL f k).take k = arrL f k := fun f => List.take_of_length_le (by rw [arr_len]; exact Nat.le_refl _)
      simp (maxSteps := 1000000) (implicitDefEqProofs := false) only [Int.lt_irrefl, arrOb, t1, t2, t3, arr_len, Try.ntmps88, Try.results88, efc88, fc88, ss, sd, evOp, evPlain, evVal, evMem, St.get, sliceOf, arrayOf, fieldsOf, normOf, norm, look, evVar, evFieldAddr, nameOf, St.alloc, St.drop, killOb, part, splice, depth, resultsV, ↓reduceIte, Nat.reduceBEq, Nat.reduceAdd, Nat.reduceSub, Nat.reduceMul, Nat.reduceEqDiff, Nat.reduceLeDiff, Nat.reduceLT, effOf, effMem, effVar, effLit, effMake, effApp, lend, evLit, evNil, freeze, evField, evIndexT, orNil, evSlice, placeOf, evMap, mapOf, keyOk, evFrame, closed, fixed, sameEs, wit, Option.isSome_some, St.with, wantedD, Array.size, te, einl, inls, efr]
    · have kN : k < N := by omega
      have kNi : (k : Int) < N := by omega
      have w1 : IntKind.i64.wrap ((k : Int) + 1) = ((k + 1 : Nat) : Int) := by rw [wrap_in (by omega)]; omega
      simp (maxSteps := 1000000) (implicitDefEqProofs := false) only [kNi, kN, arrOb, arr_get, arr_set, arr_len, Int.natCast_nonneg, Int.toNat_natCast, List.length_map, ss, sd, evOp, evPlain, evVal, evMem, St.get, sliceOf, arrayOf, fieldsOf, normOf, norm, look, evVar, evFieldAddr, nameOf, St.alloc, St.drop, killOb, part, splice, depth, resultsV, ↓reduceIte, Nat.reduceBEq, Nat.reduceAdd, Nat.reduceSub, Nat.reduceMul, Nat.reduceEqDiff, Nat.reduceLeDiff, Nat.reduceLT, effOf, effMem, effVar, effLit, effMake, effApp, lend, evLit, evNil, freeze, evField, evIndexT, orNil, evSlice, placeOf, evMap, mapOf, keyOk, evFrame, closed, fixed, sameEs, wit, Option.isSome_some, St.with, wantedD, Array.size, te, einl, inls, efr]
      generalize hr : loopAt _ _ _ _ _ _ = r; revert r
      refine loop_list j.ss (fun pre _ => [(37, .int .i64 pre.length)]) (fun pre _ => [(17, arrOb (updF (lowE (fun q => (ent j r q).1) k) k (packTo j r (ent j r) k pre.length).1) N), (19, arrOb (updF (lowE (fun q => (ent j r q).2) k) k (packTo j r (ent j r) k pre.length).2) N)]) (fun _ (_ : Unit) => True) () (by omega) (by
        have z2 := low_same (fun q => (ent j r q).2) k N
        simp (maxSteps := 1000000) (implicitDefEqProofs := false) only [arrOb, z2, packTo, List.range_zero, List.foldl_nil, NEV, ss, sd, evOp, evPlain, evVal, evMem, St.get, sliceOf, arrayOf, fieldsOf, normOf, norm, look, evVar, evFieldAddr, nameOf, St.alloc, St.drop, killOb, part, splice, depth, resultsV, ↓reduceIte, Nat.reduceBEq, Nat.reduceAdd, Nat.reduceSub, Nat.reduceMul, Nat.reduceEqDiff, Nat.reduceLeDiff, Nat.reduceLT, effOf, effMem, effVar, effLit, effMake, effApp, lend, evLit, evNil, freeze, evField, evIndexT, orNil, evSlice, placeOf, evMap, mapOf, keyOk, evFrame, closed, fixed, sameEs, wit, Option.isSome_some, St.with, wantedD, Array.size, te, einl, inls, efr]) trivial (fun _ _ => ?_) (fun pre s post _ hp _ g1 g2 g3 g4 => ?_)
      · have z1 := low_next (fun q => (ent j r q).1) k N
        have z2 := low_next (fun q => (ent j r q).2) k N
        rw [ent_eq k1] at z1 z2
        simp (maxSteps := 1000000) (implicitDefEqProofs := false) only [Int.lt_irrefl, arrOb, z1, z2, w1, ss, sd, evOp, evPlain, evVal, evMem, St.get, sliceOf, arrayOf, fieldsOf, normOf, norm, look, evVar, evFieldAddr, nameOf, St.alloc, St.drop, killOb, part, splice, depth, resultsV, ↓reduceIte, Nat.reduceBEq, Nat.reduceAdd, Nat.reduceSub, Nat.reduceMul, Nat.reduceEqDiff, Nat.reduceLeDiff, Nat.reduceLT, effOf, effMem, effVar, effLit, effMake, effApp, lend, evLit, evNil, freeze, evField, evIndexT, orNil, evSlice, placeOf, evMap, mapOf, keyOk, evFrame, closed, fixed, sameEs, wit, Option.isSome_some, St.with, wantedD, Array.size, te, einl, inls, efr]
        exact ⟨⟨k + 1, by omega, by omega⟩, by first | rfl | simp, by dsimp only; omega⟩
      · have hlt : pre.length < j.ss.length := g2
        have gs : j.ss[pre.length]? = some s := g3
        have hst : stripI j pre.length = s := by unfold stripI; exact getD_of gs
        have hi : pre.length < 6 := by omega
        have hk64 : k < 64 := by omega
        have ab := and_bit hk64 hi
        have hps : packTo j r (ent j r) k (pre ++ [s]).length = packStep j r (ent j r) k (packTo j r (ent j r) k pre.length) pre.length := by rw [show (pre ++ [s]).length = pre.length + 1 by simp, packTo_succ]
        have hacc := packTo_in hj hr hs (T := ent j r) (ent_in hj hr hs) (set := k) pre.length (by omega)
        rw [hps]
        unfold packStep
        rw [hst]
        have ho := stripOk_iff.1 (hs s (List.mem_of_getElem? gs))
        have sh := shi pre.length hlt
        generalize packTo j r (ent j r) k pre.length = acc at *
        cases hb : bitP k pre.length with
        | false =>
          rw [hb] at ab
          have ab : bitsI .and .i64 ((k : Int).fdiv (2 ^ (min pre.length (IntKind.bits .i64)))) 1 = 0 := ab
          rw [if_pos (Or.inl rfl)]
          simp (maxSteps := 1000000) (implicitDefEqProofs := false) only [g1, g2, g3, g4, ab, beq_self_eq_true, arrOb, regT ho2 hi2, regT ho3 hi3, evBT_nil, evBT_cons, effT_true, effT_false, effT2_some, effT2_none, calmT, free, Eff.writes, supp, isBar, Option.toList_some, Option.toList_none, encStrip, Int.natCast_nonneg, Int.toNat_natCast, List.getElem?_map, List.length_map, ss, sd, evOp, evPlain, evVal, evMem, St.get, sliceOf, arrayOf, fieldsOf, normOf, norm, look, evVar, evFieldAddr, nameOf, St.alloc, St.drop, killOb, part, splice, depth, resultsV, ↓reduceIte, Nat.reduceBEq, Nat.reduceAdd, Nat.reduceSub, Nat.reduceMul, Nat.reduceEqDiff, Nat.reduceLeDiff, Nat.reduceLT, effOf, effMem, effVar, effLit, effMake, effApp, lend, evLit, evNil, freeze, evField, evIndexT, orNil, evSlice, placeOf, evMap, mapOf, keyOk, evFrame, closed, fixed, sameEs, wit, Option.isSome_some, St.with, wantedD, Array.size, te, einl, inls, efr]
          (first | exact ⟨(), trivial⟩ | refine ⟨(), ?_, trivial⟩ | skip)
        | true =>
          rw [hb] at ab
          have ab : bitsI .and .i64 ((k : Int).fdiv (2 ^ (min pre.length (IntKind.bits .i64)))) 1 = 1 := ab
          have an := andNot_bit hk64 hi hb
          have q10 : ((1 : Int) == 0) = false := rfl
          have lt := bit_lt hb
          have ltN : k - 2 ^ pre.length < N := by omega
          have ltNi : ((k - 2 ^ pre.length : Nat) : Int) < N := by omega
          have gl := updF_low (g := fun q => (ent j r q).1) (k := k) (q := k - 2 ^ pre.length) acc.1 lt
          try dsimp only at gl
          have hin := ent_in hj hr hs (k - 2 ^ pre.length)
          generalize hx : (ent j r (k - 2 ^ pre.length)).1 = x at *
          have hx0 : 0 ≤ x := by rw [← hx]; exact hin.lo
          have hx1 : x = NEV ∨ x ≤ r.l := by rw [← hx]; exact hin.hi
          by_cases hnev : NEV ≤ x
          · rw [if_pos (Or.inr hnev)]
            have hnev' : (1048576 : Int) ≤ x := hnev
            simp (maxSteps := 1000000) (implicitDefEqProofs := false) only [g1, g2, g3, g4, sh, ab, an, q10, kN, kNi, ltN, ltNi, arr_get, arr_len, gl, hnev', arrOb, regT ho2 hi2, regT ho3 hi3, evBT_nil, evBT_cons, effT_true, effT_false, effT2_some, effT2_none, calmT, free, Eff.writes, supp, isBar, Option.toList_some, Option.toList_none, encStrip, Int.natCast_nonneg, Int.toNat_natCast, List.getElem?_map, List.length_map, ss, sd, evOp, evPlain, evVal, evMem, St.get, sliceOf, arrayOf, fieldsOf, normOf, norm, look, evVar, evFieldAddr, nameOf, St.alloc, St.drop, killOb, part, splice, depth, resultsV, ↓reduceIte, Nat.reduceBEq, Nat.reduceAdd, Nat.reduceSub, Nat.reduceMul, Nat.reduceEqDiff, Nat.reduceLeDiff, Nat.reduceLT, effOf, effMem, effVar, effLit, effMake, effApp, lend, evLit, evNil, freeze, evField, evIndexT, orNil, evSlice, placeOf, evMap, mapOf, keyOk, evFrame, closed, fixed, sameEs, wit, Option.isSome_some, St.with, wantedD, Array.size, te, einl, inls, efr]
            (first | exact ⟨(), trivial⟩ | refine ⟨(), ?_, trivial⟩ | skip)
          · rw [if_neg (fun h => h.elim (fun h => by cases h) hnev)]
            have hnev' : ¬ (1048576 : Int) ≤ x := hnev
            have hxl : x ≤ 300 := by
              have := hx1.resolve_left (fun e => hnev (by rw [e]; exact Int.le_refl _))
              omega
            have kn : (orcω E X0).call 134 [encRoll r, .int .i64 x, encStrip s, .fp false [.int .i64 j.rep] 0] = some (.int .i64 (nextM r.ph j.rep x s.a)) := c134 r x s j.rep hr (hs s (List.mem_of_getElem? gs)) ⟨hx0, by omega⟩
            have ks := c106 s ⟨ho.2.1, ho.2.2⟩
            have nx := next_in (phase := r.ph) (rep := j.rep) (at' := x) (a := s.a) b1.1.1
            have hsz : sizeM s = s.b - s.a := rfl
            generalize nextM r.ph j.rep x s.a = y at *
            have sz : 1 ≤ sizeM s ∧ sizeM s ≤ 60 := by omega
            generalize sizeM s = z at *
            have w2 : IntKind.i64.wrap (y + z) = y + z := wrap_in (by omega)
            have ga := updF_at (lowE (fun q => (ent j r q).1) k) k acc.1
            unfold encRoll encStrip at *
            by_cases c1 : y + z ≤ r.l
            · by_cases c2 : y + z < acc.1
              · rw [if_pos ⟨c1, c2⟩]
                simp (maxSteps := 1000000) (implicitDefEqProofs := false) only [g1, g2, g3, g4, sh, ab, an, q10, kN, kNi, ltN, ltNi, arr_get, arr_len, arr_set, updF_updF, gl, ga, hnev', kn, ks, w2, c1, c2, arrOb, regT ho2 hi2, regT ho3 hi3, evBT_nil, evBT_cons, effT_true, effT_false, effT2_some, effT2_none, calmT, free, Eff.writes, supp, isBar, Option.toList_some, Option.toList_none, regT ho4 hi4, Int.natCast_nonneg, Int.toNat_natCast, List.getElem?_map, List.length_map, ss, sd, evOp, evPlain, evVal, evMem, St.get, sliceOf, arrayOf, fieldsOf, normOf, norm, look, evVar, evFieldAddr, nameOf, St.alloc, St.drop, killOb, part, splice, depth, resultsV, ↓reduceIte, Nat.reduceBEq, Nat.reduceAdd, Nat.reduceSub, Nat.reduceMul, Nat.reduceEqDiff, Nat.reduceLeDiff, Nat.reduceLT, effOf, effMem, effVar, effLit, effMake, effApp, lend, evLit, evNil, freeze, evField, evIndexT, orNil, evSlice, placeOf, evMap, mapOf, keyOk, evFrame, closed, fixed, sameEs, wit, Option.isSome_some, St.with, wantedD, Array.size, te, einl, inls, efr]
                (first | exact ⟨(), trivial⟩ | refine ⟨(), ?_, trivial⟩ | skip)
              · rw [if_neg (fun h => c2 h.2)]
                simp (maxSteps := 1000000) (implicitDefEqProofs := false) only [g1, g2, g3, g4, sh, ab, an, q10, kN, kNi, ltN, ltNi, arr_get, arr_len, gl, ga, hnev', kn, ks, w2, c1, c2, arrOb, regT ho2 hi2, regT ho3 hi3, evBT_nil, evBT_cons, effT_true, effT_false, effT2_some, effT2_none, calmT, free, Eff.writes, supp, isBar, Option.toList_some, Option.toList_none, regT ho4 hi4, Int.natCast_nonneg, Int.toNat_natCast, List.getElem?_map, List.length_map, ss, sd, evOp, evPlain, evVal, evMem, St.get, sliceOf, arrayOf, fieldsOf, normOf, norm, look, evVar, evFieldAddr, nameOf, St.alloc, St.drop, killOb, part, splice, depth, resultsV, ↓reduceIte, Nat.reduceBEq, Nat.reduceAdd, Nat.reduceSub, Nat.reduceMul, Nat.reduceEqDiff, Nat.reduceLeDiff, Nat.reduceLT, effOf, effMem, effVar, effLit, effMake, effApp, lend, evLit, evNil, freeze, evField, evIndexT, orNil, evSlice, placeOf, evMap, mapOf, keyOk, evFrame, closed, fixed, sameEs, wit, Option.isSome_some, St.with, wantedD, Array.size, te, einl, inls, efr]
                (first | exact ⟨(), trivial⟩ | refine ⟨(), ?_, trivial⟩ | skip)
            · rw [if_neg (fun h => c1 h.1)]
              simp (maxSteps := 1000000) (implicitDefEqProofs := false) only [g1, g2, g3, g4, sh, ab, an, q10, kN, kNi, ltN, ltNi, arr_get, arr_len, gl, ga, hnev', kn, ks, w2, c1, arrOb, regT ho2 hi2, regT ho3 hi3, evBT_nil, evBT_cons, effT_true, effT_false, effT2_some, effT2_none, calmT, free, Eff.writes, supp, isBar, Option.toList_some, Option.toList_none, regT ho4 hi4, Int.natCast_nonneg, Int.toNat_natCast, List.getElem?_map, List.length_map, ss, sd, evOp, evPlain, evVal, evMem, St.get, sliceOf, arrayOf, fieldsOf, normOf, norm, look, evVar, evFieldAddr, nameOf, St.alloc, St.drop, killOb, part, splice, depth, resultsV, ↓reduceIte, Nat.reduceBEq, Nat.reduceAdd, Nat.reduceSub, Nat.reduceMul, Nat.reduceEqDiff, Nat.reduceLeDiff, Nat.reduceLT, effOf, effMem, effVar, effLit, effMake, effApp, lend, evLit, evNil, freeze, evField, evIndexT, orNil, evSlice, placeOf, evMap, mapOf, keyOk, evFrame, closed, fixed, sameEs, wit, Option.isSome_some, St.with, wantedD, Array.size, te, einl, inls, efr]
              (first | exact ⟨(), trivial⟩ | refine ⟨(), ?_, trivial⟩ | skip)
end Go.AM.D
