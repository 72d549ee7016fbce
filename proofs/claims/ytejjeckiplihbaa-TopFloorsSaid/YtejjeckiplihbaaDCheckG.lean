/- A part of the proof: the texts DCheck, DCheckM, one after another. No condition. -/
import Derived.Test.YtejjeckiplihbaaDJob
import Derived.Test.YtejjeckiplihbaaAmBad
set_option linter.unusedSimpArgs false
set_option maxRecDepth 20000

section
/-
The first error of cuts.
-/
namespace Go.AM.D
open Go Go.AM Go.Proofs

def obB (us : List V) : Ob := { es := 1, flat := true, t := true, app := true, elems := us }
theorem firstE_step {j : Job} {c0 : Cut} {pre post : List Cut} {c : Cut} {e : Int} (h : oneE j c0 pre c = e) (he : ¬ e = 0) : firstE j c0 pre (c :: post) = e := by
  rw [firstE_cons, h, if_neg he]
theorem firstE_next {j : Job} {c0 : Cut} {pre post : List Cut} {c : Cut} (h : oneE j c0 pre c = 0) : firstE j c0 pre (c :: post) = firstE j c0 (pre ++ [c]) post := by
  rw [firstE_cons, h, if_pos rfl]
theorem checkL_bad {j : Job} {cuts : List Cut} {e : Int} (h : firstE j (head0 cuts) [] cuts = e) (he : ¬ e = 0) : checkL j cuts = e := by
  unfold checkL
  rw [h, if_neg he]
theorem checkL_done {j : Job} {cuts : List Cut} (h : firstE j (head0 cuts) [] cuts = 0) : checkL j cuts = if cuts.length < j.ss.length then 6 else 0 := by
  unfold checkL
  rw [if_pos h]
def bsL (n : Nat) (pre : List Cut) : List Bool := (List.range n).map (cutAt pre)
theorem done_bs (n : Nat) (pre : List Cut) : doneL n pre = (bsL n pre).map .bool := by
  unfold doneL bsL
  rw [List.map_map]
  rfl
theorem bs_false {n : Nat} {pre : List Cut} (h : countS n pre = pre.length) : decide (false ∈ bsL n pre) = decide (pre.length < n) := by
  refine decide_eq_decide.2 (Iff.trans ?_ (count_all h))
  unfold bsL
  rw [List.mem_map]
  constructor
  · rintro ⟨k, h1, h2⟩; exact ⟨k, List.mem_range.1 h1, h2⟩
  · rintro ⟨k, h1, h2⟩; exact ⟨k, List.mem_range.2 h1, h2⟩
theorem head_get {cuts pre post : List Cut} {x : Cut} (hp : cuts = pre ++ x :: post) : cuts[0]? = some (head0 cuts) ∧ (head0 cuts ∈ pre ∨ head0 cuts = x) := by
  subst hp
  cases pre with
  | nil => exact ⟨rfl, .inr rfl⟩
  | cons a l => exact ⟨rfl, .inl (List.mem_cons_self)⟩
theorem cut_any (pre : List Cut) {c : Cut} {k : Nat} (hc : c.s = k) : (pre.any fun y => decide (y.s = c.s)) = cutAt pre k := by
  unfold cutAt
  rw [hc]
theorem shade_get {j : Job} {c : Cut} {m : Nat} (hc : c.r = m) (h : m < j.rs.length) : j.rs[m]? = some (rollOf j c) := by
  have := roll_get (j := j) (c := c) (by omega)
  rw [hc, Int.toNat_natCast] at this
  exact this
theorem size_get {j : Job} {c : Cut} {k : Nat} (hc : c.s = k) (h : k < j.ss.length) : j.ss[k]? = some (stripOf j c) := by
  have := strip_get (j := j) (c := c) (by omega)
  rw [hc, Int.toNat_natCast] at this
  exact this

theorem sized_cuts (l : List Cut) : sized 3 (l.map encCut) = true := sized_map (f := encCut) (n := 3) (fun _ => ⟨_, rfl, rfl⟩) l
theorem inf84 : (drawn (Try.f84.body.getD .skip)).map infosOf = [[([], false), ([], false), ([], false), ([], false), ([], false), ([], false), ([], false), ([], false), ([], false), ([], false), ([], false), ([], false), ([1, 3, 4, 5, 7, 9, 10, 11], false), ([1, 3, 4, 5, 7, 9, 10, 11, 12], false), ([7, 9, 10, 11], false), ([], true)], [([], true), ([], true), ([], true), ([], true), ([], false), ([], false), ([], false), ([], false), ([], false), ([], false), ([], false), ([], true), ([], true)], [([], false), ([], false), ([], false), ([], false), ([], false), ([], false), ([], true), ([], true), ([], true), ([], false), ([], false), ([], false), ([], false), ([], false), ([], false), ([], false), ([], false), ([], false), ([], false), ([], false), ([], true), ([], true)], [([], false), ([], false), ([], false), ([], false), ([], true), ([], true), ([], false), ([], false), ([], false), ([], false), ([], false), ([], false), ([], false), ([], true), ([], true), ([], true), ([], false), ([], false), ([], false), ([], false), ([], false), ([], false), ([], false), ([], false), ([], false), ([], false), ([], false), ([], false), ([], true), ([], true)]] := by decide +kernel
theorem okD84 : (drawn (Try.f84.body.getD .skip)).all okBad = true := by decide +kernel
set_option maxRecDepth 20000 in
set_option maxHeartbeats 16000000 in
theorem c84 (j : Job) (cuts : List Cut) (hj : Right j) (hn : cuts.length ≤ 1000000000) : (orcω E X0).call 84 [encJob j, .sl false (cuts.map encCut)] = some (.int .i64 (checkL j cuts)) := by
  refine call_of rfl fn84 rfl ?_
  have hi := inf84
  have ho := okD84
  simp only [Try.f84, Option.getD_some, drawn, List.map_cons, List.map_nil, List.nil_append, List.append_nil, List.cons_append, List.cons.injEq, and_true] at hi
  simp only [Try.f84, Option.getD_some, drawn, List.nil_append, List.append_nil, List.cons_append, List.all_cons, List.all_nil, Bool.and_true, Bool.and_eq_true] at ho
  obtain ⟨hi1, hi2, hi3, hi4⟩ := hi
  obtain ⟨ho1, ho2, ho3, ho4⟩ := ho
  have h6 := hj.nss
  have h5 := hj.nrs
  have hroom : roomy j.ss.length 1 = true := by simp [roomy]; omega
  have u1 : ((j.ss.length : Int) ≤ 4294967296) = True := eq_true (by omega)
  have z1 := done_zero j.ss.length
  have eB := fun e h he => checkL_bad (j := j) (cuts := cuts) (e := e) h he
  have eD := fun h => checkL_done (j := j) (cuts := cuts) h
  have k0 := fun x lo hi => c63 x lo hi
  obtain ⟨F, hF⟩ : ∃ F, firstE j (head0 cuts) [] cuts = F := ⟨_, rfl⟩
  simp only [hF] at eB eD
  generalize checkL j cuts = res at *
  have k118 := fun n pre h => c118 (bsL n pre) h
  simp only [← done_bs] at k118
  simp (maxSteps := 1000000) (implicitDefEqProofs := false) only [Try.ntmps84, Try.results84, efc84, fc84, encJob, hroom, u1, z1, Int.natCast_nonneg, Int.toNat_natCast, List.length_map, ss, sd, evOp, evPlain, evVal, evMem, St.get, sliceOf, arrayOf, fieldsOf, normOf, norm, look, evVar, evFieldAddr, nameOf, St.alloc, St.drop, killOb, part, splice, depth, resultsV, ↓reduceIte, Nat.reduceBEq, Nat.reduceAdd, Nat.reduceSub, Nat.reduceMul, Nat.reduceEqDiff, Nat.reduceLeDiff, Nat.reduceLT, effOf, effMem, effVar, effLit, effMake, effApp, lend, evLit, evNil, freeze, evField, evIndexT, orNil, evSlice, placeOf, evMap, mapOf, keyOk, evFrame, closed, fixed, sameEs, wit, Option.isSome_some, St.with, wantedD, Array.size, te, einl, inls, efr]
  generalize hr : loopAt _ _ _ _ _ _ = r; revert r
  refine loop_list cuts (fun pre _ => [(18, .int .i64 pre.length)]) (fun pre _ => [(5, obB (doneL j.ss.length pre))]) (fun pre (_ : Unit) => Good j pre ∧ countS j.ss.length pre = pre.length ∧ firstE j (head0 cuts) pre (cuts.drop pre.length) = F) () (by omega) (by simp (maxSteps := 1000000) (implicitDefEqProofs := false) only [obB, ss, sd, evOp, evPlain, evVal, evMem, St.get, sliceOf, arrayOf, fieldsOf, normOf, norm, look, evVar, evFieldAddr, nameOf, St.alloc, St.drop, killOb, part, splice, depth, resultsV, ↓reduceIte, Nat.reduceBEq, Nat.reduceAdd, Nat.reduceSub, Nat.reduceMul, Nat.reduceEqDiff, Nat.reduceLeDiff, Nat.reduceLT, effOf, effMem, effVar, effLit, effMake, effApp, lend, evLit, evNil, freeze, evField, evIndexT, orNil, evSlice, placeOf, evMap, mapOf, keyOk, evFrame, closed, fixed, sameEs, wit, Option.isSome_some, St.with, wantedD, Array.size, te, einl, inls, efr]) ⟨(fun _ h => by cases h), by simp [countS, cutAt], hF⟩ (fun _ hI => ?_) (fun pre x post _ hp hI g1 g2 g3 g4 => ?_)
  · obtain ⟨hg, hc, hf⟩ := hI
    rw [List.drop_length] at hf
    have e1 := eD hf.symm
    have k1 := k118 j.ss.length cuts (by simp [bsL]; omega)
    rw [bs_false hc] at k1
    have dt : (doneL j.ss.length cuts).take j.ss.length = doneL j.ss.length cuts := List.take_of_length_le (by rw [done_len]; exact Nat.le_refl _)
    by_cases hlt : cuts.length < j.ss.length
    · rw [decide_eq_true hlt] at k1
      rw [if_pos hlt] at e1
      simp (maxSteps := 1000000) (implicitDefEqProofs := false) only [Int.lt_irrefl, k1, e1, dt, done_len, Nat.le_refl, if_true, obB, List.length_map, Try.ntmps84, Try.results84, efc84, fc84, ss, sd, evOp, evPlain, evVal, evMem, St.get, sliceOf, arrayOf, fieldsOf, normOf, norm, look, evVar, evFieldAddr, nameOf, St.alloc, St.drop, killOb, part, splice, depth, resultsV, ↓reduceIte, Nat.reduceBEq, Nat.reduceAdd, Nat.reduceSub, Nat.reduceMul, Nat.reduceEqDiff, Nat.reduceLeDiff, Nat.reduceLT, effOf, effMem, effVar, effLit, effMake, effApp, lend, evLit, evNil, freeze, evField, evIndexT, orNil, evSlice, placeOf, evMap, mapOf, keyOk, evFrame, closed, fixed, sameEs, wit, Option.isSome_some, St.with, wantedD, Array.size, te, einl, inls, efr]
    · rw [decide_eq_false hlt] at k1
      rw [if_neg hlt] at e1
      simp (maxSteps := 1000000) (implicitDefEqProofs := false) only [Int.lt_irrefl, k1, e1, dt, done_len, Nat.le_refl, if_true, obB, List.length_map, Try.ntmps84, Try.results84, efc84, fc84, ss, sd, evOp, evPlain, evVal, evMem, St.get, sliceOf, arrayOf, fieldsOf, normOf, norm, look, evVar, evFieldAddr, nameOf, St.alloc, St.drop, killOb, part, splice, depth, resultsV, ↓reduceIte, Nat.reduceBEq, Nat.reduceAdd, Nat.reduceSub, Nat.reduceMul, Nat.reduceEqDiff, Nat.reduceLeDiff, Nat.reduceLT, effOf, effMem, effVar, effLit, effMake, effApp, lend, evLit, evNil, freeze, evField, evIndexT, orNil, evSlice, placeOf, evMap, mapOf, keyOk, evFrame, closed, fixed, sameEs, wit, Option.isSome_some, St.with, wantedD, Array.size, te, einl, inls, efr]
  · obtain ⟨hg, hc, hf⟩ := hI
    have hd : cuts.drop pre.length = x :: post := by rw [hp]; simp
    have hd2 : cuts.drop (pre ++ [x]).length = post := by rw [hp]; simp
    rw [hd] at hf
    have bad : ∀ e, oneE j (head0 cuts) pre x = e → ¬ e = 0 → res = e := fun e h he => eB e (by rw [← hf]; exact firstE_step h he) he
    have next : oneE j (head0 cuts) pre x = 0 → firstE j (head0 cuts) (pre ++ [x]) (cuts.drop (pre ++ [x]).length) = F := fun h => by rw [hd2, ← firstE_next h]; exact hf
    have w8 : IntKind.i64.wrap ((j.ss.length : Int) - 1) = (j.ss.length : Int) - 1 := wrap_in (by omega)
    have w9 : IntKind.i64.wrap ((j.rs.length : Int) - 1) = (j.rs.length : Int) - 1 := wrap_in (by omega)
    have kA := k0 x.s 0 ((j.ss.length : Int) - 1)
    have kB := k0 x.r 0 ((j.rs.length : Int) - 1)
    by_cases p1 : 0 ≤ x.s ∧ x.s < j.ss.length
    rotate_left
    · have hb : inB x.s 0 ((j.ss.length : Int) - 1) = false := by
        rw [Bool.eq_false_iff]; intro h; have := inB_iff.1 h; omega
      have e1 := bad 5 (oneE_5 (by rw [Bool.eq_false_iff]; intro h; have := inCut_iff.1 h; omega)) (by decide)
      rw [hb] at kA
      simp (maxSteps := 1000000) (implicitDefEqProofs := false) only [g1, g2, g3, g4, w8, kA, e1, obB, encCut, Int.natCast_nonneg, Int.toNat_natCast, List.getElem?_map, List.length_map, Try.ntmps84, Try.results84, efc84, fc84, ss, sd, evOp, evPlain, evVal, evMem, St.get, sliceOf, arrayOf, fieldsOf, normOf, norm, look, evVar, evFieldAddr, nameOf, St.alloc, St.drop, killOb, part, splice, depth, resultsV, ↓reduceIte, Nat.reduceBEq, Nat.reduceAdd, Nat.reduceSub, Nat.reduceMul, Nat.reduceEqDiff, Nat.reduceLeDiff, Nat.reduceLT, effOf, effMem, effVar, effLit, effMake, effApp, lend, evLit, evNil, freeze, evField, evIndexT, orNil, evSlice, placeOf, evMap, mapOf, keyOk, evFrame, closed, fixed, sameEs, wit, Option.isSome_some, St.with, wantedD, Array.size, te, einl, inls, efr]
    have hb : inB x.s 0 ((j.ss.length : Int) - 1) = true := inB_iff.2 (by omega)
    rw [hb] at kA
    by_cases p2 : 0 ≤ x.r ∧ x.r < j.rs.length
    rotate_left
    · have hb : inB x.r 0 ((j.rs.length : Int) - 1) = false := by
        rw [Bool.eq_false_iff]; intro h; have := inB_iff.1 h; omega
      have e1 := bad 5 (oneE_5 (by rw [Bool.eq_false_iff]; intro h; have := inCut_iff.1 h; omega)) (by decide)
      rw [hb] at kB
      simp (maxSteps := 1000000) (implicitDefEqProofs := false) only [g1, g2, g3, g4, w8, w9, kA, kB, e1, obB, encCut, Int.natCast_nonneg, Int.toNat_natCast, List.getElem?_map, List.length_map, Try.ntmps84, Try.results84, efc84, fc84, ss, sd, evOp, evPlain, evVal, evMem, St.get, sliceOf, arrayOf, fieldsOf, normOf, norm, look, evVar, evFieldAddr, nameOf, St.alloc, St.drop, killOb, part, splice, depth, resultsV, ↓reduceIte, Nat.reduceBEq, Nat.reduceAdd, Nat.reduceSub, Nat.reduceMul, Nat.reduceEqDiff, Nat.reduceLeDiff, Nat.reduceLT, effOf, effMem, effVar, effLit, effMake, effApp, lend, evLit, evNil, freeze, evField, evIndexT, orNil, evSlice, placeOf, evMap, mapOf, keyOk, evFrame, closed, fixed, sameEs, wit, Option.isSome_some, St.with, wantedD, Array.size, te, einl, inls, efr]
    have hb : inB x.r 0 ((j.rs.length : Int) - 1) = true := inB_iff.2 (by omega)
    rw [hb] at kB
    have hin : inCut j x = true := inCut_iff.2 ⟨p1.1, p1.2, p2.1, p2.2⟩
    obtain ⟨k, hk⟩ : ∃ k : Nat, x.s = k := ⟨x.s.toNat, by omega⟩
    obtain ⟨m, hm⟩ : ∃ m : Nat, x.r = m := ⟨x.r.toNat, by omega⟩
    have gs := size_get (j := j) hk (by omega)
    have gr := shade_get (j := j) hm (by omega)
    have gd := done_get (n := j.ss.length) (pre := pre) (k := k) (by omega)
    have hs := hj.ss _ (List.mem_of_getElem? gs)
    have hr := hj.rs _ (List.mem_of_getElem? gr)
    have kk : (k : Int) < j.ss.length := by omega
    have km : (m : Int) < j.rs.length := by omega
    obtain ⟨q1, q2⟩ := head_get hp
    have hc0 : 0 ≤ (head0 cuts).r ∧ (head0 cuts).r < j.rs.length := by
      rcases q2 with q2 | q2
      · have := hg _ q2; omega
      · rw [q2]; exact p2
    obtain ⟨m0, hm0⟩ : ∃ m0 : Nat, (head0 cuts).r = m0 := ⟨(head0 cuts).r.toNat, by omega⟩
    have gr0 := shade_get (j := j) hm0 (by omega)
    have km0 : (m0 : Int) < j.rs.length := by omega
    have ca := cut_any pre hk
    cases hcut : cutAt pre k with
    | true =>
      rw [hcut] at gd ca
      have e1 := bad 8 (oneE_8 hin ca) (by decide)
      rw [hk] at kA
      rw [hm] at kB
      obtain ⟨xs, xr, xa⟩ := x
      dsimp only at hk hm
      subst hk hm
      simp (maxSteps := 1000000) (implicitDefEqProofs := false) only [g1, g2, g3, g4, w8, w9, kA, kB, kk, gd, e1, obB, encCut, Int.natCast_nonneg, Int.toNat_natCast, List.getElem?_map, List.length_map, done_len, Try.ntmps84, Try.results84, efc84, fc84, ss, sd, evOp, evPlain, evVal, evMem, St.get, sliceOf, arrayOf, fieldsOf, normOf, norm, look, evVar, evFieldAddr, nameOf, St.alloc, St.drop, killOb, part, splice, depth, resultsV, ↓reduceIte, Nat.reduceBEq, Nat.reduceAdd, Nat.reduceSub, Nat.reduceMul, Nat.reduceEqDiff, Nat.reduceLeDiff, Nat.reduceLT, effOf, effMem, effVar, effLit, effMake, effApp, lend, evLit, evNil, freeze, evField, evIndexT, orNil, evSlice, placeOf, evMap, mapOf, keyOk, evFrame, closed, fixed, sameEs, wit, Option.isSome_some, St.with, wantedD, Array.size, te, einl, inls, efr]
    | false =>
    rw [hcut] at gd ca
    have k106 := c106 (stripOf j x) hs.2
    have fit : fits j x = (decide (0 ≤ x.a) && decide (x.a ≤ (rollOf j x).l - sizeM (stripOf j x))) := rfl
    have hsz : sizeM (stripOf j x) = (stripOf j x).b - (stripOf j x).a := rfl
    have w1 : IntKind.i64.wrap ((rollOf j x).l - sizeM (stripOf j x)) = (rollOf j x).l - sizeM (stripOf j x) := wrap_in (by omega)
    have bad11 := fun h => bad 11 (oneE_11 hin ca h) (by decide)
    have bad13 := fun h1 h2 => bad 13 (oneE_13 hin ca h1 h2) (by decide)
    have bad10 := fun h1 h2 h3 => bad 10 (oneE_10 hin ca h1 h2 h3) (by decide)
    have ok0 := fun h1 h2 h3 => next (oneE_0 hin ca h1 h2 h3)
    have good0 := fun h1 h2 h3 => good_snoc hj hg (oneE_zero (c0 := head0 cuts) (oneE_0 hin ca h1 h2 h3))
    have cnt0 : countS j.ss.length (pre ++ [x]) = (pre ++ [x]).length := by
      rw [count_snoc p1, hc, List.length_append]
      · rfl
      · intro y hy hys
        rw [List.any_eq_false] at ca
        exact absurd (decide_eq_true hys) (ca y hy)
    have k117 := fun h => c117 (rollOf j x) j.rep x.a (stripOf j x) hj.rep hr.2.1 h (by omega)
    have cl : ∀ y, clash j x y = (decide (y.r = x.r) && decide (y.a < x.a + sizeM (stripOf j x)) && decide (x.a < y.a + sizeM (stripOf j y))) := fun _ => rfl
    have ds := done_set (n := j.ss.length) (pre := pre) hk
    have hph : phased j x = decide (((rollOf j x).ph + x.a) % j.rep = (stripOf j x).a % j.rep) := rfl
    have hz : sizeM (stripOf j x) ≤ 60 ∧ 1 ≤ sizeM (stripOf j x) := by rw [hsz]; omega
    have hr0 := hj.rs _ (List.mem_of_getElem? gr0)
    have a0 : (0 : Int) < cuts.length := by omega
    have hpre : pre = cuts.take pre.length := by rw [hp]; simp
    have k6 : ∀ y ∈ pre, ∃ (ky : Nat) (my : Nat), y.s = ky ∧ (ky : Int) < j.ss.length ∧ y.r = my ∧ j.ss[ky]? = some (stripOf j y) ∧ (0 ≤ y.a ∧ y.a ≤ 300) ∧ (0 ≤ (stripOf j y).a ∧ (stripOf j y).a < (stripOf j y).b ∧ (stripOf j y).b ≤ 60) := fun y hy => by
      have h1 := hg y hy
      have h2 := strip_get (j := j) (c := y) ⟨h1.1.1, h1.1.2.1⟩
      refine ⟨y.s.toNat, y.r.toNat, by omega, by omega, by omega, h2, h1.2, (hj.ss _ (List.mem_of_getElem? h2)).2⟩
    generalize clash j x = cx at *
    generalize stripOf j x = s at *
    generalize rollOf j x = r at *
    generalize rollOf j (head0 cuts) = r0 at *
    generalize sizeM s = z at *
    obtain ⟨xs, xr, xa⟩ := x
    dsimp only at hk hm
    subst hk hm
    dsimp only at *
    obtain ⟨sx, sa, sb⟩ := s
    obtain ⟨rl, rph, rsh⟩ := r
    obtain ⟨r0l, r0ph, r0sh⟩ := r0
    simp only [encStrip, encRoll] at k106 k117
    dsimp only at *
    by_cases a1 : xa < 0
    · have e1 := bad11 (by rw [fit, decide_eq_false (by omega)]; rfl)
      simp (maxSteps := 1000000) (implicitDefEqProofs := false) only [a1, e1, g1, g2, g3, g4, w8, w9, kA, kB, kk, km, gs, gr, gd, regT ho1 hi1, evBT_nil, evBT_cons, effT_true, effT_false, effT2_some, effT2_none, calmT, free, Eff.writes, supp, isBar, Option.toList_some, Option.toList_none, regT ho2 hi2, regT ho3 hi3, encStrip, encRoll, obB, encCut, Int.natCast_nonneg, Int.toNat_natCast, List.getElem?_map, List.length_map, done_len, Try.ntmps84, Try.results84, efc84, fc84, ss, sd, evOp, evPlain, evVal, evMem, St.get, sliceOf, arrayOf, fieldsOf, normOf, norm, look, evVar, evFieldAddr, nameOf, St.alloc, St.drop, killOb, part, splice, depth, resultsV, ↓reduceIte, Nat.reduceBEq, Nat.reduceAdd, Nat.reduceSub, Nat.reduceMul, Nat.reduceEqDiff, Nat.reduceLeDiff, Nat.reduceLT, effOf, effMem, effVar, effLit, effMake, effApp, lend, evLit, evNil, freeze, evField, evIndexT, orNil, evSlice, placeOf, evMap, mapOf, keyOk, evFrame, closed, fixed, sameEs, wit, Option.isSome_some, St.with, wantedD, Array.size, te, einl, inls, efr]
    by_cases a2 : rl - z < xa
    · have e1 := bad11 (by rw [fit, decide_eq_false (show ¬ xa ≤ rl - z by omega), Bool.and_false])
      simp (maxSteps := 1000000) (implicitDefEqProofs := false) only [a1, a2, e1, k106, w1, g1, g2, g3, g4, w8, w9, kA, kB, kk, km, gs, gr, gd, regT ho1 hi1, evBT_nil, evBT_cons, effT_true, effT_false, effT2_some, effT2_none, calmT, free, Eff.writes, supp, isBar, Option.toList_some, Option.toList_none, regT ho2 hi2, regT ho3 hi3, encStrip, encRoll, obB, encCut, Int.natCast_nonneg, Int.toNat_natCast, List.getElem?_map, List.length_map, done_len, Try.ntmps84, Try.results84, efc84, fc84, ss, sd, evOp, evPlain, evVal, evMem, St.get, sliceOf, arrayOf, fieldsOf, normOf, norm, look, evVar, evFieldAddr, nameOf, St.alloc, St.drop, killOb, part, splice, depth, resultsV, ↓reduceIte, Nat.reduceBEq, Nat.reduceAdd, Nat.reduceSub, Nat.reduceMul, Nat.reduceEqDiff, Nat.reduceLeDiff, Nat.reduceLT, effOf, effMem, effVar, effLit, effMake, effApp, lend, evLit, evNil, freeze, evField, evIndexT, orNil, evSlice, placeOf, evMap, mapOf, keyOk, evFrame, closed, fixed, sameEs, wit, Option.isSome_some, St.with, wantedD, Array.size, te, einl, inls, efr]
    have ft := fit.trans (show (decide (0 ≤ xa) && decide (xa ≤ rl - z)) = true by rw [decide_eq_true (by omega), decide_eq_true (by omega)]; rfl)
    have k117 := k117 (by omega)
    by_cases a3 : (rph + xa) % j.rep = sa % j.rep
    rotate_left
    · have e1 := bad13 ft (fun h => a3 (of_decide_eq_true (hph ▸ h.1)))
      rw [decide_eq_false a3] at k117
      simp (maxSteps := 1000000) (implicitDefEqProofs := false) only [a1, a2, e1, k106, k117, w1, g1, g2, g3, g4, w8, w9, kA, kB, kk, km, gs, gr, gd, regT ho1 hi1, evBT_nil, evBT_cons, effT_true, effT_false, effT2_some, effT2_none, calmT, free, Eff.writes, supp, isBar, Option.toList_some, Option.toList_none, regT ho2 hi2, regT ho3 hi3, encStrip, encRoll, obB, encCut, Int.natCast_nonneg, Int.toNat_natCast, List.getElem?_map, List.length_map, done_len, Try.ntmps84, Try.results84, efc84, fc84, ss, sd, evOp, evPlain, evVal, evMem, St.get, sliceOf, arrayOf, fieldsOf, normOf, norm, look, evVar, evFieldAddr, nameOf, St.alloc, St.drop, killOb, part, splice, depth, resultsV, ↓reduceIte, Nat.reduceBEq, Nat.reduceAdd, Nat.reduceSub, Nat.reduceMul, Nat.reduceEqDiff, Nat.reduceLeDiff, Nat.reduceLT, effOf, effMem, effVar, effLit, effMake, effApp, lend, evLit, evNil, freeze, evField, evIndexT, orNil, evSlice, placeOf, evMap, mapOf, keyOk, evFrame, closed, fixed, sameEs, wit, Option.isSome_some, St.with, wantedD, Array.size, te, einl, inls, efr]
    rw [decide_eq_true a3] at k117 hph
    by_cases a4 : rsh = r0sh
    rotate_left
    · have e1 := bad13 ft (fun h => a4 h.2)
      have b1 : (rsh != r0sh) = true := by simpa using a4
      simp (maxSteps := 1000000) (implicitDefEqProofs := false) only [a1, a2, a0, q1, Int.toNat_zero, Int.le_refl, gr0, hm0, km0, b1, e1, k106, k117, w1, g1, g2, g3, g4, w8, w9, kA, kB, kk, km, gs, gr, gd, regT ho1 hi1, evBT_nil, evBT_cons, effT_true, effT_false, effT2_some, effT2_none, calmT, free, Eff.writes, supp, isBar, Option.toList_some, Option.toList_none, regT ho2 hi2, regT ho3 hi3, encStrip, encRoll, obB, encCut, Int.natCast_nonneg, Int.toNat_natCast, List.getElem?_map, List.length_map, done_len, Try.ntmps84, Try.results84, efc84, fc84, ss, sd, evOp, evPlain, evVal, evMem, St.get, sliceOf, arrayOf, fieldsOf, normOf, norm, look, evVar, evFieldAddr, nameOf, St.alloc, St.drop, killOb, part, splice, depth, resultsV, ↓reduceIte, Nat.reduceBEq, Nat.reduceAdd, Nat.reduceSub, Nat.reduceMul, Nat.reduceEqDiff, Nat.reduceLeDiff, Nat.reduceLT, effOf, effMem, effVar, effLit, effMake, effApp, lend, evLit, evNil, freeze, evField, evIndexT, orNil, evSlice, placeOf, evMap, mapOf, keyOk, evFrame, closed, fixed, sameEs, wit, Option.isSome_some, St.with, wantedD, Array.size, te, einl, inls, efr]
    have b1 : (rsh != r0sh) = false := by simpa using a4
    have hh : ft = ft := rfl
    have lp : (pre.length : Int) ≤ cuts.length := by omega
    have wt0 : ((pre.length : Int) - 0).toNat = pre.length := by omega
    have wt1 : (cuts.map encCut).take pre.length = pre.map encCut := by rw [hp]; simp
    have sz := sized_cuts cuts
    simp (maxSteps := 1000000) (implicitDefEqProofs := false) only [a1, a2, a0, q1, Int.toNat_zero, Int.le_refl, gr0, hm0, km0, b1, k106, k117, w1, lp, wt0, wt1, sz, if_true, g1, g2, g3, g4, w8, w9, kA, kB, kk, km, gs, gr, gd, regT ho1 hi1, evBT_nil, evBT_cons, effT_true, effT_false, effT2_some, effT2_none, calmT, free, Eff.writes, supp, isBar, Option.toList_some, Option.toList_none, regT ho2 hi2, regT ho3 hi3, encStrip, encRoll, obB, encCut, Int.natCast_nonneg, Int.toNat_natCast, List.getElem?_map, List.length_map, done_len, ss, sd, evOp, evPlain, evVal, evMem, St.get, sliceOf, arrayOf, fieldsOf, normOf, norm, look, evVar, evFieldAddr, nameOf, St.alloc, St.drop, killOb, part, splice, depth, resultsV, ↓reduceIte, Nat.reduceBEq, Nat.reduceAdd, Nat.reduceSub, Nat.reduceMul, Nat.reduceEqDiff, Nat.reduceLeDiff, Nat.reduceLT, effOf, effMem, effVar, effLit, effMake, effApp, lend, evLit, evNil, freeze, evField, evIndexT, orNil, evSlice, placeOf, evMap, mapOf, keyOk, evFrame, closed, fixed, sameEs, wit, Option.isSome_some, St.with, wantedD, Array.size, te, einl, inls, efr]
    generalize hr : loopAt _ _ _ _ _ _ = r; revert r
    refine loop_list pre (fun qre _ => [(97, .int .i64 qre.length)]) (fun _ _ => []) (fun qre (_ : Unit) => qre.any cx = false) () (by omega) (by simp (maxSteps := 1000000) (implicitDefEqProofs := false) only [ss, sd, evOp, evPlain, evVal, evMem, St.get, sliceOf, arrayOf, fieldsOf, normOf, norm, look, evVar, evFieldAddr, nameOf, St.alloc, St.drop, killOb, part, splice, depth, resultsV, ↓reduceIte, Nat.reduceBEq, Nat.reduceAdd, Nat.reduceSub, Nat.reduceMul, Nat.reduceEqDiff, Nat.reduceLeDiff, Nat.reduceLT, effOf, effMem, effVar, effLit, effMake, effApp, lend, evLit, evNil, freeze, evField, evIndexT, orNil, evSlice, placeOf, evMap, mapOf, keyOk, evFrame, closed, fixed, sameEs, wit, Option.isSome_some, St.with, wantedD, Array.size, te, einl, inls, efr]) rfl (fun _ hC => ?_) (fun qre y qost _ hq hC f1 f2 f3 f4 => ?_)
    · have e1 := ok0 ft ⟨hph, a4⟩ hC
      have e2 := good0 ft ⟨hph, a4⟩ hC
      have e3 : (pre ++ [(⟨k, m, xa⟩ : Cut)]).length = pre.length + 1 := by simp
      simp (maxSteps := 1000000) (implicitDefEqProofs := false) only [Int.lt_irrefl, kk, done_len, ds, g4, encCut, obB, Int.natCast_nonneg, Int.toNat_natCast, List.getElem?_map, List.length_map, gd, ss, sd, evOp, evPlain, evVal, evMem, St.get, sliceOf, arrayOf, fieldsOf, normOf, norm, look, evVar, evFieldAddr, nameOf, St.alloc, St.drop, killOb, part, splice, depth, resultsV, ↓reduceIte, Nat.reduceBEq, Nat.reduceAdd, Nat.reduceSub, Nat.reduceMul, Nat.reduceEqDiff, Nat.reduceLeDiff, Nat.reduceLT, effOf, effMem, effVar, effLit, effMake, effApp, lend, evLit, evNil, freeze, evField, evIndexT, orNil, evSlice, placeOf, evMap, mapOf, keyOk, evFrame, closed, fixed, sameEs, wit, Option.isSome_some, St.with, wantedD, Array.size, te, einl, inls, efr]
      exact ⟨(), e2, cnt0, e1⟩
    · obtain ⟨ky, my, h1, h2, h3, h4, h5, h7⟩ := k6 y (by rw [hq]; simp)
      have ky106 := c106 (stripOf j y) h7
      have cy := cl y
      have hsy : sizeM (stripOf j y) = (stripOf j y).b - (stripOf j y).a := rfl
      have hzy : sizeM (stripOf j y) ≤ 60 ∧ 1 ≤ sizeM (stripOf j y) := by rw [hsy]; omega
      have w2 : IntKind.i64.wrap (xa + z) = xa + z := wrap_in (by omega)
      have w3 : IntKind.i64.wrap (y.a + sizeM (stripOf j y)) = y.a + sizeM (stripOf j y) := wrap_in (by omega)
      have bad' := fun h : cx y = true => bad10 ft ⟨hph, a4⟩ (by rw [hq]; simp [h])
      have nxt : cx y = false → (qre ++ [y]).any cx = false := fun h => by rw [List.any_append, hC]; simp [h]
      generalize stripOf j y = sy at *
      generalize sizeM sy = zy at *
      obtain ⟨ys, yr, ya⟩ := y
      obtain ⟨syx, sya, syb⟩ := sy
      dsimp only at h1 h3
      subst h1 h3
      simp only [encStrip] at ky106
      dsimp only at *
      by_cases b2 : my = m
      rotate_left
      · have q2 : ((my : Int) == (m : Int)) = false := by simp; omega
        have e1 := nxt (by rw [cy, decide_eq_false (by omega)]; rfl)
        simp (maxSteps := 1000000) (implicitDefEqProofs := false) only [f1, f2, f3, f4, q2, regT ho1 hi1, evBT_nil, evBT_cons, effT_true, effT_false, effT2_some, effT2_none, calmT, free, Eff.writes, supp, isBar, Option.toList_some, Option.toList_none, regT ho2 hi2, regT ho3 hi3, regT ho4 hi4, encCut, Int.natCast_nonneg, Int.toNat_natCast, List.getElem?_map, List.length_map, ss, sd, evOp, evPlain, evVal, evMem, St.get, sliceOf, arrayOf, fieldsOf, normOf, norm, look, evVar, evFieldAddr, nameOf, St.alloc, St.drop, killOb, part, splice, depth, resultsV, ↓reduceIte, Nat.reduceBEq, Nat.reduceAdd, Nat.reduceSub, Nat.reduceMul, Nat.reduceEqDiff, Nat.reduceLeDiff, Nat.reduceLT, effOf, effMem, effVar, effLit, effMake, effApp, lend, evLit, evNil, freeze, evField, evIndexT, orNil, evSlice, placeOf, evMap, mapOf, keyOk, evFrame, closed, fixed, sameEs, wit, Option.isSome_some, St.with, wantedD, Array.size, te, einl, inls, efr]
        exact ⟨(), e1⟩
      have q2 : ((my : Int) == (m : Int)) = true := by rw [b2]; simp
      by_cases b3 : ya < xa + z
      rotate_left
      · have e1 := nxt (by rw [cy, decide_eq_false b3, Bool.and_false]; rfl)
        simp (maxSteps := 1000000) (implicitDefEqProofs := false) only [f1, f2, f3, f4, q2, b3, k106, w2, regT ho1 hi1, evBT_nil, evBT_cons, effT_true, effT_false, effT2_some, effT2_none, calmT, free, Eff.writes, supp, isBar, Option.toList_some, Option.toList_none, regT ho2 hi2, regT ho3 hi3, regT ho4 hi4, encCut, Int.natCast_nonneg, Int.toNat_natCast, List.getElem?_map, List.length_map, ss, sd, evOp, evPlain, evVal, evMem, St.get, sliceOf, arrayOf, fieldsOf, normOf, norm, look, evVar, evFieldAddr, nameOf, St.alloc, St.drop, killOb, part, splice, depth, resultsV, ↓reduceIte, Nat.reduceBEq, Nat.reduceAdd, Nat.reduceSub, Nat.reduceMul, Nat.reduceEqDiff, Nat.reduceLeDiff, Nat.reduceLT, effOf, effMem, effVar, effLit, effMake, effApp, lend, evLit, evNil, freeze, evField, evIndexT, orNil, evSlice, placeOf, evMap, mapOf, keyOk, evFrame, closed, fixed, sameEs, wit, Option.isSome_some, St.with, wantedD, Array.size, te, einl, inls, efr]
        exact ⟨(), e1⟩
      by_cases b4 : xa < ya + zy
      rotate_left
      · have e1 := nxt (by rw [cy, decide_eq_false b4, Bool.and_false])
        simp (maxSteps := 1000000) (implicitDefEqProofs := false) only [f1, f2, f3, f4, q2, b3, b4, k106, ky106, w2, w3, h2, h4, regT ho1 hi1, evBT_nil, evBT_cons, effT_true, effT_false, effT2_some, effT2_none, calmT, free, Eff.writes, supp, isBar, Option.toList_some, Option.toList_none, regT ho2 hi2, regT ho3 hi3, regT ho4 hi4, encStrip, encCut, Int.natCast_nonneg, Int.toNat_natCast, List.getElem?_map, List.length_map, ss, sd, evOp, evPlain, evVal, evMem, St.get, sliceOf, arrayOf, fieldsOf, normOf, norm, look, evVar, evFieldAddr, nameOf, St.alloc, St.drop, killOb, part, splice, depth, resultsV, ↓reduceIte, Nat.reduceBEq, Nat.reduceAdd, Nat.reduceSub, Nat.reduceMul, Nat.reduceEqDiff, Nat.reduceLeDiff, Nat.reduceLT, effOf, effMem, effVar, effLit, effMake, effApp, lend, evLit, evNil, freeze, evField, evIndexT, orNil, evSlice, placeOf, evMap, mapOf, keyOk, evFrame, closed, fixed, sameEs, wit, Option.isSome_some, St.with, wantedD, Array.size, te, einl, inls, efr]
        exact ⟨(), e1⟩
      have e1 := bad' (by rw [cy, decide_eq_true (by omega), decide_eq_true b3, decide_eq_true b4]; rfl)
      simp (maxSteps := 1000000) (implicitDefEqProofs := false) only [f1, f2, f3, f4, q2, b3, b4, k106, ky106, w2, w3, h2, h4, e1, regT ho1 hi1, evBT_nil, evBT_cons, effT_true, effT_false, effT2_some, effT2_none, calmT, free, Eff.writes, supp, isBar, Option.toList_some, Option.toList_none, regT ho2 hi2, regT ho3 hi3, regT ho4 hi4, encStrip, encCut, Int.natCast_nonneg, Int.toNat_natCast, List.getElem?_map, List.length_map, Try.ntmps84, Try.results84, efc84, fc84, ss, sd, evOp, evPlain, evVal, evMem, St.get, sliceOf, arrayOf, fieldsOf, normOf, norm, look, evVar, evFieldAddr, nameOf, St.alloc, St.drop, killOb, part, splice, depth, resultsV, ↓reduceIte, Nat.reduceBEq, Nat.reduceAdd, Nat.reduceSub, Nat.reduceMul, Nat.reduceEqDiff, Nat.reduceLeDiff, Nat.reduceLT, effOf, effMem, effVar, effLit, effMake, effApp, lend, evLit, evNil, freeze, evField, evIndexT, orNil, evSlice, placeOf, evMap, mapOf, keyOk, evFrame, closed, fixed, sameEs, wit, Option.isSome_some, St.with, wantedD, Array.size, te, einl, inls, efr]
end Go.AM.D
end

section
/-
The first error of cuts: Check of the program.
-/
namespace Go.AM.D
open Go Go.AM Go.Proofs

theorem c52 (j : Job) (cuts : List Cut) (hn : cuts.length ≤ 1000000000) : (orcω E X0).call 52 [encJob j, .sl false (cuts.map encCut)] = some (.int .i64 (checkM j cuts)) := by
  refine call_of rfl fn52 rfl ?_
  have k1 := c50 j
  unfold checkM
  by_cases he : jobE j = 0
  · rw [if_pos he]
    have k2 := c84 j cuts (jobE_zero he).1 hn
    rw [he] at k1
    unfold encJob at k1 k2 ⊢
    simp (maxSteps := 1000000) (implicitDefEqProofs := false) only [Try.ntmps52, Try.results52, efc52, k1, k2, bne_self_eq_false, ss, sd, evOp, evPlain, evVal, evMem, St.get, sliceOf, arrayOf, fieldsOf, normOf, norm, look, evVar, evFieldAddr, nameOf, St.alloc, St.drop, killOb, part, splice, depth, resultsV, ↓reduceIte, Nat.reduceBEq, Nat.reduceAdd, Nat.reduceSub, Nat.reduceMul, Nat.reduceEqDiff, Nat.reduceLeDiff, Nat.reduceLT, effOf, effMem, effVar, effLit, effMake, effApp, lend, evLit, evNil, freeze, evField, evIndexT, orNil, evSlice, placeOf, evMap, mapOf, keyOk, evFrame, closed, fixed, sameEs, wit, Option.isSome_some, St.with, wantedD, Array.size, te, einl, inls, efr]
  · rw [if_neg he]
    have q1 : (jobE j != 0) = true := by simpa using he
    generalize jobE j = e at *
    unfold encJob at k1 ⊢
    simp (maxSteps := 1000000) (implicitDefEqProofs := false) only [Try.ntmps52, Try.results52, efc52, k1, q1, ss, sd, evOp, evPlain, evVal, evMem, St.get, sliceOf, arrayOf, fieldsOf, normOf, norm, look, evVar, evFieldAddr, nameOf, St.alloc, St.drop, killOb, part, splice, depth, resultsV, ↓reduceIte, Nat.reduceBEq, Nat.reduceAdd, Nat.reduceSub, Nat.reduceMul, Nat.reduceEqDiff, Nat.reduceLeDiff, Nat.reduceLT, effOf, effMem, effVar, effLit, effMake, effApp, lend, evLit, evNil, freeze, evField, evIndexT, orNil, evSlice, placeOf, evMap, mapOf, keyOk, evFrame, closed, fixed, sameEs, wit, Option.isSome_some, St.with, wantedD, Array.size, te, einl, inls, efr]

end Go.AM.D
end
