/-
Greedy cuttings: the program's.
-/
import Derived.Test.YtffbfhjcpgcdeaaCGreedQ
import Derived.Test.YtffbfhjcpgcdeaaCRecs
set_option linter.unusedVariables false
set_option linter.unusedSimpArgs false
set_option maxRecDepth 20000

namespace Go.AM.C
open Go Go.AM Go.Proofs

theorem c69 (o : Off) (x : Nat) {b : Bool} (hb : o.bits[x]? = some (.bool b)) : (orcω E X0).call 69 [encO false o, .fp false [.int .i64 x] 0] = some (.bool (fitsO x o)) := by
  refine call_of rfl fn69 rfl ?_
  have hf : fitsO x o = b := by unfold fitsO; rw [hb]
  rw [hf]
  unfold encO
  simp (maxSteps := 1000000) (implicitDefEqProofs := false) only [Try.ntmps69, Try.results69, efc69, hb, Int.natCast_nonneg, Int.toNat_natCast, ss, sd, zH, qG, zF, zG, St.get, qE, qF, qB, zC, norm, look, zE, qA, qI, St.alloc, St.drop, zA, part, zB, depth, qD, ↓reduceIte, Nat.reduceBEq, Nat.reduceAdd, Nat.reduceSub, Nat.reduceMul, Nat.reduceEqDiff, Nat.reduceLeDiff, Nat.reduceLT, qJ, qK, qL, qM, qN, qO, qP, qQ, qR, zI, qS, qC, qT, qU, qV, qW, qX, qY, qZ, zJ, zK, zL, wit, Option.isSome_some, qH, St.with, zD, Array.size, te, einl, inls, efr]

set_option maxHeartbeats 4000000 in
theorem c68 (os : List Off) (t : Bool) (x : Nat) (hn : os.length ≤ 1000) (h : ∀ o ∈ os, ∃ b, o.bits[x]? = some (.bool b)) : (orcω E X0).call 68 [.sl false (os.map (encO t)), .clo 69 [] [.fp false [.int .i64 x] 0]] = some (.int .i64 (firstO (fitsO x) os)) := by
  refine call_of rfl fn68 rfl ?_
  simp (maxSteps := 1000000) (implicitDefEqProofs := false) only [Try.ntmps68, Try.results68, efc68, fc68, ss, sd, zH, qG, zF, zG, St.get, qE, qF, qB, zC, norm, look, zE, qA, qI, St.alloc, St.drop, zA, part, zB, depth, qD, ↓reduceIte, Nat.reduceBEq, Nat.reduceAdd, Nat.reduceSub, Nat.reduceMul, Nat.reduceEqDiff, Nat.reduceLeDiff, Nat.reduceLT, qJ, qK, qL, qM, qN, qO, qP, qQ, qR, zI, qS, qC, qT, qU, qV, qW, qX, qY, qZ, zJ, zK, zL, wit, Option.isSome_some, qH, St.with, zD, Array.size, te, einl, inls, efr]
  generalize hr : loopAt _ _ _ _ _ _ = r; revert r
  refine loop_list os (fun pre _ => [(8, .int .i64 pre.length)]) (fun _ _ => []) (fun pre (_ : Unit) => ∀ o ∈ pre, fitsO x o = false) () (by omega) (by simp (maxSteps := 1000000) (implicitDefEqProofs := false) only [ss, sd, zH, qG, zF, zG, St.get, qE, qF, qB, zC, norm, look, zE, qA, qI, St.alloc, St.drop, zA, part, zB, depth, qD, ↓reduceIte, Nat.reduceBEq, Nat.reduceAdd, Nat.reduceSub, Nat.reduceMul, Nat.reduceEqDiff, Nat.reduceLeDiff, Nat.reduceLT, qJ, qK, qL, qM, qN, qO, qP, qQ, qR, zI, qS, qC, qT, qU, qV, qW, qX, qY, qZ, zJ, zK, zL, wit, Option.isSome_some, qH, St.with, zD, Array.size, te, einl, inls, efr]) (fun o ho => by cases ho) (fun _ hi => ?_) (fun pre o post _ hp hi g1 g2 g3 g4 => ?_)
  · rw [firstO_none hi]
    simp (maxSteps := 1000000) (implicitDefEqProofs := false) only [Int.lt_irrefl, Try.ntmps68, Try.results68, efc68, fc68, ss, sd, zH, qG, zF, zG, St.get, qE, qF, qB, zC, norm, look, zE, qA, qI, St.alloc, St.drop, zA, part, zB, depth, qD, ↓reduceIte, Nat.reduceBEq, Nat.reduceAdd, Nat.reduceSub, Nat.reduceMul, Nat.reduceEqDiff, Nat.reduceLeDiff, Nat.reduceLT, qJ, qK, qL, qM, qN, qO, qP, qQ, qR, zI, qS, qC, qT, qU, qV, qW, qX, qY, qZ, zJ, zK, zL, wit, Option.isSome_some, qH, St.with, zD, Array.size, te, einl, inls, efr]
  · obtain ⟨b, hb⟩ := h o (by rw [hp]; simp)
    have k1 := c69 o x hb
    cases hf : fitsO x o with
    | true =>
      have e1 : firstO (fitsO x) os = pre.length := firstO_some g3 hf fun j q hj hq => by
        rw [hp, List.getElem?_append_left hj] at hq
        exact hi q (List.mem_of_getElem? hq)
      rw [hf] at k1
      rw [e1]
      unfold encO at k1
      simp (maxSteps := 1000000) (implicitDefEqProofs := false) only [g1, g2, g3, g4, k1, encO, Int.natCast_nonneg, Int.toNat_natCast, List.getElem?_map, Try.ntmps68, Try.results68, efc68, fc68, ss, sd, zH, qG, zF, zG, St.get, qE, qF, qB, zC, norm, look, zE, qA, qI, St.alloc, St.drop, zA, part, zB, depth, qD, ↓reduceIte, Nat.reduceBEq, Nat.reduceAdd, Nat.reduceSub, Nat.reduceMul, Nat.reduceEqDiff, Nat.reduceLeDiff, Nat.reduceLT, qJ, qK, qL, qM, qN, qO, qP, qQ, qR, zI, qS, qC, qT, qU, qV, qW, qX, qY, qZ, zJ, zK, zL, wit, Option.isSome_some, qH, St.with, zD, Array.size, te, einl, inls, efr]
    | false =>
      rw [hf] at k1
      unfold encO at k1
      simp (maxSteps := 1000000) (implicitDefEqProofs := false) only [g1, g2, g3, g4, k1, encO, Int.natCast_nonneg, Int.toNat_natCast, List.getElem?_map, ss, sd, zH, qG, zF, zG, St.get, qE, qF, qB, zC, norm, look, zE, qA, qI, St.alloc, St.drop, zA, part, zB, depth, qD, ↓reduceIte, Nat.reduceBEq, Nat.reduceAdd, Nat.reduceSub, Nat.reduceMul, Nat.reduceEqDiff, Nat.reduceLeDiff, Nat.reduceLT, qJ, qK, qL, qM, qN, qO, qP, qQ, qR, zI, qS, qC, qT, qU, qV, qW, qX, qY, qZ, zJ, zK, zL, wit, Option.isSome_some, qH, St.with, zD, Array.size, te, einl, inls, efr]
      refine ⟨(), fun q hq => ?_⟩
      rcases List.mem_append.1 hq with hq | hq
      · exact hi q hq
      · rw [List.mem_singleton.1 hq]; exact hf

theorem sized_offs (ms : List Mk) : ∀ (l : List Art) (i : Nat), sized 8 (offs ms i l) = true
  | [], _ => rfl
  | a :: l, i => by
    rw [offs, sized, sized_offs ms l]
    rfl

theorem copy_offs {ms : List Mk} {l : List Art} (hl : validA l = 0) (o6 : Ob) (slots : List V) (outer : List (List V)) :
    evCopy { ty := .struct [(0, 86), (6, 3), (7, 98)], size := 8, bytes := 80, zero := .agg [.int .i64 0, .int .i64 0, .int .i64 0, .int .i64 0, .int .i64 0, .int .i64 0, .int .i64 0, .emp] } (.own 8 0 l.length) (.sl false (offs ms 0 l))
      { slots := slots, outer := outer, objs := [(6, o6), (8, { es := 8, flat := true, t := true, app := true, elems := List.replicate l.length (.agg [.int .i64 0, .int .i64 0, .int .i64 0, .int .i64 0, .int .i64 0, .int .i64 0, .int .i64 0, .emp]) })] } =
    some (l.length, { slots := slots, outer := outer, objs := [(6, o6), (8, { es := 8, flat := true, t := l.isEmpty, app := true, elems := (offL ms 0 l).map (encO l.isEmpty) })] }) := by
  have hp : ∀ a ∈ l, 0 ≤ a.price ∧ a.price ≤ 10000 := fun a ha => ((validA_len hl).2 a ha).2
  have h5 := (validA_len hl).1
  unfold evCopy
  simp only [elemsV]
  rw [if_pos ⟨offs_len ms l 0, by decide, sized_offs ms l 0⟩]
  cases l with
  | nil => rfl
  | cons a l =>
    rw [if_neg (by simp)]
    simp only [look]
    have hr := retag_offs ms (a :: l) 0 hp (by omega)
    rw [hr]
    have hc := copy_eight (id := 8) (ty := .struct [(0, 86), (6, 3), (7, 98)]) (by_ := 80) (zero := .agg [.int .i64 0, .int .i64 0, .int .i64 0, .int .i64 0, .int .i64 0, .int .i64 0, .int .i64 0, .emp]) (eq := false) outer slots
      ((offL ms 0 (a :: l)).map (encO false)) [] (List.replicate (a :: l).length (.agg [.int .i64 0, .int .i64 0, .int .i64 0, .int .i64 0, .int .i64 0, .int .i64 0, .int .i64 0, .emp]))
      [(6, o6), (8, { es := 8, flat := true, t := true, app := true, elems := List.replicate (a :: l).length (.agg [.int .i64 0, .int .i64 0, .int .i64 0, .int .i64 0, .int .i64 0, .int .i64 0, .int .i64 0, .emp]) })] true true rfl rfl
      (fun v hv => by
        obtain ⟨o, _, rfl⟩ := List.mem_map.1 hv
        exact ⟨_, rfl, rfl⟩)
      (fun v hv => ⟨_, List.eq_of_mem_replicate hv, rfl⟩) (refFreeL_map (fun _ => rfl) _) (by rw [List.length_map, offL_len, List.length_replicate])
    rw [List.length_nil] at hc
    simp only [Nat.reduceEqDiff, if_false, if_true, hc, Option.map_some, List.nil_append, List.isEmpty_cons]
    rfl

def greedyR (xs : List Run) (l : List Art) : List (Int × Int) × Int := if errM xs l = 0 then (greedyW (expand xs) l, 0) else ([], errM xs l)
def encGr (x : List (Int × Int) × Int) : V := .tup [.sl true (x.1.map encPc), .int .i64 x.2]

theorem inf44 : (drawn (Try.f44.body.getD .skip)).map infosOf = [[([], false), ([], false), ([], false), ([], false), ([], false), ([], false), ([], false), ([], false), ([], false), ([], true), ([], true)], [([], false), ([], false), ([], false), ([], false), ([], false), ([], false), ([], false), ([], true), ([], true)]] := by decide +kernel
theorem okD44 : (drawn (Try.f44.body.getD .skip)).all okBad = true := by decide +kernel

theorem greedy_sofar {ms : List Mk} {l : List Art} {x : Nat} {o : List (Int × Int)} (h : o ++ greedyL ms l (ms.length + 1) x = greedyW ms l) : o.length ≤ ms.length + 1 := by
  have h1 := congrArg List.length h
  have h2 := greedy_len (ms := ms) (l := l) (ms.length + 1) 0
  rw [List.length_append] at h1
  unfold greedyW at h1
  omega

set_option maxHeartbeats 16000000 in
theorem c44 (xs : List Run) (l : List Art) (hx : xs.length ≤ 100000) (hl : l.length ≤ 100000) : (orcω E X0).call 44 [.sl false (xs.map encRun), .sl false (l.map encArt)] = some (encGr (greedyR xs l)) := by
  refine call_of rfl fn44 rfl ?_
  have hi := inf44
  have ho := okD44
  simp only [Try.f44, Option.getD_some, drawn, List.map_cons, List.map_nil, List.nil_append, List.append_nil, List.cons_append, List.cons.injEq, and_true] at hi
  simp only [Try.f44, Option.getD_some, drawn, List.nil_append, List.append_nil, List.cons_append, List.all_cons, List.all_nil, Bool.and_true, Bool.and_eq_true] at ho
  obtain ⟨hi1, hi2⟩ := hi
  obtain ⟨ho1, ho2⟩ := ho
  have k1 := c50 xs l hx hl
  unfold greedyR
  by_cases he : errM xs l = 0
  · rw [if_pos he]
    obtain ⟨e1, e2, e3⟩ := errM_zero he
    have hN := err_len he
    rw [benchV_eq he] at k1
    have g5 := offs_len (expand xs) l 0
    have h5 := (validA_len e3).1
    have kc := fun o6 slots outer => copy_offs (ms := expand xs) e3 o6 slots outer
    have kS := fun (o6 : Ob) (b : Nat) (outer : List (List V)) => c66 b 8 outer [(6, o6), (8, { es := 8, flat := true, t := l.isEmpty, app := true, elems := (offL (expand xs) 0 l).map (encO l.isEmpty) })] (offL (expand xs) 0 l) (by rw [offL_len]; omega) l.isEmpty true rfl rfl
    rw [offL_len] at kS
    obtain ⟨f, kS⟩ := Classical.skolem.1 fun o6 => Classical.skolem.1 fun b => Classical.skolem.1 (kS o6 b)
    have hroom : roomy l.length 80 = true := by simp [roomy]; omega
    have hbig : (l.length : Int) ≤ 4294967296 := by omega
    have slen := sorted_len (expand xs) l
    have hbits : ∀ x : Nat, x ≤ (expand xs).length → ∀ o ∈ sortedO (expand xs) l, ∃ b, o.bits[x]? = some (.bool b) := fun x hx o ho => by
      obtain ⟨i, a, _, _, _, _, h3⟩ := sorted_mem e3 ho
      rw [h3]
      exact ⟨_, bits_get _ _ hx⟩
    have k68 := fun (x : Nat) (hx : x ≤ (expand xs).length) => c68 (sortedO (expand xs) l) l.isEmpty x (by omega) (hbits x hx)
    have hst := fun (x : Nat) (hx : x < (expand xs).length) => greedy_step e3 (l := l) hx
    unfold sortedO at k68 slen hbits
    have tks : ((isort ltO (offL (expand xs) 0 l)).map (encO l.isEmpty)).take l.length = (isort ltO (offL (expand xs) 0 l)).map (encO l.isEmpty) := List.take_of_length_le (by rw [List.length_map, slen]; exact Nat.le_refl _)
    simp (maxSteps := 1000000) (implicitDefEqProofs := false) only [Try.ntmps44, Try.results44, efc44, fc44, k1, g5, hroom, hbig, Int.natCast_nonneg, Int.toNat_natCast, bne_self_eq_false, kc, kS, encGr, ss, sd, zH, qG, zF, zG, St.get, qE, qF, qB, zC, norm, look, zE, qA, qI, St.alloc, St.drop, zA, part, zB, depth, qD, ↓reduceIte, Nat.reduceBEq, Nat.reduceAdd, Nat.reduceSub, Nat.reduceMul, Nat.reduceEqDiff, Nat.reduceLeDiff, Nat.reduceLT, qJ, qK, qL, qM, qN, qO, qP, qQ, qR, zI, qS, qC, qT, qU, qV, qW, qX, qY, qZ, zJ, zK, zL, wit, Option.isSome_some, qH, St.with, zD, Array.size, te, einl, inls, efr]
    generalize hr : loopAt _ _ _ _ _ _ = r; revert r
    refine loop_inv (ι := { p : Nat × List (Int × Int) // p.1 ≤ (expand xs).length ∧ p.2 ++ greedyL (expand xs) l ((expand xs).length + 1) p.1 = greedyW (expand xs) l }) (fun p => [(9, .own 9 0 p.1.2.length)])
      (fun p => [(9, { es := 2, flat := true, t := true, app := true, elems := p.1.2.map encPc }), (10, { es := 1, flat := true, t := true, app := false, elems := [.int .i64 (p.1.1 : Nat)] })])
      (fun p => (expand xs).length - p.1.1) ⟨(0, []), Nat.zero_le _, rfl⟩ (by simp (maxSteps := 1000000) (implicitDefEqProofs := false) only [List.length_nil, List.map_nil, Int.natCast_zero, ss, sd, zH, qG, zF, zG, St.get, qE, qF, qB, zC, norm, look, zE, qA, qI, St.alloc, St.drop, zA, part, zB, depth, qD, ↓reduceIte, Nat.reduceBEq, Nat.reduceAdd, Nat.reduceSub, Nat.reduceMul, Nat.reduceEqDiff, Nat.reduceLeDiff, Nat.reduceLT, qJ, qK, qL, qM, qN, qO, qP, qQ, qR, zI, qS, qC, qT, qU, qV, qW, qX, qY, qZ, zJ, zK, zL, wit, Option.isSome_some, qH, St.with, zD, Array.size, te, einl, inls, efr]) ?_
    rintro ⟨⟨x, o⟩, hxN, ho⟩
    dsimp only at hxN ho ⊢
    have hol := greedy_sofar ho
    by_cases hlt : x < (expand xs).length
    · have hlt' : ((x : Int) < ((expand xs).length : Nat)) = True := eq_true (by omega)
      have k2 := k68 x (by omega)
      have hs := hst x hlt
      rcases first_pick e3 (x := x) (by omega) with ⟨p1, p2⟩ | ⟨i, f0, p1, p2, p3, p4, p5, p6⟩
      · unfold sortedO at p1
        rw [p1] at k2
        rw [p2, if_pos (by decide)] at hs
        have w1 : IntKind.i64.wrap ((x : Int) + 1) = ((x + 1 : Nat) : Int) := by rw [wrap_in (by omega)]; omega
        have m1 : ((-1 : Int) < 0) = True := eq_true (by decide)
        simp (maxSteps := 1000000) (implicitDefEqProofs := false) only [hlt', k2, w1, m1, slen, tks, List.length_map, ss, sd, zH, qG, zF, zG, St.get, qE, qF, qB, zC, norm, look, zE, qA, qI, St.alloc, St.drop, zA, part, zB, depth, qD, ↓reduceIte, Nat.reduceBEq, Nat.reduceAdd, Nat.reduceSub, Nat.reduceMul, Nat.reduceEqDiff, Nat.reduceLeDiff, Nat.reduceLT, qJ, qK, qL, qM, qN, qO, qP, qQ, qR, zI, qS, qC, qT, qU, qV, qW, qX, qY, qZ, zJ, zK, zL, wit, Option.isSome_some, qH, St.with, zD, Array.size, te, einl, inls, efr]
        exact ⟨⟨(x + 1, o), by dsimp only; omega, by dsimp only; rw [← hs]; exact ho⟩, rfl, by dsimp only; omega⟩
      · unfold sortedO at p1 p2
        rw [p1] at k2
        rw [p3, if_neg (by omega)] at hs
        have hf := pickG_fits (expand xs) l x l.length (by rw [p3]; omega)
        rw [p3] at hf
        obtain ⟨a, f1, f2, f3, f4, f5, f6, f7, _⟩ := fits_in hf
        have al := ((validA_len e3).2 a (List.mem_of_getElem? f1)).1
        rw [p4] at f6 hs
        have i1 : ((i : Int) < 0) = False := eq_false (by omega)
        have i2 : ((i : Int) < (l.length : Int)) = True := eq_true (by omega)
        have w1 : IntKind.i64.wrap ((x : Int) + f0.art.len) = ((x + f0.art.len.toNat : Nat) : Int) := by rw [wrap_in (by omega)]; omega
        have hroom2 : roomy (o.length + 1) 16 = true := by simp [roomy]; omega
        have hbig2 : o.length + 1 ≤ 4294967296 := by omega
        simp (maxSteps := 1000000) (implicitDefEqProofs := false) only [hlt', k2, i1, i2, p2, w1, hroom2, hbig2, encO, slen, tks, Int.natCast_nonneg, Int.toNat_natCast, List.getElem?_map, List.length_map, regT ho1 hi1, evBT_nil, evBT_cons, effT_true, effT_false, effT2_some, effT2_none, calmT, free, Eff.writes, supp, isBar, Option.toList_some, Option.toList_none, regT ho2 hi2, evBT_nil, evBT_cons, effT_true, effT_false, effT2_some, effT2_none, calmT, free, Eff.writes, supp, isBar, Option.toList_some, Option.toList_none, ss, sd, zH, qG, zF, zG, St.get, qE, qF, qB, zC, norm, look, zE, qA, qI, St.alloc, St.drop, zA, part, zB, depth, qD, ↓reduceIte, Nat.reduceBEq, Nat.reduceAdd, Nat.reduceSub, Nat.reduceMul, Nat.reduceEqDiff, Nat.reduceLeDiff, Nat.reduceLT, qJ, qK, qL, qM, qN, qO, qP, qQ, qR, zI, qS, qC, qT, qU, qV, qW, qX, qY, qZ, zJ, zK, zL, wit, Option.isSome_some, qH, St.with, zD, Array.size, te, einl, inls, efr]
        refine ⟨⟨(x + f0.art.len.toNat, o ++ [((x : Int), f0.num)]), by dsimp only; omega, by dsimp only; rw [List.append_assoc, List.cons_append, List.nil_append, ← hs]; exact ho⟩, ?_, by dsimp only; omega⟩
        rw [List.map_append, List.length_append]
        rfl
    · have hxe : x = (expand xs).length := by omega
      subst hxe
      rw [greedy_end (Nat.lt_irrefl _), List.append_nil] at ho
      subst ho
      have tk : ((greedyW (expand xs) l).map encPc).take (greedyW (expand xs) l).length = (greedyW (expand xs) l).map encPc := List.take_of_length_le (by simp)
      simp (maxSteps := 1000000) (implicitDefEqProofs := false) only [Int.lt_irrefl, tk, List.length_map, Try.ntmps44, Try.results44, efc44, fc44, ss, sd, zH, qG, zF, zG, St.get, qE, qF, qB, zC, norm, look, zE, qA, qI, St.alloc, St.drop, zA, part, zB, depth, qD, ↓reduceIte, Nat.reduceBEq, Nat.reduceAdd, Nat.reduceSub, Nat.reduceMul, Nat.reduceEqDiff, Nat.reduceLeDiff, Nat.reduceLT, qJ, qK, qL, qM, qN, qO, qP, qQ, qR, zI, qS, qC, qT, qU, qV, qW, qX, qY, qZ, zJ, zK, zL, wit, Option.isSome_some, qH, St.with, zD, Array.size, te, einl, inls, efr]
  · rw [if_neg he]
    unfold layV at k1
    rw [if_neg he] at k1
    have he' : (errM xs l != 0) = true := by simpa using he
    simp (maxSteps := 1000000) (implicitDefEqProofs := false) only [Try.ntmps44, Try.results44, efc44, fc44, k1, bench0, he', encGr, List.map_nil, ss, sd, zH, qG, zF, zG, St.get, qE, qF, qB, zC, norm, look, zE, qA, qI, St.alloc, St.drop, zA, part, zB, depth, qD, ↓reduceIte, Nat.reduceBEq, Nat.reduceAdd, Nat.reduceSub, Nat.reduceMul, Nat.reduceEqDiff, Nat.reduceLeDiff, Nat.reduceLT, qJ, qK, qL, qM, qN, qO, qP, qQ, qR, zI, qS, qC, qT, qU, qV, qW, qX, qY, qZ, zJ, zK, zL, wit, Option.isSome_some, qH, St.with, zD, Array.size, te, einl, inls, efr]

end Go.AM.C

