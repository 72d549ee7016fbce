/-
The law of records.
-/
import Derived.Test.YtffbfhjcpgcdeaaCRecsK
set_option linter.unusedVariables false
set_option linter.unusedSimpArgs false
set_option maxRecDepth 20000

namespace Go.AM.C
open Go Go.AM Go.Proofs

theorem c41f (bx : Ob) (hbx : bx.flat = true) (xs : List Run) (l : List Art) (ps : List (Int × Int)) (ph rp : Int) (t : Bool) (hx : xs.length ≤ 100000) (hl : l.length ≤ 100000) (hn : ps.length ≤ 100000) (hacc : accE xs l ps = 0) (hph : badPh ph rp = false) :
    ∃ (f : List V → List V) (G : List V → List (Nat × Ob)), (∀ sl, Made bx (expand xs) l ph rp ps (G sl)) ∧ ∀ sl, (∀ id, 1000 ≤ id → killL id sl = sl) →
      (orcω E X0).inl 1000 41 [.sl t (xs.map encRun), .sl false (l.map encArt), .sl false (ps.map encPc), .int .i64 ph, .int .i64 rp] { slots := [], outer := [sl], objs := [(5, bx)] } = some (.tup [.own 1014 0 ps.length, .int .i64 0], { slots := f sl, outer := [sl], objs := G sl }) := by
  classical
  have c := fun sl h => c41k bx hbx sl h xs l ps ph rp t hx hl hn hacc hph
  have c0 := c [] (fun _ _ => rfl)
  refine ⟨fun sl => if h : ∀ id, 1000 ≤ id → killL id sl = sl then (c sl h).choose else [], fun sl => if h : ∀ id, 1000 ≤ id → killL id sl = sl then (c sl h).choose_spec.choose else c0.choose_spec.choose, fun sl => ?_, fun sl h => ?_⟩
  · dsimp only
    split
    · rename_i h
      exact (c sl h).choose_spec.choose_spec.2
    · exact c0.choose_spec.choose_spec.2
  · dsimp only
    rw [dif_pos h, dif_pos h]
    exact (c sl h).choose_spec.choose_spec.1

def Cells4 (vs : List V) : Prop := ∀ v ∈ vs, ∃ cs, v = .agg cs ∧ cs.length = 4

def boxR (ps : List (Int × Int)) (ph rp : Int) : Ob := { es := 3, flat := true, t := false, app := false, elems := [.agg [.sl false (ps.map encPc), .int .i64 ph, .int .i64 rp]] }

structure Left (ms : List Mk) (l : List Art) (ph rp : Int) (ps : List (Int × Int)) (i : Nat) (O : List (Nat × Ob)) : Prop where
  recs : look O 1014 = some { es := 3, flat := ps.isEmpty, t := true, app := true, elems := recsK ms l ph rp 0 ps }
  each : ∀ (j : Nat) p, i ≤ j → ps[j]? = some p → look O (10000 + j) = some (pOb ms l p)

theorem c41badf (bx : Ob) (hbx : bx.flat = true) (xs : List Run) (l : List Art) (ps : List (Int × Int)) (ph rp : Int) (t : Bool) (hx : xs.length ≤ 100000) (hl : l.length ≤ 100000) (hn : ps.length ≤ 100000) (h : ¬ (accE xs l ps = 0 ∧ badPh ph rp = false)) :
    ∃ (f : List V → List V) (G : List V → List (Nat × Ob)), ∀ sl, (∀ id, 1000 ≤ id → killL id sl = sl) →
      (orcω E X0).inl 1000 41 [.sl t (xs.map encRun), .sl false (l.map encArt), .sl false (ps.map encPc), .int .i64 ph, .int .i64 rp] { slots := [], outer := [sl], objs := [(5, bx)] } = some (.tup [.emp, .int .i64 (if accE xs l ps = 0 then 1 else accE xs l ps)], { slots := f sl, outer := [sl], objs := (5, bx) :: G sl }) := by
  classical
  have c := fun sl h0 => c41bad bx hbx sl h0 xs l ps ph rp t hx hl hn h
  refine ⟨fun sl => if h : ∀ id, 1000 ≤ id → killL id sl = sl then (c sl h).choose else [], fun sl => if h : ∀ id, 1000 ≤ id → killL id sl = sl then (c sl h).choose_spec.choose else [], fun sl h => ?_⟩
  dsimp only
  rw [dif_pos h, dif_pos h]
  exact (c sl h).choose_spec.choose_spec

theorem okT12 : okCode (Try.f12.body.getD .skip) = true := by decide +kernel
set_option maxRecDepth 20000 in
set_option maxHeartbeats 16000000 in
theorem c12 (xs : List Run) (l : List Art) (ps : List (Int × Int)) (ph rp : Int) : (orcω E X0).call 12 [.sl false (xs.map encRun), .sl false (l.map encArt), .agg [.sl false (ps.map encPc), .int .i64 ph, .int .i64 rp]] = some (.bool true) := by
  refine call_of rfl fn12 rfl ?_
  have hok := okT12
  simp only [Try.f12, Option.getD_some, okCode, Bool.and_eq_true, Bool.and_true, Bool.true_and] at hok
  have k16 := c16 xs l false (ps.map encPc)
  rw [List.length_map] at k16
  cases hlg : long xs l ps.length with
  | true =>
    rw [hlg] at k16
    simp (maxSteps := 1000000) (implicitDefEqProofs := false) only [Try.ntmps12, Try.results12, efc12, fc12, k16, c17, ss, sd, zH, qG, zF, zG, St.get, qE, qF, qB, zC, norm, look, zE, qA, qI, St.alloc, St.drop, zA, part, zB, depth, qD, ↓reduceIte, Nat.reduceBEq, Nat.reduceAdd, Nat.reduceSub, Nat.reduceMul, Nat.reduceEqDiff, Nat.reduceLeDiff, Nat.reduceLT, qJ, qK, qL, qM, qN, qO, qP, qQ, qR, zI, qS, qC, qT, evSlice0, qV, qW, qX, qY, qZ, zJ, zK, zL, wit, Option.isSome_some, qH, xJ, evPre, St.with, zD, Array.size, evLitX, evAppX, evCold, nameT, te, einl, inls, efr]
  | false =>
    rw [hlg] at k16
    unfold long at hlg
    simp only [Bool.or_eq_false_iff, decide_eq_false_iff_not] at hlg
    have k42 := c42 xs l ps ph rp (by omega) (by omega) (by omega)
    have k43 := c43 false false xs xs (by omega)
    rw [decide_eq_true rfl] at k43
    have zb : bareL (xs.map encRun) = true := bareL_map (fun _ => rfl) _
    have zr : xR (xs.map encRun) = true := refFreeL_map (fun _ => rfl) _
    have zs : sized 4 (xs.map encRun) = true := sized_map (fun r => ⟨[.int .i64 r.len, .int .i64 r.thick, .int .i64 r.shade, .int .i64 r.flaw], rfl, rfl⟩) _
    have hroom : roomy xs.length 32 = true := by simp [roomy]; omega
    have hbig : xs.length ≤ 4294967296 := by omega
    have tkx : (xs.map encRun).take xs.length = xs.map encRun := List.take_of_length_le (by simp)
    unfold recsV at k42
    by_cases h0 : accE xs l ps = 0 ∧ badPh ph rp = false
    case neg =>
      obtain ⟨f, G, k41⟩ := c41badf (boxR ps ph rp) rfl xs l ps ph rp true (by omega) (by omega) (by omega) h0
      unfold boxR at k41
      have k42' : (orcω E X0).call 42 [.sl false (xs.map encRun), .sl false (l.map encArt), .sl false (ps.map encPc), .int .i64 ph, .int .i64 rp] = some (.tup [.sl true [], .int .i64 (if accE xs l ps = 0 then 1 else accE xs l ps)]) := by
        rw [k42]
        by_cases ha : accE xs l ps = 0
        · have hb : badPh ph rp = true := by simpa [ha] using h0
          rw [if_pos ha, if_pos hb, if_pos ha]
        · rw [if_neg ha, if_neg ha]
      simp (maxSteps := 1000000) (implicitDefEqProofs := false) only [Try.ntmps12, Try.results12, efc12, fc12, k16, zb, zr, zs, hroom, hbig, tkx, List.length_map, ss, sd, zH, qG, zF, zG, St.get, qE, qF, qB, zC, norm, look, zE, qA, qI, St.alloc, St.drop, zA, part, zB, depth, qD, ↓reduceIte, Nat.reduceBEq, Nat.reduceAdd, Nat.reduceSub, Nat.reduceMul, Nat.reduceEqDiff, Nat.reduceLeDiff, Nat.reduceLT, qJ, qK, qL, qM, qN, qO, qP, qQ, qR, zI, qS, qC, qT, evSlice0, qV, qW, qX, qY, qZ, zJ, zK, zL, wit, Option.isSome_some, qH, xJ, evPre, St.with, zD, Array.size, evLitX, evAppX, evCold, nameT, te, einl, inls, efr]
      rw [k41 _ ?h1]
      case h1 =>
        intro id hid
        have n5 : ¬ 5 = id := by omega
        simp (maxSteps := 1000000) (implicitDefEqProofs := false) only [n5, ss, sd, zH, qG, zF, zG, St.get, qE, qF, qB, zC, norm, look, zE, qA, qI, St.alloc, St.drop, zA, part, zB, depth, qD, ↓reduceIte, Nat.reduceBEq, Nat.reduceAdd, Nat.reduceSub, Nat.reduceMul, Nat.reduceEqDiff, Nat.reduceLeDiff, Nat.reduceLT, qJ, qK, qL, qM, qN, qO, qP, qQ, qR, zI, qS, qC, qT, evSlice0, qV, qW, qX, qY, qZ, zJ, zK, zL, wit, Option.isSome_some, qH, xJ, evPre, St.with, zD, Array.size, evLitX, evAppX, evCold, nameT, te, einl, inls, efr]
        done
      simp (maxSteps := 1000000) (implicitDefEqProofs := false) only [Try.ntmps12, Try.results12, efc12, fc12, k42', bne_self_eq_false, List.length_nil, List.length_map, ss, sd, zH, qG, zF, zG, St.get, qE, qF, qB, zC, norm, look, zE, qA, qI, St.alloc, St.drop, zA, part, zB, depth, qD, ↓reduceIte, Nat.reduceBEq, Nat.reduceAdd, Nat.reduceSub, Nat.reduceMul, Nat.reduceEqDiff, Nat.reduceLeDiff, Nat.reduceLT, qJ, qK, qL, qM, qN, qO, qP, qQ, qR, zI, qS, qC, qT, evSlice0, qV, qW, qX, qY, qZ, zJ, zK, zL, wit, Option.isSome_some, qH, xJ, evPre, St.with, zD, Array.size, evLitX, evAppX, evCold, nameT, te, einl, inls, efr]
      generalize hr : loopAt _ _ _ _ _ _ = r; revert r
      refine loop_inv (ι := Unit) (fun _ => []) (fun _ => []) (fun _ => 0) () rfl (fun _ => ?_)
      simp (maxSteps := 1000000) (implicitDefEqProofs := false) only [Try.ntmps12, Try.results12, efc12, fc12, c17, k43, Int.lt_irrefl, List.length_nil, Int.natCast_zero, ss, sd, zH, qG, zF, zG, St.get, qE, qF, qB, zC, norm, look, zE, qA, qI, St.alloc, St.drop, zA, part, zB, depth, qD, ↓reduceIte, Nat.reduceBEq, Nat.reduceAdd, Nat.reduceSub, Nat.reduceMul, Nat.reduceEqDiff, Nat.reduceLeDiff, Nat.reduceLT, qJ, qK, qL, qM, qN, qO, qP, qQ, qR, zI, qS, qC, qT, evSlice0, qV, qW, qX, qY, qZ, zJ, zK, zL, wit, Option.isSome_some, qH, xJ, evPre, St.with, zD, Array.size, evLitX, evAppX, evCold, nameT, te, einl, inls, efr]
    case pos =>
      obtain ⟨f, G, hG, k41⟩ := c41f (boxR ps ph rp) rfl xs l ps ph rp true (by omega) (by omega) (by omega) h0.1 h0.2
      unfold boxR at k41
      rw [if_pos h0.1, if_neg (by rw [h0.2]; decide)] at k42
      simp (maxSteps := 1000000) (implicitDefEqProofs := false) only [Try.ntmps12, Try.results12, efc12, fc12, k16, zb, zr, zs, hroom, hbig, tkx, List.length_map, ss, sd, zH, qG, zF, zG, St.get, qE, qF, qB, zC, norm, look, zE, qA, qI, St.alloc, St.drop, zA, part, zB, depth, qD, ↓reduceIte, Nat.reduceBEq, Nat.reduceAdd, Nat.reduceSub, Nat.reduceMul, Nat.reduceEqDiff, Nat.reduceLeDiff, Nat.reduceLT, qJ, qK, qL, qM, qN, qO, qP, qQ, qR, zI, qS, qC, qT, evSlice0, qV, qW, qX, qY, qZ, zJ, zK, zL, wit, Option.isSome_some, qH, xJ, evPre, St.with, zD, Array.size, evLitX, evAppX, evCold, nameT, te, einl, inls, efr]
      rw [k41 _ ?h1]
      case h1 =>
        intro id hid
        have n5 : ¬ 5 = id := by omega
        simp (maxSteps := 1000000) (implicitDefEqProofs := false) only [n5, ss, sd, zH, qG, zF, zG, St.get, qE, qF, qB, zC, norm, look, zE, qA, qI, St.alloc, St.drop, zA, part, zB, depth, qD, ↓reduceIte, Nat.reduceBEq, Nat.reduceAdd, Nat.reduceSub, Nat.reduceMul, Nat.reduceEqDiff, Nat.reduceLeDiff, Nat.reduceLT, qJ, qK, qL, qM, qN, qO, qP, qQ, qR, zI, qS, qC, qT, evSlice0, qV, qW, qX, qY, qZ, zJ, zK, zL, wit, Option.isSome_some, qH, xJ, evPre, St.with, zD, Array.size, evLitX, evAppX, evCold, nameT, te, einl, inls, efr]
      generalize hO : G _ = O
      have hm : Made (boxR ps ph rp) (expand xs) l ph rp ps O := hO ▸ hG _
      clear hO
      have h1014 := hm.recs
      have h5 := hm.five
      unfold boxR at h5
      simp (maxSteps := 1000000) (implicitDefEqProofs := false) only [Try.ntmps12, Try.results12, efc12, fc12, k42, bne_self_eq_false, List.length_map, h1014, h5, ss, sd, zH, qG, zF, zG, St.get, qE, qF, qB, zC, norm, look, zE, qA, qI, St.alloc, St.drop, zA, part, zB, depth, qD, ↓reduceIte, Nat.reduceBEq, Nat.reduceAdd, Nat.reduceSub, Nat.reduceMul, Nat.reduceEqDiff, Nat.reduceLeDiff, Nat.reduceLT, qJ, qK, qL, qM, qN, qO, qP, qQ, qR, zI, qS, qC, qT, evSlice0, qV, qW, qX, qY, qZ, zJ, zK, zL, wit, Option.isSome_some, qH, xJ, evPre, St.with, zD, Array.size, evLitX, evAppX, evCold, nameT, te, einl, inls, efr]
      generalize hr : loopAt _ _ _ _ _ _ = r; revert r
      refine loop_o (ι := { i : Nat × List (Nat × Ob) // i.1 ≤ ps.length ∧ Left (expand xs) l ph rp ps i.1 i.2 }) (fun i => [(12, .int .i64 i.1.1)]) (fun i => i.1.2) (fun i => ps.length - i.1.1) ⟨(0, O), Nat.zero_le _, ⟨h1014, fun j p _ h => hm.each j p h⟩⟩ (by simp (maxSteps := 1000000) (implicitDefEqProofs := false) only [Int.natCast_zero, ss, sd, zH, qG, zF, zG, St.get, qE, qF, qB, zC, norm, look, zE, qA, qI, St.alloc, St.drop, zA, part, zB, depth, qD, ↓reduceIte, Nat.reduceBEq, Nat.reduceAdd, Nat.reduceSub, Nat.reduceMul, Nat.reduceEqDiff, Nat.reduceLeDiff, Nat.reduceLT, qJ, qK, qL, qM, qN, qO, qP, qQ, qR, zI, qS, qC, qT, evSlice0, qV, qW, qX, qY, qZ, zJ, zK, zL, wit, Option.isSome_some, qH, xJ, evPre, St.with, zD, Array.size, evLitX, evAppX, evCold, nameT, te, einl, inls, efr]) ?_
      rintro ⟨⟨i, O⟩, hi, hL⟩
      dsimp only at hi hL ⊢
      have hr := hL.recs
      rcases Nat.lt_or_ge i ps.length with hlt | hge
      case inr =>
        obtain rfl : i = ps.length := by omega
        simp (maxSteps := 1000000) (implicitDefEqProofs := false) only [Try.ntmps12, Try.results12, efc12, fc12, c17, k43, Int.lt_irrefl, List.length_map, ss, sd, zH, qG, zF, zG, St.get, qE, qF, qB, zC, norm, look, zE, qA, qI, St.alloc, St.drop, zA, part, zB, depth, qD, ↓reduceIte, Nat.reduceBEq, Nat.reduceAdd, Nat.reduceSub, Nat.reduceMul, Nat.reduceEqDiff, Nat.reduceLeDiff, Nat.reduceLT, qJ, qK, qL, qM, qN, qO, qP, qQ, qR, zI, qS, qC, qT, evSlice0, qV, qW, qX, qY, qZ, zJ, zK, zL, wit, Option.isSome_some, qH, xJ, evPre, St.with, zD, Array.size, evLitX, evAppX, evCold, nameT, te, einl, inls, efr]
        done
      have g1 : (i : Int) < ps.length := by omega
      obtain ⟨p, g3⟩ : ∃ p, ps[i]? = some p := ⟨_, List.getElem?_eq_getElem hlt⟩
      have hE := hL.each i p (Nat.le_refl _) g3
      have rl := recsK_len (expand xs) l ph rp ps 0
      have rg := recsK_get (expand xs) l ph rp ps 0 i p g3
      rw [Nat.zero_add] at rg
      unfold recK at rg
      unfold pOb at hE
      have hpl : (pieceL (expand xs) l p).length ≤ 1000000000 := by
        have hacc := h0.1
        unfold accE at hacc
        have he : errM xs l = 0 := by
          by_cases he : errM xs l = 0
          · exact he
          · rw [if_neg he] at hacc; exact absurd hacc he
        rw [if_pos he] at hacc
        exact Nat.le_trans (slice_len (errM_zero he).1 (rec_slice he (check_fits hacc p (List.mem_of_getElem? g3))).1) (by decide)
      have k43p := c43 false false (pieceL (expand xs) l p) (pieceL (expand xs) l p) hpl
      rw [decide_eq_true rfl] at k43p
      simp (maxSteps := 1000000) (implicitDefEqProofs := false) only [Try.ntmps12, Try.results12, efc12, fc12, hok, evRegion_st, bne_self_eq_false, g1, g3, hr, hE, rl, rg, encRec, k43p, thawCall, Option.map_some, Int.natCast_nonneg, Int.toNat_natCast, List.length_map, List.getElem?_map, ss, sd, zH, qG, zF, zG, St.get, qE, qF, qB, zC, norm, look, zE, qA, qI, St.alloc, St.drop, zA, part, zB, depth, qD, ↓reduceIte, Nat.reduceBEq, Nat.reduceAdd, Nat.reduceSub, Nat.reduceMul, Nat.reduceEqDiff, Nat.reduceLeDiff, Nat.reduceLT, qJ, qK, qL, qM, qN, qO, qP, qQ, qR, zI, qS, qC, qT, evSlice0, qV, qW, qX, qY, qZ, zJ, zK, zL, wit, Option.isSome_some, qH, xJ, evPre, St.with, zD, Array.size, evLitX, evAppX, evCold, nameT, te, einl, inls, efr]
      generalize hr : loopAt _ _ _ _ _ _ = r; revert r
      refine loop_o (ι := { q : Nat × List (Nat × Ob) × List V // q.1 ≤ q.2.2.length ∧ q.2.2.length = (pieceL (expand xs) l p).length ∧ Cells4 q.2.2 ∧ Left (expand xs) l ph rp ps (i + 1) q.2.1 ∧ look q.2.1 (10000 + i) = some { es := 4, flat := true, t := true, app := false, elems := q.2.2 } }) (fun q => [(13, .int .i64 q.1.1)]) (fun q => q.1.2.1) (fun q => q.1.2.2.length - q.1.1)
        ⟨(0, O, (pieceL (expand xs) l p).map encRun), Nat.zero_le _, List.length_map _, fun v hv => by obtain ⟨r, _, rfl⟩ := List.mem_map.1 hv; exact ⟨_, rfl, rfl⟩, ⟨hr, fun j q hj h => hL.each j q (by omega) h⟩, hE⟩ (by simp (maxSteps := 1000000) (implicitDefEqProofs := false) only [Int.natCast_zero, ss, sd, zH, qG, zF, zG, St.get, qE, qF, qB, zC, norm, look, zE, qA, qI, St.alloc, St.drop, zA, part, zB, depth, qD, ↓reduceIte, Nat.reduceBEq, Nat.reduceAdd, Nat.reduceSub, Nat.reduceMul, Nat.reduceEqDiff, Nat.reduceLeDiff, Nat.reduceLT, qJ, qK, qL, qM, qN, qO, qP, qQ, qR, zI, qS, qC, qT, evSlice0, qV, qW, qX, qY, qZ, zJ, zK, zL, wit, Option.isSome_some, qH, xJ, evPre, St.with, zD, Array.size, evLitX, evAppX, evCold, nameT, te, einl, inls, efr]) ?_
      rintro ⟨⟨k, O', vs⟩, hk, hvl, h4, hL', hV⟩
      dsimp only at hk hvl h4 hL' hV ⊢
      have hr' := hL'.recs
      rcases Nat.lt_or_ge k vs.length with hklt | hkge
      case inr =>
        obtain rfl : k = vs.length := by omega
        have w1 : IntKind.i64.wrap ((i : Int) + 1) = ((i + 1 : Nat) : Int) := by rw [wrap_in (by omega)]; simp
        simp (maxSteps := 1000000) (implicitDefEqProofs := false) only [Try.ntmps12, Try.results12, efc12, fc12, hvl, g1, hr', hV, rl, rg, w1, Int.lt_irrefl, Int.natCast_nonneg, Int.toNat_natCast, List.length_map, ss, sd, zH, qG, zF, zG, St.get, qE, qF, qB, zC, norm, look, zE, qA, qI, St.alloc, St.drop, zA, part, zB, depth, qD, ↓reduceIte, Nat.reduceBEq, Nat.reduceAdd, Nat.reduceSub, Nat.reduceMul, Nat.reduceEqDiff, Nat.reduceLeDiff, Nat.reduceLT, qJ, qK, qL, qM, qN, qO, qP, qQ, qR, zI, qS, qC, qT, evSlice0, qV, qW, qX, qY, qZ, zJ, zK, zL, wit, Option.isSome_some, qH, xJ, evPre, St.with, zD, Array.size, evLitX, evAppX, evCold, nameT, te, einl, inls, efr]
        exact ⟨⟨(i + 1, O'), by omega, hL'⟩, rfl, by dsimp only; omega⟩
      have g5 : (k : Int) < vs.length := by omega
      have g5' : (k : Int) < (pieceL (expand xs) l p).length := by omega
      obtain ⟨cs, hcs, hc4⟩ := h4 _ (List.getElem_mem hklt)
      have g6 : vs[k]? = some (.agg cs) := by rw [List.getElem?_eq_getElem hklt, hcs]
      have w2 : IntKind.i64.wrap ((k : Int) + 1) = ((k + 1 : Nat) : Int) := by rw [wrap_in (by omega)]; simp
      have hc1 : (1 ≤ cs.length) = True := eq_true (by omega)
      simp (maxSteps := 1000000) (implicitDefEqProofs := false) only [Try.ntmps12, Try.results12, efc12, fc12, hok, evRegion_st, g1, hvl, g5, g5', g6, hc1, Option.map_some, hr', hV, rl, rg, w2, Int.natCast_nonneg, Int.toNat_natCast, List.length_map, ss, sd, zH, qG, zF, zG, St.get, qE, qF, qB, zC, norm, look, zE, qA, qI, St.alloc, St.drop, zA, part, zB, depth, qD, ↓reduceIte, Nat.reduceBEq, Nat.reduceAdd, Nat.reduceSub, Nat.reduceMul, Nat.reduceEqDiff, Nat.reduceLeDiff, Nat.reduceLT, qJ, qK, qL, qM, qN, qO, qP, qQ, qR, zI, qS, qC, qT, evSlice0, qV, qW, qX, qY, qZ, zJ, zK, zL, wit, Option.isSome_some, qH, xJ, evPre, St.with, zD, Array.size, evLitX, evAppX, evCold, nameT, te, einl, inls, efr]
      refine ⟨⟨(k + 1, upd O' (10000 + i) { es := 4, flat := true, t := true, app := false, elems := vs.set k (V.agg (V.int .i64 (-1) :: List.drop 1 cs)) }, vs.set k (V.agg (V.int .i64 (-1) :: List.drop 1 cs))), ?_, ?_, ?_, ?_, ?_⟩, rfl, ?_⟩
      · show k + 1 ≤ (vs.set k _).length
        rw [List.length_set]; omega
      · show (vs.set k _).length = _
        rw [List.length_set]; exact hvl
      · intro v hv
        rcases List.mem_or_eq_of_mem_set hv with h | h
        · exact h4 v h
        · exact ⟨_, h, by simp only [List.length_cons, List.length_drop]; omega⟩
      · refine ⟨?_, fun j q hj h => ?_⟩
        · rw [look_upd, if_neg (by omega)]; exact hr'
        · rw [look_upd, if_neg (by omega)]; exact hL'.each j q hj h
      · rw [look_upd, if_pos rfl]
      · show (vs.set k _).length - (k + 1) < _
        rw [List.length_set]; omega
end Go.AM.C

