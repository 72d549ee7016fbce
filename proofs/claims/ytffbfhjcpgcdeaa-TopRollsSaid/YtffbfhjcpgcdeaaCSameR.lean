/-
Two lists of runs with the same marks at all places.
-/
import Derived.Test.YtffbfhjcpgcdeaaCRecs
set_option linter.unusedVariables false
set_option linter.unusedSimpArgs false
set_option maxRecDepth 20000

namespace Go.AM.C
open Go Go.Proofs

def inRun (x : Nat) : List Run → Prop
  | [] => x = 0
  | r :: _ => x < r.len.toNat

structure Pos (A B : List Run) where
  pa : List Run
  qa : List Run
  pb : List Run
  qb : List Run
  x : Nat
  y : Nat
  ha : A = pa ++ qa
  hb : B = pb ++ qb
  ix : inRun x qa
  iy : inRun y qb
  eq : (expand qa).drop x = (expand qb).drop y

theorem drop_run {r : Run} {rs : List Run} {x : Nat} (h : x < r.len.toNat) : (expand (r :: rs)).drop x = r.mk' :: (expand (r :: rs)).drop (x + 1) := by
  have hl : x < (expand (r :: rs)).length := by rw [expand_cons, List.length_append, List.length_replicate]; omega
  rw [List.drop_eq_getElem_cons hl]
  congr 1
  simp only [expand_cons]
  rw [List.getElem_append_left (by rw [List.length_replicate]; exact h), List.getElem_replicate]

theorem drop_all {r : Run} {rs : List Run} {x : Nat} (h : x = r.len.toNat) : (expand (r :: rs)).drop x = expand rs := by
  subst h
  rw [expand_cons, List.drop_append_of_le_length (by rw [List.length_replicate]; exact Nat.le_refl _), List.drop_of_length_le (by rw [List.length_replicate]; exact Nat.le_refl _), List.nil_append]

theorem inRun_zero {rs : List Run} (h : ∀ r ∈ rs, 1 ≤ r.len) : inRun 0 rs := by
  cases rs with
  | nil => rfl
  | cons r rs => have := h r List.mem_cons_self; show 0 < r.len.toNat; omega

theorem inRun_nil {rs : List Run} {y : Nat} (h : inRun y rs) (he : (expand rs).drop y = []) : rs = [] ∧ y = 0 := by
  cases rs with
  | nil => exact ⟨rfl, h⟩
  | cons r rs =>
    have h' : y < r.len.toNat := h
    rw [drop_run h'] at he
    cases he

theorem okT49 : okCode (Try.f49.body.getD .skip) = true := by decide +kernel

set_option maxHeartbeats 8000000 in
theorem c49 (A B : List Run) (hA : ∀ r ∈ A, 1 ≤ r.len) (hB : ∀ r ∈ B, 1 ≤ r.len) (hn : A.length ≤ 1000000) (hm : B.length ≤ 1000000) (la : ∀ r ∈ A, r.len ≤ 1000000) (lb : ∀ r ∈ B, r.len ≤ 1000000) (t u : Bool) (he : expand A = expand B) :
    (orcω E X0).call 49 [.sl t (A.map encRun), .sl u (B.map encRun)] = some (.bool true) := by
  refine call_of rfl fn49 rfl ?_
  have hok := okT49
  simp only [Try.f49, Option.getD_some, okCode, Bool.and_eq_true, Bool.and_true, Bool.true_and] at hok
  simp (maxSteps := 1000000) (implicitDefEqProofs := false) only [Try.ntmps49, Try.results49, efc49, fc49, ss, sd, zH, qG, zF, zG, St.get, qE, qF, qB, zC, norm, look, zE, qA, qI, St.alloc, St.drop, zA, part, zB, depth, qD, ↓reduceIte, Nat.reduceBEq, Nat.reduceAdd, Nat.reduceSub, Nat.reduceMul, Nat.reduceEqDiff, Nat.reduceLeDiff, Nat.reduceLT, qJ, qK, qL, qM, qN, qO, qP, qQ, qR, zI, qS, qC, qT, qU, qV, qW, qX, qY, qZ, zJ, zK, zL, wit, Option.isSome_some, qH, St.with, zD, Array.size, te, einl, inls, efr]
  generalize hr : loopAt _ _ _ _ _ _ = r; revert r
  refine loop_inv (ι := Pos A B) (fun i => [(5, .int .i64 (i.pa.length : Nat)), (6, .int .i64 (i.pb.length : Nat)), (7, .int .i64 (i.x : Nat)), (8, .int .i64 (i.y : Nat))]) (fun _ => []) (fun i => (expand i.qa).length - i.x) ⟨[], A, [], B, 0, 0, rfl, rfl, inRun_zero hA, inRun_zero hB, by rw [List.drop_zero, List.drop_zero]; exact he⟩ (by simp (maxSteps := 1000000) (implicitDefEqProofs := false) only [List.length_nil, Int.natCast_zero, ss, sd, zH, qG, zF, zG, St.get, qE, qF, qB, zC, norm, look, zE, qA, qI, St.alloc, St.drop, zA, part, zB, depth, qD, ↓reduceIte, Nat.reduceBEq, Nat.reduceAdd, Nat.reduceSub, Nat.reduceMul, Nat.reduceEqDiff, Nat.reduceLeDiff, Nat.reduceLT, qJ, qK, qL, qM, qN, qO, qP, qQ, qR, zI, qS, qC, qT, qU, qV, qW, qX, qY, qZ, zJ, zK, zL, wit, Option.isSome_some, qH, St.with, zD, Array.size, te, einl, inls, efr]) ?_
  rintro ⟨pa, qa, pb, qb, x, y, ha, hb, ix, iy, eq⟩
  dsimp only
  cases qa with
  | nil =>
    have e0 : (expand qb).drop y = [] := by rw [← eq]; simp [expand]
    obtain ⟨rfl, rfl⟩ := inRun_nil iy e0
    rw [List.append_nil] at ha hb
    subst ha; subst hb
    simp (maxSteps := 1000000) (implicitDefEqProofs := false) only [Int.lt_irrefl, Try.ntmps49, Try.results49, efc49, fc49, ss, sd, zH, qG, zF, zG, St.get, qE, qF, qB, zC, norm, look, zE, qA, qI, St.alloc, St.drop, zA, part, zB, depth, qD, ↓reduceIte, Nat.reduceBEq, Nat.reduceAdd, Nat.reduceSub, Nat.reduceMul, Nat.reduceEqDiff, Nat.reduceLeDiff, Nat.reduceLT, qJ, qK, qL, qM, qN, qO, qP, qQ, qR, zI, qS, qC, qT, qU, qV, qW, qX, qY, qZ, zJ, zK, zL, wit, Option.isSome_some, qH, St.with, zD, Array.size, te, einl, inls, efr]
  | cons r ra =>
    have ix' : x < r.len.toNat := ix
    cases qb with
    | nil =>
      rw [drop_run ix'] at eq
      simp [expand] at eq
    | cons s rb =>
      have iy' : y < s.len.toNat := iy
      rw [drop_run ix', drop_run iy'] at eq
      simp only [List.cons.injEq] at eq
      obtain ⟨em, et⟩ := eq
      have m1 : r.thick = s.thick := congrArg Mk.thick em
      have m2 : r.shade = s.shade := congrArg Mk.shade em
      have m3 : r.flaw = s.flaw := congrArg Mk.flaw em
      have hr : r ∈ A := by rw [ha]; simp
      have hs : s ∈ B := by rw [hb]; simp
      have r1 := hA r hr
      have s1 := hB s hs
      have r2 := la r hr
      have s2 := lb s hs
      have l1 : pa.length < A.length := by rw [ha]; simp
      have l2 : pb.length < B.length := by rw [hb]; simp
      have l1' : ((pa.length : Int) < (A.length : Int)) = True := eq_true (by omega)
      have l2' : ((pb.length : Int) < (B.length : Int)) = True := eq_true (by omega)
      have g1 : A[pa.length]? = some r := by rw [ha]; simp
      have g2 : B[pb.length]? = some s := by rw [hb]; simp
      have w1 : IntKind.i64.wrap ((x : Int) + 1) = ((x + 1 : Nat) : Int) := by rw [wrap_in (by omega)]; omega
      have w2 : IntKind.i64.wrap ((y : Int) + 1) = ((y + 1 : Nat) : Int) := by rw [wrap_in (by omega)]; omega
      have w3 : IntKind.i64.wrap ((pa.length : Int) + 1) = (((pa ++ [r]).length : Nat) : Int) := by rw [wrap_in (by omega), List.length_append]; rfl
      have w4 : IntKind.i64.wrap ((pb.length : Int) + 1) = (((pb ++ [s]).length : Nat) : Int) := by rw [wrap_in (by omega), List.length_append]; rfl
      have hxl : x < (expand (r :: ra)).length := by rw [expand_cons, List.length_append, List.length_replicate]; omega
      have hA' : ∀ q ∈ ra, 1 ≤ q.len := fun q hq => hA q (by rw [ha]; simp [hq])
      have hB' : ∀ q ∈ rb, 1 ≤ q.len := fun q hq => hB q (by rw [hb]; simp [hq])
      have ea : (expand (r :: ra)).length = r.len.toNat + (expand ra).length := by rw [expand_cons, List.length_append, List.length_replicate]
      by_cases c1 : r.len ≤ ((x + 1 : Nat) : Int)
      · have x1 : x + 1 = r.len.toNat := by omega
        have e1 := drop_all (rs := ra) x1
        by_cases c2 : s.len ≤ ((y + 1 : Nat) : Int)
        · have y1 : y + 1 = s.len.toNat := by omega
          have e2 := drop_all (rs := rb) y1
          simp (maxSteps := 1000000) (implicitDefEqProofs := false) only [l1', l2', g1, g2, m1, m2, m3, w1, w2, w3, w4, c1, c2, encRun, bne, Int.natCast_nonneg, Int.toNat_natCast, List.getElem?_map, evRegion_st hok, ss, sd, zH, qG, zF, zG, St.get, qE, qF, qB, zC, norm, look, zE, qA, qI, St.alloc, St.drop, zA, part, zB, depth, qD, ↓reduceIte, Nat.reduceBEq, Nat.reduceAdd, Nat.reduceSub, Nat.reduceMul, Nat.reduceEqDiff, Nat.reduceLeDiff, Nat.reduceLT, qJ, qK, qL, qM, qN, qO, qP, qQ, qR, zI, qS, qC, qT, qU, qV, qW, qX, qY, qZ, zJ, zK, zL, wit, Option.isSome_some, qH, St.with, zD, Array.size, te, einl, inls, efr]
          refine ⟨⟨pa ++ [r], ra, pb ++ [s], rb, 0, 0, by simp [ha], by simp [hb], inRun_zero hA', inRun_zero hB', ?_⟩, rfl, ?_⟩
          · rw [List.drop_zero, List.drop_zero, ← e1, ← e2]; exact et
          · dsimp only; omega
        · simp (maxSteps := 1000000) (implicitDefEqProofs := false) only [l1', l2', g1, g2, m1, m2, m3, w1, w2, w3, w4, c1, c2, encRun, bne, Int.natCast_nonneg, Int.toNat_natCast, List.getElem?_map, evRegion_st hok, ss, sd, zH, qG, zF, zG, St.get, qE, qF, qB, zC, norm, look, zE, qA, qI, St.alloc, St.drop, zA, part, zB, depth, qD, ↓reduceIte, Nat.reduceBEq, Nat.reduceAdd, Nat.reduceSub, Nat.reduceMul, Nat.reduceEqDiff, Nat.reduceLeDiff, Nat.reduceLT, qJ, qK, qL, qM, qN, qO, qP, qQ, qR, zI, qS, qC, qT, qU, qV, qW, qX, qY, qZ, zJ, zK, zL, wit, Option.isSome_some, qH, St.with, zD, Array.size, te, einl, inls, efr]
          refine ⟨⟨pa ++ [r], ra, pb, s :: rb, 0, y + 1, by simp [ha], hb, inRun_zero hA', (show y + 1 < s.len.toNat by omega), ?_⟩, rfl, ?_⟩
          · rw [List.drop_zero, ← e1]; exact et
          · dsimp only; omega
      · by_cases c2 : s.len ≤ ((y + 1 : Nat) : Int)
        · have y1 : y + 1 = s.len.toNat := by omega
          have e2 := drop_all (rs := rb) y1
          simp (maxSteps := 1000000) (implicitDefEqProofs := false) only [l1', l2', g1, g2, m1, m2, m3, w1, w2, w3, w4, c1, c2, encRun, bne, Int.natCast_nonneg, Int.toNat_natCast, List.getElem?_map, evRegion_st hok, ss, sd, zH, qG, zF, zG, St.get, qE, qF, qB, zC, norm, look, zE, qA, qI, St.alloc, St.drop, zA, part, zB, depth, qD, ↓reduceIte, Nat.reduceBEq, Nat.reduceAdd, Nat.reduceSub, Nat.reduceMul, Nat.reduceEqDiff, Nat.reduceLeDiff, Nat.reduceLT, qJ, qK, qL, qM, qN, qO, qP, qQ, qR, zI, qS, qC, qT, qU, qV, qW, qX, qY, qZ, zJ, zK, zL, wit, Option.isSome_some, qH, St.with, zD, Array.size, te, einl, inls, efr]
          refine ⟨⟨pa, r :: ra, pb ++ [s], rb, x + 1, 0, ha, by simp [hb], (show x + 1 < r.len.toNat by omega), inRun_zero hB', ?_⟩, rfl, ?_⟩
          · rw [List.drop_zero, ← e2]; exact et
          · dsimp only; omega
        · simp (maxSteps := 1000000) (implicitDefEqProofs := false) only [l1', l2', g1, g2, m1, m2, m3, w1, w2, w3, w4, c1, c2, encRun, bne, Int.natCast_nonneg, Int.toNat_natCast, List.getElem?_map, evRegion_st hok, ss, sd, zH, qG, zF, zG, St.get, qE, qF, qB, zC, norm, look, zE, qA, qI, St.alloc, St.drop, zA, part, zB, depth, qD, ↓reduceIte, Nat.reduceBEq, Nat.reduceAdd, Nat.reduceSub, Nat.reduceMul, Nat.reduceEqDiff, Nat.reduceLeDiff, Nat.reduceLT, qJ, qK, qL, qM, qN, qO, qP, qQ, qR, zI, qS, qC, qT, qU, qV, qW, qX, qY, qZ, zJ, zK, zL, wit, Option.isSome_some, qH, St.with, zD, Array.size, te, einl, inls, efr]
          refine ⟨⟨pa, r :: ra, pb, s :: rb, x + 1, y + 1, ha, hb, (show x + 1 < r.len.toNat by omega), (show y + 1 < s.len.toNat by omega), et⟩, rfl, ?_⟩
          dsimp only; omega

end Go.AM.C

