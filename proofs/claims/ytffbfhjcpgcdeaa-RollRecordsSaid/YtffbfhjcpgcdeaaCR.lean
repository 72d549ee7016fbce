/- A part of the proof: the texts CBandO, CBandP, CBandQ, CBandU, CBandV, CSpan, one after another. No condition. -/
import Derived.Test.YtffbfhjcpgcdeaaCQ
set_option linter.unusedVariables false
set_option linter.unusedSimpArgs false
set_option maxRecDepth 20000

section
namespace Go.AM.C
open Go Go.Proofs

end Go.AM.C
end

section
namespace Go.AM.C
open Go Go.Proofs

end Go.AM.C
end

section
namespace Go.AM.C
open Go Go.Proofs

def encSp (p : Int × Int) : V := .agg [.int .i64 p.1, .int .i64 p.2]
structure Qu where
  least : Int
  most : Int
  shade : Int
  flaws : Int
def encQ (q : Qu) : V := .agg [.int .i64 q.least, .int .i64 q.most, .int .i64 q.shade, .int .i64 q.flaws]

def holds (q : Qu) (m : Mk) : Bool := inB m.thick q.least q.most && (q.shade == -1 || q.shade == m.shade) && bitsI .andNot .i64 m.flaw q.flaws == 0

theorem c84 (q : Qu) (m : Mk) : (orcω E X0).call 84 [encQ q, encMk m] = some (.bool (holds q m)) := by
  refine call_of rfl fn84 rfl ?_
  have h1 := c75 m.thick q.least q.most
  unfold holds
  generalize inB m.thick q.least q.most = b1 at *
  generalize hb : bitsI .andNot .i64 m.flaw q.flaws = z
  cases b1
  · simp (maxSteps := 1000000) (implicitDefEqProofs := false) only [Try.ntmps84, Try.results84, efc84, encQ, encMk, h1, ss, sd, zH, qG, zF, zG, St.get, qE, qF, qB, zC, norm, look, zE, qA, qI, St.alloc, St.drop, zA, part, zB, depth, qD, ↓reduceIte, Nat.reduceBEq, Nat.reduceAdd, Nat.reduceSub, Nat.reduceMul, Nat.reduceEqDiff, Nat.reduceLeDiff, Nat.reduceLT, qJ, qK, qL, qM, qN, qO, qP, qQ, qR, zI, qS, qC, qT, evSlice0, qV, qW, qX, qY, qZ, zJ, zK, zL, wit, Option.isSome_some, qH, xJ, evPre, St.with, zD, Array.size, evLitX, evAppX, evCold, nameT, te, einl, inls, efr]
  · cases h2 : q.shade == -1
    · cases h3 : q.shade == m.shade
      · simp (maxSteps := 1000000) (implicitDefEqProofs := false) only [Try.ntmps84, Try.results84, efc84, encQ, encMk, h1, h2, h3, hb, ss, sd, zH, qG, zF, zG, St.get, qE, qF, qB, zC, norm, look, zE, qA, qI, St.alloc, St.drop, zA, part, zB, depth, qD, ↓reduceIte, Nat.reduceBEq, Nat.reduceAdd, Nat.reduceSub, Nat.reduceMul, Nat.reduceEqDiff, Nat.reduceLeDiff, Nat.reduceLT, qJ, qK, qL, qM, qN, qO, qP, qQ, qR, zI, qS, qC, qT, evSlice0, qV, qW, qX, qY, qZ, zJ, zK, zL, wit, Option.isSome_some, qH, xJ, evPre, St.with, zD, Array.size, evLitX, evAppX, evCold, nameT, te, einl, inls, efr]
      · simp (maxSteps := 1000000) (implicitDefEqProofs := false) only [Try.ntmps84, Try.results84, efc84, encQ, encMk, h1, h2, h3, hb, ss, sd, zH, qG, zF, zG, St.get, qE, qF, qB, zC, norm, look, zE, qA, qI, St.alloc, St.drop, zA, part, zB, depth, qD, ↓reduceIte, Nat.reduceBEq, Nat.reduceAdd, Nat.reduceSub, Nat.reduceMul, Nat.reduceEqDiff, Nat.reduceLeDiff, Nat.reduceLT, qJ, qK, qL, qM, qN, qO, qP, qQ, qR, zI, qS, qC, qT, evSlice0, qV, qW, qX, qY, qZ, zJ, zK, zL, wit, Option.isSome_some, qH, xJ, evPre, St.with, zD, Array.size, evLitX, evAppX, evCold, nameT, te, einl, inls, efr]
    · simp (maxSteps := 1000000) (implicitDefEqProofs := false) only [Try.ntmps84, Try.results84, efc84, encQ, encMk, h1, h2, hb, ss, sd, zH, qG, zF, zG, St.get, qE, qF, qB, zC, norm, look, zE, qA, qI, St.alloc, St.drop, zA, part, zB, depth, qD, ↓reduceIte, Nat.reduceBEq, Nat.reduceAdd, Nat.reduceSub, Nat.reduceMul, Nat.reduceEqDiff, Nat.reduceLeDiff, Nat.reduceLT, qJ, qK, qL, qM, qN, qO, qP, qQ, qR, zI, qS, qC, qT, evSlice0, qV, qW, qX, qY, qZ, zJ, zK, zL, wit, Option.isSome_some, qH, xJ, evPre, St.with, zD, Array.size, evLitX, evAppX, evCold, nameT, te, einl, inls, efr]

theorem c72 (q : Qu) (m : Mk) : (orcω E X0).call 72 [encQ q, encMk m] = some (.bool (holds q m)) := by
  refine call_of rfl fn72 rfl ?_
  unfold holds inB
  generalize hb : bitsI .andNot .i64 m.flaw q.flaws = z
  by_cases a1 : q.least ≤ m.thick
  · by_cases a2 : m.thick ≤ q.most
    · cases h2 : q.shade == -1
      · cases h3 : q.shade == m.shade
        · simp (maxSteps := 1000000) (implicitDefEqProofs := false) only [Try.ntmps72, Try.results72, efc72, encQ, encMk, a1, a2, h2, h3, hb, ss, sd, zH, qG, zF, zG, St.get, qE, qF, qB, zC, norm, look, zE, qA, qI, St.alloc, St.drop, zA, part, zB, depth, qD, ↓reduceIte, Nat.reduceBEq, Nat.reduceAdd, Nat.reduceSub, Nat.reduceMul, Nat.reduceEqDiff, Nat.reduceLeDiff, Nat.reduceLT, qJ, qK, qL, qM, qN, qO, qP, qQ, qR, zI, qS, qC, qT, evSlice0, qV, qW, qX, qY, qZ, zJ, zK, zL, wit, Option.isSome_some, qH, xJ, evPre, St.with, zD, Array.size, evLitX, evAppX, evCold, nameT, te, einl, inls, efr]
        · simp (maxSteps := 1000000) (implicitDefEqProofs := false) only [Try.ntmps72, Try.results72, efc72, encQ, encMk, a1, a2, h2, h3, hb, ss, sd, zH, qG, zF, zG, St.get, qE, qF, qB, zC, norm, look, zE, qA, qI, St.alloc, St.drop, zA, part, zB, depth, qD, ↓reduceIte, Nat.reduceBEq, Nat.reduceAdd, Nat.reduceSub, Nat.reduceMul, Nat.reduceEqDiff, Nat.reduceLeDiff, Nat.reduceLT, qJ, qK, qL, qM, qN, qO, qP, qQ, qR, zI, qS, qC, qT, evSlice0, qV, qW, qX, qY, qZ, zJ, zK, zL, wit, Option.isSome_some, qH, xJ, evPre, St.with, zD, Array.size, evLitX, evAppX, evCold, nameT, te, einl, inls, efr]
      · simp (maxSteps := 1000000) (implicitDefEqProofs := false) only [Try.ntmps72, Try.results72, efc72, encQ, encMk, a1, a2, h2, hb, ss, sd, zH, qG, zF, zG, St.get, qE, qF, qB, zC, norm, look, zE, qA, qI, St.alloc, St.drop, zA, part, zB, depth, qD, ↓reduceIte, Nat.reduceBEq, Nat.reduceAdd, Nat.reduceSub, Nat.reduceMul, Nat.reduceEqDiff, Nat.reduceLeDiff, Nat.reduceLT, qJ, qK, qL, qM, qN, qO, qP, qQ, qR, zI, qS, qC, qT, evSlice0, qV, qW, qX, qY, qZ, zJ, zK, zL, wit, Option.isSome_some, qH, xJ, evPre, St.with, zD, Array.size, evLitX, evAppX, evCold, nameT, te, einl, inls, efr]
    · simp (maxSteps := 1000000) (implicitDefEqProofs := false) only [Try.ntmps72, Try.results72, efc72, encQ, encMk, a1, a2, ss, sd, zH, qG, zF, zG, St.get, qE, qF, qB, zC, norm, look, zE, qA, qI, St.alloc, St.drop, zA, part, zB, depth, qD, ↓reduceIte, Nat.reduceBEq, Nat.reduceAdd, Nat.reduceSub, Nat.reduceMul, Nat.reduceEqDiff, Nat.reduceLeDiff, Nat.reduceLT, qJ, qK, qL, qM, qN, qO, qP, qQ, qR, zI, qS, qC, qT, evSlice0, qV, qW, qX, qY, qZ, zJ, zK, zL, wit, Option.isSome_some, qH, xJ, evPre, St.with, zD, Array.size, evLitX, evAppX, evCold, nameT, te, einl, inls, efr]
  · simp (maxSteps := 1000000) (implicitDefEqProofs := false) only [Try.ntmps72, Try.results72, efc72, encQ, encMk, a1, ss, sd, zH, qG, zF, zG, St.get, qE, qF, qB, zC, norm, look, zE, qA, qI, St.alloc, St.drop, zA, part, zB, depth, qD, ↓reduceIte, Nat.reduceBEq, Nat.reduceAdd, Nat.reduceSub, Nat.reduceMul, Nat.reduceEqDiff, Nat.reduceLeDiff, Nat.reduceLT, qJ, qK, qL, qM, qN, qO, qP, qQ, qR, zI, qS, qC, qT, evSlice0, qV, qW, qX, qY, qZ, zJ, zK, zL, wit, Option.isSome_some, qH, xJ, evPre, St.with, zD, Array.size, evLitX, evAppX, evCold, nameT, te, einl, inls, efr]

def pushS (acc : List (Int × Int)) (x : Int × Int) : List (Int × Int) := match acc.getLast? with
  | some s => if s.2 = x.1 then acc.set (acc.length - 1) (s.1, x.2) else acc ++ [x]
  | none => acc ++ [x]

theorem pushS_nil (x : Int × Int) : pushS [] x = [x] := rfl
theorem pushS_same (l : List (Int × Int)) (s x : Int × Int) (h : s.2 = x.1) : pushS (l ++ [s]) x = l ++ [(s.1, x.2)] := by
  unfold pushS
  simp [h, List.set_append]
theorem pushS_other (l : List (Int × Int)) (s x : Int × Int) (h : s.2 ≠ x.1) : pushS (l ++ [s]) x = l ++ [s, x] := by
  unfold pushS
  simp [h]
theorem pushS_len (acc : List (Int × Int)) (x : Int × Int) : (pushS acc x).length ≤ acc.length + 1 := by
  unfold pushS
  split
  · split <;> simp
  · simp

theorem c86 (s x : Int × Int) : (orcω E X0).call 86 [encSp s, encSp x] = some (.bool (s.2 == x.1)) := by
  refine call_of rfl fn86 rfl ?_
  simp (maxSteps := 1000000) (implicitDefEqProofs := false) only [Try.ntmps86, Try.results86, efc86, encSp, ss, sd, zH, qG, zF, zG, St.get, qE, qF, qB, zC, norm, look, zE, qA, qI, St.alloc, St.drop, zA, part, zB, depth, qD, ↓reduceIte, Nat.reduceBEq, Nat.reduceAdd, Nat.reduceSub, Nat.reduceMul, Nat.reduceEqDiff, Nat.reduceLeDiff, Nat.reduceLT, qJ, qK, qL, qM, qN, qO, qP, qQ, qR, zI, qS, qC, qT, evSlice0, qV, qW, qX, qY, qZ, zJ, zK, zL, wit, Option.isSome_some, qH, xJ, evPre, St.with, zD, Array.size, evLitX, evAppX, evCold, nameT, te, einl, inls, efr]

theorem c87 (s x : Int × Int) : (orcω E X0).call 87 [encSp s, encSp x] = some (encSp (s.1, x.2)) := by
  refine call_of rfl fn87 rfl ?_
  simp (maxSteps := 1000000) (implicitDefEqProofs := false) only [Try.ntmps87, Try.results87, efc87, encSp, ss, sd, zH, qG, zF, zG, St.get, qE, qF, qB, zC, norm, look, zE, qA, qI, St.alloc, St.drop, zA, part, zB, depth, qD, ↓reduceIte, Nat.reduceBEq, Nat.reduceAdd, Nat.reduceSub, Nat.reduceMul, Nat.reduceEqDiff, Nat.reduceLeDiff, Nat.reduceLT, qJ, qK, qL, qM, qN, qO, qP, qQ, qR, zI, qS, qC, qT, evSlice0, qV, qW, qX, qY, qZ, zJ, zK, zL, wit, Option.isSome_some, qH, xJ, evPre, St.with, zD, Array.size, evLitX, evAppX, evCold, nameT, te, einl, inls, efr]

theorem foldl_snoc {α β : Type} (f : β → α → β) (b : β) (l : List α) (x : α) : (l ++ [x]).foldl f b = f (l.foldl f b) x := by simp

theorem foldl_pushS_len (l : List (Int × Int)) : (l.foldl pushS []).length ≤ l.length := by
  have : ∀ (l acc : List (Int × Int)), (l.foldl pushS acc).length ≤ acc.length + l.length := by
    intro l
    induction l with
    | nil => intro acc; simp
    | cons x l ih =>
      intro acc
      have h1 := ih (pushS acc x)
      have h2 := pushS_len acc x
      simp only [List.foldl_cons, List.length_cons]; omega
  simpa using this l []

theorem okT85 : okCode (Try.f85.body.getD .skip) = true := by decide +kernel

theorem c85 (xs : List (Int × Int)) (hn : xs.length ≤ 1000000) : (orcω E X0).call 85 [.sl false (xs.map encSp), .clo 86 [] [], .clo 87 [] []] = some (.sl true ((xs.foldl pushS []).map encSp)) := by
  refine call_of rfl fn85 rfl ?_
  have hok := okT85
  simp only [Try.f85, Option.getD_some, okCode, Bool.and_eq_true, Bool.and_true, Bool.true_and] at hok
  simp (maxSteps := 1000000) (implicitDefEqProofs := false) only [Try.ntmps85, Try.results85, efc85, fc85, ss, sd, zH, qG, zF, zG, St.get, qE, qF, qB, zC, norm, look, zE, qA, qI, St.alloc, St.drop, zA, part, zB, depth, qD, ↓reduceIte, Nat.reduceBEq, Nat.reduceAdd, Nat.reduceSub, Nat.reduceMul, Nat.reduceEqDiff, Nat.reduceLeDiff, Nat.reduceLT, qJ, qK, qL, qM, qN, qO, qP, qQ, qR, zI, qS, qC, qT, evSlice0, qV, qW, qX, qY, qZ, zJ, zK, zL, wit, Option.isSome_some, qH, xJ, evPre, St.with, zD, Array.size, evLitX, evAppX, evCold, nameT, te, einl, inls, efr]
  generalize hr : loopAt _ _ _ _ _ _ = r; revert r
  refine loop_list xs (fun pre _ => [(7, .own 7 0 (pre.foldl pushS []).length), (13, .int .i64 pre.length)]) (fun pre _ => [(7, { es := 2, flat := true, t := true, app := true, elems := (pre.foldl pushS []).map encSp })]) (fun _ (_ : Unit) => True) () (by omega)
    (by simp (maxSteps := 1000000) (implicitDefEqProofs := false) only [List.foldl_nil, ss, sd, zH, qG, zF, zG, St.get, qE, qF, qB, zC, norm, look, zE, qA, qI, St.alloc, St.drop, zA, part, zB, depth, qD, ↓reduceIte, Nat.reduceBEq, Nat.reduceAdd, Nat.reduceSub, Nat.reduceMul, Nat.reduceEqDiff, Nat.reduceLeDiff, Nat.reduceLT, qJ, qK, qL, qM, qN, qO, qP, qQ, qR, zI, qS, qC, qT, evSlice0, qV, qW, qX, qY, qZ, zJ, zK, zL, wit, Option.isSome_some, qH, xJ, evPre, St.with, zD, Array.size, evLitX, evAppX, evCold, nameT, te, einl, inls, efr]) trivial (fun _ _ => ?_) (fun pre x post _ hp _ g1 g2 g3 g4 => ?_)
  · simp (maxSteps := 1000000) (implicitDefEqProofs := false) only [Int.lt_irrefl, Try.ntmps85, Try.results85, efc85, fc85, ss, sd, zH, qG, zF, zG, St.get, qE, qF, qB, zC, norm, look, zE, qA, qI, St.alloc, St.drop, zA, part, zB, depth, qD, ↓reduceIte, Nat.reduceBEq, Nat.reduceAdd, Nat.reduceSub, Nat.reduceMul, Nat.reduceEqDiff, Nat.reduceLeDiff, Nat.reduceLT, qJ, qK, qL, qM, qN, qO, qP, qQ, qR, zI, qS, qC, qT, evSlice0, qV, qW, qX, qY, qZ, zJ, zK, zL, wit, Option.isSome_some, qH, xJ, evPre, St.with, zD, Array.size, evLitX, evAppX, evCold, nameT, te, einl, inls, efr]
  · have e1 := foldl_snoc pushS [] pre x
    have e2 := foldl_pushS_len pre
    rw [e1]
    generalize pre.foldl pushS [] = acc at *
    have hroom : roomy (acc.length + 1) 16 = true := by simp [roomy]; omega
    have hroom1 : roomy 1 16 = true := by simp [roomy]
    have hbig : acc.length + 1 ≤ 4294967296 := by omega
    rcases snoc_cases acc with rfl | ⟨l, s, rfl⟩
    · rw [pushS_nil]
      simp (maxSteps := 1000000) (implicitDefEqProofs := false) only [g1, g2, g3, Int.natCast_nonneg, Int.toNat_natCast, List.getElem?_map, encSp, hroom1, hok, evRegion_st, Int.lt_irrefl, g4, ss, sd, zH, qG, zF, zG, St.get, qE, qF, qB, zC, norm, look, zE, qA, qI, St.alloc, St.drop, zA, part, zB, depth, qD, ↓reduceIte, Nat.reduceBEq, Nat.reduceAdd, Nat.reduceSub, Nat.reduceMul, Nat.reduceEqDiff, Nat.reduceLeDiff, Nat.reduceLT, qJ, qK, qL, qM, qN, qO, qP, qQ, qR, zI, qS, qC, qT, evSlice0, qV, qW, qX, qY, qZ, zJ, zK, zL, wit, Option.isSome_some, qH, xJ, evPre, St.with, zD, Array.size, evLitX, evAppX, evCold, nameT, te, einl, inls, efr]
      (first | exact ⟨(), trivial⟩ | refine ⟨(), ?_, trivial⟩ | skip)
    · have a1 : (0 : Int) < (l ++ [s]).length := by simp <;> omega
      have a2 : IntKind.i64.wrap (((l ++ [s]).length : Int) - 1) = (l.length : Int) := by rw [wrap_in (by simp at hbig ⊢; omega)]; simp
      have a3 : (l.length : Int) < (l ++ [s]).length := by simp <;> omega
      have a4 : (l ++ [s])[l.length]? = some s := by simp
      have k2 := c87 s x
      simp only [encSp] at k2
      by_cases hs : s.2 = x.1
      · rw [pushS_same _ _ _ hs]
        have k1 : (orcω E X0).call 86 [encSp s, encSp x] = some (.bool true) := by rw [c86, hs, beq_self_eq_true]
        simp only [encSp] at k1
        simp (maxSteps := 1000000) (implicitDefEqProofs := false) only [g1, g2, g3, Int.natCast_nonneg, Int.toNat_natCast, List.getElem?_map, encSp, hroom, hbig, hok, evRegion_st, a1, a2, a3, a4, k1, k2, ss, sd, zH, qG, zF, zG, St.get, qE, qF, qB, zC, norm, look, zE, qA, qI, St.alloc, St.drop, zA, part, zB, depth, qD, ↓reduceIte, Nat.reduceBEq, Nat.reduceAdd, Nat.reduceSub, Nat.reduceMul, Nat.reduceEqDiff, Nat.reduceLeDiff, Nat.reduceLT, qJ, qK, qL, qM, qN, qO, qP, qQ, qR, zI, qS, qC, qT, evSlice0, qV, qW, qX, qY, qZ, zJ, zK, zL, wit, Option.isSome_some, qH, xJ, evPre, St.with, zD, Array.size, evLitX, evAppX, evCold, nameT, te, einl, inls, efr]
        (first | exact ⟨(), trivial⟩ | refine ⟨(), ?_, trivial⟩ | skip)
        rw [g4]
        simp [encSp, List.set_append]
      · rw [pushS_other _ _ _ hs]
        have k1 : (orcω E X0).call 86 [encSp s, encSp x] = some (.bool false) := by rw [c86, beq_eq_false_iff_ne.2 hs]
        simp only [encSp] at k1
        simp (maxSteps := 1000000) (implicitDefEqProofs := false) only [g1, g2, g3, Int.natCast_nonneg, Int.toNat_natCast, List.getElem?_map, encSp, hroom, hbig, hok, evRegion_st, a1, a2, a3, a4, k1, k2, ss, sd, zH, qG, zF, zG, St.get, qE, qF, qB, zC, norm, look, zE, qA, qI, St.alloc, St.drop, zA, part, zB, depth, qD, ↓reduceIte, Nat.reduceBEq, Nat.reduceAdd, Nat.reduceSub, Nat.reduceMul, Nat.reduceEqDiff, Nat.reduceLeDiff, Nat.reduceLT, qJ, qK, qL, qM, qN, qO, qP, qQ, qR, zI, qS, qC, qT, evSlice0, qV, qW, qX, qY, qZ, zJ, zK, zL, wit, Option.isSome_some, qH, xJ, evPre, St.with, zD, Array.size, evLitX, evAppX, evCold, nameT, te, einl, inls, efr]
        (first | exact ⟨(), trivial⟩ | refine ⟨(), ?_, trivial⟩ | skip)
        rw [g4]
        simp [encSp]

def spL (q : Qu) : Int → List Run → List (Int × Int)
  | _, [] => []
  | a, r :: rs => (if holds q r.mk' = true then [(a, a + r.len)] else []) ++ spL q (a + r.len) rs

theorem spL_snoc (q : Qu) (r : Run) : ∀ (pre : List Run) (a : Int), spL q a (pre ++ [r]) = spL q a pre ++ (if holds q r.mk' = true then [(a + total pre, a + total pre + r.len)] else [])
  | [], a => by simp [spL, total]
  | x :: pre, a => by
    simp only [List.cons_append, spL, spL_snoc q r pre, total_cons, List.append_assoc, Int.add_assoc]

theorem spL_len (q : Qu) : ∀ (rs : List Run) (a : Int), (spL q a rs).length ≤ rs.length
  | [], a => Nat.le_refl _
  | x :: rs, a => by
    have := spL_len q rs (a + x.len)
    simp only [spL, List.length_append, List.length_cons]
    split <;> simp <;> omega

def whereM (rs : List Run) (q : Qu) : List (Int × Int) × Int := if validate rs = 0 then ((spL q 0 rs).foldl pushS [], 0) else ([], validate rs)
def encWh (x : List (Int × Int) × Int) : V := .tup [.sl true (x.1.map encSp), .int .i64 x.2]

def whOb (q : Qu) (out : List (Int × Int)) : List (Nat × Ob) := match out with
  | [] => [(3, { es := 4, flat := true, t := true, app := false, elems := [encQ q] }), (7, { es := 1, flat := true, t := true, app := false, elems := [.emp] })]
  | _ => [(3, { es := 4, flat := true, t := true, app := false, elems := [encQ q] }), (7, { es := 1, flat := false, t := true, app := false, elems := [.own 31 0 out.length] }), (31, { es := 2, flat := true, t := true, app := true, elems := out.map encSp })]

theorem whOb_ne {q : Qu} {out : List (Int × Int)} (h : out ≠ []) : whOb q out = [(3, { es := 4, flat := true, t := true, app := false, elems := [encQ q] }), (7, { es := 1, flat := false, t := true, app := false, elems := [.own 31 0 out.length] }), (31, { es := 2, flat := true, t := true, app := true, elems := out.map encSp })] := by
  cases out with
  | nil => exact absurd rfl h
  | cons _ _ => rfl

theorem c70 (rs : List Run) (q : Qu) (hn : rs.length ≤ 100000) : (orcω E X0).call 70 [.sl false (rs.map encRun), encQ q] = some (encWh (whereM rs q)) := by
  refine call_of rfl fn70 rfl ?_
  have h1 := c60 false rs (by omega)
  by_cases hv : validate rs = 0
  · have ho := (valid_okay hv).1
    rw [hv] at h1
    have h3 := c77 rs
    have h4 := eseq_each false false rs (by omega)
    simp (maxSteps := 1000000) (implicitDefEqProofs := false) only [Try.ntmps70, Try.results70, efc70, h1, h3, h4, encQ, bne_self_eq_false, ss, sd, zH, qG, zF, zG, St.get, qE, qF, qB, zC, norm, look, zE, qA, qI, St.alloc, St.drop, zA, part, zB, depth, qD, ↓reduceIte, Nat.reduceBEq, Nat.reduceAdd, Nat.reduceSub, Nat.reduceMul, Nat.reduceEqDiff, Nat.reduceLeDiff, Nat.reduceLT, qJ, qK, qL, qM, qN, qO, qP, qQ, qR, zI, qS, qC, qT, evSlice0, qV, qW, qX, qY, qZ, zJ, zK, zL, wit, Option.isSome_some, qH, xJ, evPre, St.with, zD, Array.size, evLitX, evAppX, evCold, nameT, te, einl, inls, efr]
    simp only [whereM, if_pos hv]
    generalize hr : popped (roundsIn _ _ _ _ _ _) = r; revert r
    refine rounds_runs rs (fun pre _ => whOb q (spL q 0 pre)) (fun _ (_ : Unit) => True) () (by simp (maxSteps := 1000000) (implicitDefEqProofs := false) only [spL, whOb, encQ, ss, sd, zH, qG, zF, zG, St.get, qE, qF, qB, zC, norm, look, zE, qA, qI, St.alloc, St.drop, zA, part, zB, depth, qD, ↓reduceIte, Nat.reduceBEq, Nat.reduceAdd, Nat.reduceSub, Nat.reduceMul, Nat.reduceEqDiff, Nat.reduceLeDiff, Nat.reduceLT, qJ, qK, qL, qM, qN, qO, qP, qQ, qR, zI, qS, qC, qT, evSlice0, qV, qW, qX, qY, qZ, zJ, zK, zL, wit, Option.isSome_some, qH, xJ, evPre, St.with, zD, Array.size, evLitX, evAppX, evCold, nameT, te, einl, inls, efr]) trivial (fun _ _ => ?_) (fun pre r post _ hp _ => ?_)
    · have l1 := spL_len q rs 0
      have h5 := c85 (spL q 0 rs) (by omega)
      cases hc : spL q 0 rs with
      | nil =>
        rw [hc] at h5
        simp only [List.map_nil] at h5
        simp (maxSteps := 1000000) (implicitDefEqProofs := false) only [whOb, Try.ntmps70, Try.results70, efc70, encQ, h5, ss, sd, zH, qG, zF, zG, St.get, qE, qF, qB, zC, norm, look, zE, qA, qI, St.alloc, St.drop, zA, part, zB, depth, qD, ↓reduceIte, Nat.reduceBEq, Nat.reduceAdd, Nat.reduceSub, Nat.reduceMul, Nat.reduceEqDiff, Nat.reduceLeDiff, Nat.reduceLT, qJ, qK, qL, qM, qN, qO, qP, qQ, qR, zI, qS, qC, qT, evSlice0, qV, qW, qX, qY, qZ, zJ, zK, zL, wit, Option.isSome_some, qH, xJ, evPre, St.with, zD, Array.size, evLitX, evAppX, evCold, nameT, te, einl, inls, efr]
        try simp [encWh, hc]
      | cons x l =>
        rw [hc] at h5
        simp only [List.map_cons] at h5
        have h6 : ((x :: l).map encSp).take (x :: l).length = (x :: l).map encSp := List.take_of_length_le (by simp)
        simp only [List.map_cons, List.length_cons] at h6
        simp (maxSteps := 1000000) (implicitDefEqProofs := false) only [whOb, Try.ntmps70, Try.results70, efc70, encQ, h5, h6, ss, sd, zH, qG, zF, zG, St.get, qE, qF, qB, zC, norm, look, zE, qA, qI, St.alloc, St.drop, zA, part, zB, depth, qD, ↓reduceIte, Nat.reduceBEq, Nat.reduceAdd, Nat.reduceSub, Nat.reduceMul, Nat.reduceEqDiff, Nat.reduceLeDiff, Nat.reduceLT, qJ, qK, qL, qM, qN, qO, qP, qQ, qR, zI, qS, qC, qT, evSlice0, qV, qW, qX, qY, qZ, zJ, zK, zL, wit, Option.isSome_some, qH, xJ, evPre, St.with, zD, Array.size, evLitX, evAppX, evCold, nameT, te, einl, inls, efr]
        try simp [encWh, hc]
    · have h5 := okay_app (hp ▸ ho)
      have h6 := ln_total h5.1
      have h7 := okay_nonneg h5.1
      have h8 := okay_nonneg h5.2
      have h9 := okay_lens ho r (by rw [hp]; simp)
      have h10 := ho.2
      rw [hp, total_app] at h10
      have e2 := spL_snoc q r pre 0
      simp only [Int.zero_add] at e2
      have l1 := spL_len q pre 0
      have l2 : pre.length ≤ rs.length := by rw [hp]; simp
      have k1 := c84 q r.mk'
      simp only [encQ, encMk, Run.mk'] at k1
      rw [e2]
      generalize spL q 0 pre = out at *
      have hroom1 : roomy 1 16 = true := by simp [roomy]
      have hroom : roomy (out.length + 1) 16 = true := by simp [roomy]; omega
      have hbig : out.length + 1 ≤ 4294967296 := by omega
      cases hb : holds q r.mk' with
      | false =>
        simp only [Run.mk'] at hb
        rw [hb] at k1
        rcases snoc_cases out with rfl | ⟨l', x', rfl⟩
        · simp only [whOb]
          simp (maxSteps := 1000000) (implicitDefEqProofs := false) (disch := omega) only [h6, encQ, encRun, k1, wrap_in, ss, List.replicate, zH, qG, zF, zG, St.eval, St.put, St.get, constV, List.set, lenV, qE, qF, qB, zC, norm, xQ, look, xP, xX, zO, zM, zE, zN, qA, qI, St.alloc, St.drop, killL, kill, xU, xV, zA, upd, cells?, part, retag, xT, putIn, refFree, xR, isNew, xS, Ty.isAgg, zB, idsL, ids, idsLL, reach, depth, St.dropL, qD, resultV, ↓reduceIte, Nat.reduceBEq, Nat.reduceAdd, Nat.reduceSub, Nat.reduceMul, Nat.reduceEqDiff, Nat.reduceLeDiff, Nat.reduceLT, qJ, qK, zV, zW, qL, qM, qN, qO, Eff.ap, qP, qQ, xW, qR, zI, onto, dropO, xA, sized, zP, eqT, eqG, minV, evUn, qS, zQ, zR, zS, qC, qT, upO, evSlice0, optInt, xC, qV, xD, del, xB, plain, plainL, zY, zZ, zT, qW, zU, zX, xY, qX, qY, qZ, xE, zJ, zK, zL, xF, xG, wit, xH, Option.isSome_some, xI, qH, xJ, evPre, St.with, xK, xL, zD, xM, xN, xO, Array.size, evLitX, evAppX, evCold, nameT, te, einl, inls, efr]
          (first | exact ⟨(), trivial⟩ | refine ⟨(), ?_, trivial⟩ | skip)
          try simp [encQ, whOb]
        · rw [whOb_ne (by simp)]
          simp (maxSteps := 1000000) (implicitDefEqProofs := false) (disch := omega) only [h6, encQ, encRun, k1, wrap_in, ss, List.replicate, zH, qG, zF, zG, St.eval, St.put, St.get, constV, List.set, lenV, qE, qF, qB, zC, norm, xQ, look, xP, xX, zO, zM, zE, zN, qA, qI, St.alloc, St.drop, killL, kill, xU, xV, zA, upd, cells?, part, retag, xT, putIn, refFree, xR, isNew, xS, Ty.isAgg, zB, idsL, ids, idsLL, reach, depth, St.dropL, qD, resultV, ↓reduceIte, Nat.reduceBEq, Nat.reduceAdd, Nat.reduceSub, Nat.reduceMul, Nat.reduceEqDiff, Nat.reduceLeDiff, Nat.reduceLT, qJ, qK, zV, zW, qL, qM, qN, qO, Eff.ap, qP, qQ, xW, qR, zI, onto, dropO, xA, sized, zP, eqT, eqG, minV, evUn, qS, zQ, zR, zS, qC, qT, upO, evSlice0, optInt, xC, qV, xD, del, xB, plain, plainL, zY, zZ, zT, qW, zU, zX, xY, qX, qY, qZ, xE, zJ, zK, zL, xF, xG, wit, xH, Option.isSome_some, xI, qH, xJ, evPre, St.with, xK, xL, zD, xM, xN, xO, Array.size, evLitX, evAppX, evCold, nameT, te, einl, inls, efr]
          (first | exact ⟨(), trivial⟩ | refine ⟨(), ?_, trivial⟩ | skip)
          try simp
          try (rw [whOb_ne (by simp)]; simp [encQ])
      | true =>
        simp only [Run.mk'] at hb
        rw [hb] at k1
        rcases snoc_cases out with rfl | ⟨l', x', rfl⟩
        · simp only [whOb]
          simp (maxSteps := 1000000) (implicitDefEqProofs := false) (disch := omega) only [h6, encQ, encRun, k1, hroom1, wrap_in, ss, List.replicate, zH, qG, zF, zG, St.eval, St.put, St.get, constV, List.set, lenV, qE, qF, qB, zC, norm, xQ, look, xP, xX, zO, zM, zE, zN, qA, qI, St.alloc, St.drop, killL, kill, xU, xV, zA, upd, cells?, part, retag, xT, putIn, refFree, xR, isNew, xS, Ty.isAgg, zB, idsL, ids, idsLL, reach, depth, St.dropL, qD, resultV, ↓reduceIte, Nat.reduceBEq, Nat.reduceAdd, Nat.reduceSub, Nat.reduceMul, Nat.reduceEqDiff, Nat.reduceLeDiff, Nat.reduceLT, qJ, qK, zV, zW, qL, qM, qN, qO, Eff.ap, qP, qQ, xW, qR, zI, onto, dropO, xA, sized, zP, eqT, eqG, minV, evUn, qS, zQ, zR, zS, qC, qT, upO, evSlice0, optInt, xC, qV, xD, del, xB, plain, plainL, zY, zZ, zT, qW, zU, zX, xY, qX, qY, qZ, xE, zJ, zK, zL, xF, xG, wit, xH, Option.isSome_some, xI, qH, xJ, evPre, St.with, xK, xL, zD, xM, xN, xO, Array.size, evLitX, evAppX, evCold, nameT, te, einl, inls, efr]
          (first | exact ⟨(), trivial⟩ | refine ⟨(), ?_, trivial⟩ | skip)
          try simp [encQ, whOb, encSp]
        · rw [whOb_ne (by simp)]
          simp (maxSteps := 1000000) (implicitDefEqProofs := false) (disch := omega) only [h6, encQ, encRun, k1, hroom, hbig, wrap_in, ss, List.replicate, zH, qG, zF, zG, St.eval, St.put, St.get, constV, List.set, lenV, qE, qF, qB, zC, norm, xQ, look, xP, xX, zO, zM, zE, zN, qA, qI, St.alloc, St.drop, killL, kill, xU, xV, zA, upd, cells?, part, retag, xT, putIn, refFree, xR, isNew, xS, Ty.isAgg, zB, idsL, ids, idsLL, reach, depth, St.dropL, qD, resultV, ↓reduceIte, Nat.reduceBEq, Nat.reduceAdd, Nat.reduceSub, Nat.reduceMul, Nat.reduceEqDiff, Nat.reduceLeDiff, Nat.reduceLT, qJ, qK, zV, zW, qL, qM, qN, qO, Eff.ap, qP, qQ, xW, qR, zI, onto, dropO, xA, sized, zP, eqT, eqG, minV, evUn, qS, zQ, zR, zS, qC, qT, upO, evSlice0, optInt, xC, qV, xD, del, xB, plain, plainL, zY, zZ, zT, qW, zU, zX, xY, qX, qY, qZ, xE, zJ, zK, zL, xF, xG, wit, xH, Option.isSome_some, xI, qH, xJ, evPre, St.with, xK, xL, zD, xM, xN, xO, Array.size, evLitX, evAppX, evCold, nameT, te, einl, inls, efr]
          (first | exact ⟨(), trivial⟩ | refine ⟨(), ?_, trivial⟩ | skip)
          try simp [encSp]
          try (rw [whOb_ne (by simp)]; simp [encQ, encSp])
  · have hv' : (validate rs != 0) = true := by simp [hv]
    simp (maxSteps := 1000000) (implicitDefEqProofs := false) only [Try.ntmps70, Try.results70, efc70, h1, hv', encQ, ss, sd, zH, qG, zF, zG, St.get, qE, qF, qB, zC, norm, look, zE, qA, qI, St.alloc, St.drop, zA, part, zB, depth, qD, ↓reduceIte, Nat.reduceBEq, Nat.reduceAdd, Nat.reduceSub, Nat.reduceMul, Nat.reduceEqDiff, Nat.reduceLeDiff, Nat.reduceLT, qJ, qK, qL, qM, qN, qO, qP, qQ, qR, zI, qS, qC, qT, evSlice0, qV, qW, qX, qY, qZ, zJ, zK, zL, wit, Option.isSome_some, qH, xJ, evPre, St.with, zD, Array.size, evLitX, evAppX, evCold, nameT, te, einl, inls, efr]
    simp [encWh, whereM, hv]

end Go.AM.C
end

section
namespace Go.AM.C
open Go Go.Proofs

structure Walk (js ks : List Run) where
  pre : List Run
  post : List Run
  qre : List Run
  qost : List Run
  hj : js = pre ++ post
  hk : ks = qre ++ qost
  hl : pre.length = qre.length
  hc : (cpl (expand js) (expand ks) : Int) = total pre + cpl (expand post) (expand qost)
  hn : Normal post
  hm : Normal qost

theorem joined_normal {rs : List Run} (h : Okay rs) : Normal (joinedL rs) ∧ expand (joinedL rs) = expand rs ∧ Okay (joinedL rs) ∧ (joinedL rs).length ≤ rs.length ∧ total (joinedL rs) = total rs := by
  have h1 := expand_len h
  have h2 := h.2
  have h3 := joined_rle h.1 (by omega)
  obtain ⟨h4, h5, h6⟩ := rle_ok (expand rs) (by omega)
  rw [← h3] at h4 h5 h6
  exact ⟨h6, h5, (joined_okay h).1, joined_le rs, (joined_okay h).2⟩

end Go.AM.C
end

section
/-
What a slice and a change are, place by place; when a list of runs is valid.
-/
namespace Go.AM.C
open Go Go.Proofs

theorem expand_one (r : Run) (n : Int) : expand [{ r with len := n }] = List.replicate n.toNat r.mk' := by
  simp [expand, Run.mk']

theorem expand_piece (a lo hi : Int) (r : Run) : expand (piece a lo hi r) = List.replicate (min hi (a + r.len) - max lo a).toNat r.mk' := by
  unfold piece
  split
  · exact expand_one r _
  · rw [show (min hi (a + r.len) - max lo a).toNat = 0 by omega]; rfl

theorem expand_cut {lo hi : Int} : ∀ (rs : List Run) (a : Int), (∀ r ∈ rs, 1 ≤ r.len) → expand (cutL lo hi a rs) = ((expand rs).take (hi - a).toNat).drop (lo - a).toNat
  | [], a, _ => by simp [cutL, expand]
  | r :: rs, a, h => by
    have h1 := h r List.mem_cons_self
    have ih := expand_cut (lo := lo) (hi := hi) rs (a + r.len) fun x hx => h x (List.mem_cons_of_mem _ hx)
    rw [cutL, expand_app, expand_piece, ih, expand_cons, List.take_append, List.drop_append, List.take_replicate, List.drop_replicate, List.length_replicate, List.length_replicate]
    rw [show min (hi - a).toNat r.len.toNat - (lo - a).toNat = (min hi (a + r.len) - max lo a).toNat by omega, show (hi - a).toNat - r.len.toNat = (hi - (a + r.len)).toNat by omega]
    congr 1
    by_cases hh : hi ≤ a + r.len
    · rw [show (hi - (a + r.len)).toNat = 0 by omega]; simp
    · rw [show (lo - a).toNat - min (hi - a).toNat r.len.toNat = (lo - (a + r.len)).toNat by omega]

theorem total_piece {a lo hi : Int} {r : Run} (h : 1 ≤ r.len) : total (piece a lo hi r) ≤ r.len := by
  unfold piece
  split
  · rw [total_cons, total_nil]; dsimp only; omega
  · rw [total_nil]; omega

theorem total_cut {lo hi : Int} : ∀ (rs : List Run) (a : Int), (∀ r ∈ rs, 1 ≤ r.len) → total (cutL lo hi a rs) ≤ total rs
  | [], a, _ => Int.le_refl _
  | r :: rs, a, h => by
    have h1 := total_piece (a := a) (lo := lo) (hi := hi) (h r List.mem_cons_self)
    have ih := total_cut (lo := lo) (hi := hi) rs (a + r.len) fun x hx => h x (List.mem_cons_of_mem _ hx)
    rw [cutL, total_app, total_cons]; omega

theorem cut_okay {lo hi : Int} {rs : List Run} (a : Int) (h : Okay rs) : Okay (cutL lo hi a rs) :=
  ⟨lens_cut rs a, Int.le_trans (total_cut rs a h.1) h.2⟩

theorem finished_ok {js : List Run} (h1 : js.length ≤ 40) (h2 : Okay js) (h3 : total js ≤ 1000000) : finished js = (js, 0) := by
  unfold finished
  rw [ln_total h2, if_neg (by omega)]

theorem slice_rle {rs : List Run} {lo hi : Int} (hv : validate rs = 0) (hs : spanM rs lo hi = true) : sliceM rs lo hi = (rle (((expand rs).take hi.toNat).drop lo.toNat), 0) := by
  obtain ⟨v1, v2, v3⟩ := valid_okay hv
  have c1 := cut_okay (lo := lo) (hi := hi) 0 v1
  have c2 := total_cut (lo := lo) (hi := hi) rs 0 v1.1
  obtain ⟨n1, n2, n3, n4, n5⟩ := joined_normal c1
  have c3 := cutL_len lo hi rs 0
  unfold sliceM
  rw [if_pos hv, if_pos hs, finished_ok (by omega) n3 (by omega), joined_rle c1.1 (by have := c1.2; omega), expand_cut rs 0 v1.1]
  simp

theorem slice_len {rs : List Run} {lo hi : Int} (hv : validate rs = 0) (hs : spanM rs lo hi = true) : (rle (((expand rs).take hi.toNat).drop lo.toNat)).length ≤ 40 := by
  have h1 := sliceM_le rs lo hi
  rw [slice_rle hv hs] at h1
  have := (valid_okay hv).2.1
  dsimp only at h1
  omega

theorem span_of {rs : List Run} (hv : validate rs = 0) {lo hi : Int} : spanM rs lo hi = true ↔ 0 ≤ lo ∧ lo ≤ hi ∧ hi ≤ (expand rs).length := by
  have h1 := (valid_okay hv).1
  simp only [spanM, Bool.and_eq_true, decide_eq_true_eq, ln_total h1, ← expand_len h1]
  omega

end Go.AM.C
end

section
/-
Which stretches lie in one span of those that meet a query.
-/
namespace Go.AM.C
open Go Go.Proofs

def covers (l : List (Int × Int)) (i : Int) : Prop := ∃ s ∈ l, s.1 ≤ i ∧ i < s.2

def Sep : List (Int × Int) → Prop
  | s :: t :: l => s.1 < s.2 ∧ s.2 < t.1 ∧ Sep (t :: l)
  | [s] => s.1 < s.2
  | [] => True

theorem sep_snoc : ∀ (l : List (Int × Int)) (s x : Int × Int), Sep (l ++ [s]) → s.2 < x.1 → x.1 < x.2 → Sep (l ++ [s, x])
  | [], s, x, h, h1, h2 => ⟨h, h1, h2⟩
  | [y], s, x, h, h1, h2 => ⟨h.1, h.2.1, h.2.2, h1, h2⟩
  | y :: z :: l, s, x, h, h1, h2 => ⟨h.1, h.2.1, sep_snoc (z :: l) s x h.2.2 h1 h2⟩

theorem sep_last : ∀ (l : List (Int × Int)) (s : Int × Int) (e : Int), Sep (l ++ [s]) → s.2 < e → Sep (l ++ [(s.1, e)])
  | [], s, e, h, h1 => by have : s.1 < s.2 := h; exact Int.lt_trans this h1
  | [y], s, e, h, h1 => ⟨h.1, h.2.1, by have : s.1 < s.2 := h.2.2; exact Int.lt_trans this h1⟩
  | y :: z :: l, s, e, h, h1 => ⟨h.1, h.2.1, sep_last (z :: l) s e h.2.2 h1⟩

theorem sep_tail {s : Int × Int} {l : List (Int × Int)} (h : Sep (s :: l)) : Sep l := by
  cases l with
  | nil => trivial
  | cons t l => exact h.2.2

theorem sep_end : ∀ (l : List (Int × Int)) (s : Int × Int), Sep (l ++ [s]) → s.1 < s.2
  | [], s, h => h
  | [y], s, h => h.2.2
  | y :: z :: l, s, h => sep_end (z :: l) s h.2.2

theorem sep_after : ∀ {l : List (Int × Int)} {s : Int × Int}, Sep (s :: l) → ∀ t ∈ l, s.2 < t.1
  | [], s, h, t, ht => by cases ht
  | x :: l, s, h, t, ht => by
    rcases List.mem_cons.1 ht with rfl | ht
    · exact h.2.1
    · have := sep_after h.2.2 t ht
      have h3 : x.1 < x.2 := by
        cases l with
        | nil => exact h.2.2
        | cons y l => exact h.2.2.1
      have := h.2.1
      omega

theorem sep_one : ∀ {l : List (Int × Int)} {a b : Int}, Sep l → a < b → (∀ i, a ≤ i → i < b → covers l i) → ∃ s ∈ l, s.1 ≤ a ∧ b ≤ s.2
  | [], a, b, _, h, hc => by obtain ⟨s, hs, _⟩ := hc a (Int.le_refl _) h; cases hs
  | s :: l, a, b, hs, h, hc => by
    by_cases h1 : s.1 ≤ a ∧ a < s.2
    · refine ⟨s, List.mem_cons_self, h1.1, ?_⟩
      apply Classical.byContradiction
      intro hb
      obtain ⟨t, ht, h2, h3⟩ := hc s.2 (by omega) (by omega)
      rcases List.mem_cons.1 ht with rfl | ht
      · omega
      · have := sep_after hs t ht; omega
    · have hl : ∀ i, a ≤ i → i < b → covers l i := by
        have h0 : s.2 ≤ a := by
          obtain ⟨t, ht, h2, h3⟩ := hc a (Int.le_refl _) h
          rcases List.mem_cons.1 ht with rfl | ht
          · exact absurd ⟨h2, h3⟩ h1
          · have := sep_after hs t ht; omega
        intro i hi hib
        obtain ⟨t, ht, h2, h3⟩ := hc i hi hib
        rcases List.mem_cons.1 ht with rfl | ht
        · omega
        · exact ⟨t, ht, h2, h3⟩
      obtain ⟨t, ht, h2⟩ := sep_one (sep_tail hs) h hl
      exact ⟨t, List.mem_cons_of_mem _ ht, h2⟩

theorem covers_app {l l' : List (Int × Int)} {i : Int} : covers (l ++ l') i ↔ covers l i ∨ covers l' i := by
  unfold covers
  constructor
  · rintro ⟨s, hs, h⟩
    rcases List.mem_append.1 hs with hs | hs
    · exact .inl ⟨s, hs, h⟩
    · exact .inr ⟨s, hs, h⟩
  · rintro (⟨s, hs, h⟩ | ⟨s, hs, h⟩)
    · exact ⟨s, List.mem_append_left _ hs, h⟩
    · exact ⟨s, List.mem_append_right _ hs, h⟩

theorem covers_one {s : Int × Int} {i : Int} : covers [s] i ↔ s.1 ≤ i ∧ i < s.2 := by simp [covers]

def Spans (q : Qu) (rs : List Run) (l : List (Int × Int)) : Prop :=
  Sep l ∧ (∀ s ∈ l, 0 ≤ s.1 ∧ s.2 ≤ total rs) ∧ ∀ i : Int, covers l i ↔ (0 ≤ i ∧ ∃ m, (expand rs)[i.toNat]? = some m ∧ holds q m = true)

theorem joined_sep (q : Qu) : ∀ (rs : List Run), (∀ r ∈ rs, 1 ≤ r.len) → Spans q rs ((spL q 0 rs).foldl pushS []) := by
  intro rs
  refine snoc_ind (P := fun rs => (∀ r ∈ rs, 1 ≤ r.len) → Spans q rs ((spL q 0 rs).foldl pushS [])) ?_ ?_ rs
  · intro _
    refine ⟨trivial, ?_, ?_⟩
    · intro s hs; cases hs
    · intro i
      constructor
      · rintro ⟨s, hs, _⟩; cases hs
      · rintro ⟨_, m, hm, _⟩; simp [expand] at hm
  · intro pre r ih hall
    have hpre : ∀ x ∈ pre, 1 ≤ x.len := fun x hx => hall x (List.mem_append_left _ hx)
    have hr := hall r (by simp)
    obtain ⟨h1, h2, h3⟩ := ih hpre
    have hlen : ∀ l : List Run, (∀ x ∈ l, 1 ≤ x.len) → ((expand l).length : Int) = total l := by
      intro l
      induction l with
      | nil => intro _; rfl
      | cons x l ih =>
        intro h
        have := ih fun r hr => h r (List.mem_cons_of_mem _ hr)
        have := h x List.mem_cons_self
        rw [expand_cons, List.length_append, List.length_replicate, total_cons]; omega
    have hl := hlen pre hpre
    have ht : total (pre ++ [r]) = total pre + r.len := by rw [total_app, total_cons, total_nil]; omega
    have hget : ∀ i : Int, 0 ≤ i → ((∃ m, (expand (pre ++ [r]))[i.toNat]? = some m ∧ holds q m = true) ↔ ((∃ m, (expand pre)[i.toNat]? = some m ∧ holds q m = true) ∨ (total pre ≤ i ∧ i < total pre + r.len ∧ holds q r.mk' = true))) := by
      intro i hi
      rw [expand_app, expand_cons, expand_nil, List.append_nil]
      by_cases hlt : i < total pre
      · rw [List.getElem?_append_left (by omega)]
        constructor
        · exact .inl
        · rintro (h | h)
          · exact h
          · omega
      · rw [List.getElem?_append_right (by omega), List.getElem?_replicate, List.getElem?_eq_none (by omega)]
        constructor
        · rintro ⟨m, hm, hh⟩
          split at hm
          · cases hm; exact .inr ⟨by omega, by omega, hh⟩
          · cases hm
        · rintro (⟨m, hm, _⟩ | ⟨a, b, c⟩)
          · cases hm
          · exact ⟨r.mk', by rw [if_pos (by omega)], c⟩
    rw [spL_snoc, List.foldl_append]
    by_cases hh : holds q r.mk' = true
    · rw [if_pos hh]
      simp only [Int.zero_add, List.foldl_cons, List.foldl_nil]
      have h2' := h2
      generalize (spL q 0 pre).foldl pushS [] = l at h1 h2 h3 h2' ⊢
      have fin : ∀ l' : List (Int × Int), Sep l' → (∀ s ∈ l', 0 ≤ s.1 ∧ s.2 ≤ total pre + r.len) → (∀ i, covers l' i ↔ covers l i ∨ (total pre ≤ i ∧ i < total pre + r.len)) →
          Spans q (pre ++ [r]) l' := by
        intro l' a b c
        refine ⟨a, by rw [ht]; exact b, fun i => ?_⟩
        rw [c i, h3 i]
        constructor
        · rintro (⟨x, y⟩ | ⟨x, y⟩)
          · exact ⟨x, (hget i x).2 (.inl y)⟩
          · exact ⟨by omega, (hget i (by omega)).2 (.inr ⟨x, y, hh⟩)⟩
        · rintro ⟨x, y⟩
          rcases (hget i x).1 y with y | y
          · exact .inl ⟨x, y⟩
          · exact .inr ⟨y.1, y.2.1⟩
      rcases snoc_cases l with rfl | ⟨l0, s, rfl⟩
      · rw [pushS_nil]
        refine fin _ (show total pre < total pre + r.len by omega) (fun s hs => ?_) (fun i => ?_)
        · simp only [List.mem_singleton] at hs; subst hs; dsimp only; omega
        · rw [covers_one]
          constructor
          · exact .inr
          · rintro (⟨s, hs, _⟩ | h)
            · cases hs
            · exact h
      · have hs := h2' s (by simp)
        have hse := sep_end l0 s h1
        by_cases he : s.2 = total pre
        · rw [pushS_same _ _ _ he]
          refine fin _ (sep_last l0 s _ h1 (by dsimp only; omega)) (fun t ht => ?_) (fun i => ?_)
          · rcases List.mem_append.1 ht with ht | ht
            · have := h2' t (List.mem_append_left _ ht); omega
            · simp only [List.mem_singleton] at ht; subst ht; dsimp only; omega
          · rw [covers_app, covers_app, covers_one, covers_one]
            dsimp only
            constructor
            · rintro (h | ⟨x, y⟩)
              · exact .inl (.inl h)
              · by_cases hi : i < s.2
                · exact .inl (.inr ⟨x, hi⟩)
                · exact .inr ⟨by omega, y⟩
            · rintro ((h | ⟨x, y⟩) | ⟨x, y⟩)
              · exact .inl h
              · exact .inr ⟨x, by omega⟩
              · exact .inr ⟨by omega, y⟩
        · rw [pushS_other _ _ _ he]
          refine fin _ (sep_snoc l0 s _ h1 (by dsimp only; omega) (by dsimp only; omega)) (fun t ht => ?_) (fun i => ?_)
          · rcases List.mem_append.1 ht with ht | ht
            · have := h2' t (List.mem_append_left _ ht); omega
            · simp only [List.mem_cons, List.not_mem_nil, or_false] at ht
              rcases ht with rfl | rfl
              · omega
              · dsimp only; omega
          · rw [show l0 ++ [s, (total pre, total pre + r.len)] = (l0 ++ [s]) ++ [(total pre, total pre + r.len)] by simp, covers_app (l := l0 ++ [s]), covers_one]
    · rw [if_neg hh, List.foldl_nil]
      refine ⟨h1, fun s hs => by have := h2 s hs; omega, fun i => ?_⟩
      rw [h3 i]
      constructor
      · rintro ⟨x, y⟩; exact ⟨x, (hget i x).2 (.inl y)⟩
      · rintro ⟨x, y⟩
        rcases (hget i x).1 y with y | y
        · exact ⟨x, y⟩
        · exact absurd y.2.2 hh

theorem in_span {q : Qu} {rs : List Run} (h : ∀ r ∈ rs, 1 ≤ r.len) {a n : Int} (hn : 1 ≤ n) :
    (∃ s ∈ (spL q 0 rs).foldl pushS [], s.1 ≤ a ∧ a + n ≤ s.2) ↔ (0 ≤ a ∧ ∀ i : Int, a ≤ i → i < a + n → ∃ m, (expand rs)[i.toNat]? = some m ∧ holds q m = true) := by
  obtain ⟨h1, h2, h3⟩ := joined_sep q rs h
  constructor
  · rintro ⟨s, hs, x, y⟩
    have h4 := h2 s hs
    refine ⟨by omega, fun i hi hin => ?_⟩
    exact ((h3 i).1 ⟨s, hs, by omega, by omega⟩).2
  · rintro ⟨h0, h4⟩
    exact sep_one h1 (by omega) fun i hi hin => (h3 i).2 ⟨by omega, h4 i hi hin⟩

end Go.AM.C
end

