/- A part of the proof: the texts BBand, BBandB, BBandC, BBandD, BBandE, BBandF, BBandG, BBandT, BBandI, BBandH, BBandJ, BBandK, BBandM, one after another. No condition. -/
import Derived.Test.YtbfgifolmpmagaaBHang
import Derived.IntWalk
set_option linter.unusedVariables false
set_option linter.unusedSimpArgs false

section
namespace Go.AM.B
open Go Go.Proofs


structure Run where
  len : Int
  thick : Int
  shade : Int
  flaw : Int
  deriving DecidableEq

def I (n : Int) : V := .int .i64 n
theorem c109 (x lo hi : Int) : (orcω E X0).call 109 [.int .i64 x, .int .i64 lo, .int .i64 hi] = some (.bool (inB x lo hi)) := by
  refine call_of rfl fn109 rfl ?_
  by_cases h : lo ≤ x
  · simp only [Try.ntmps109, Try.results109, efc109, h, inB, Option.getD_some, List.replicate, List.cons_append, List.nil_append, den_seq, den_region, den_block, den_cond, den_skip, den_ret, den_exit, evOps, zH, qG, zF, zG, wantedV, St.eval, St.put, St.get, constV, List.set, List.getD_cons_zero, List.getD_cons_succ, Bool.false_eq_true, if_false, List.contains_nil, Bool.false_and, normally_some, andThen_normal, andThen_exit, andThen_ret, atBlock_normal, atBlock_exit, atBlock_ret, lenV, qE, qF, qB, onBool_true, onBool_false, after_normal, after_exit, after_ret, zC, norm, xQ, look, xP, xX, zO, zM, zE, zN, qA, qI, St.alloc, St.drop, killL, kill, xU, xV, zA, upd, cells?, part, retag, xT, putIn, refFree, xR, isNew, xS, Ty.isAgg, zB, idsL, ids, idsLL, reach, depth, St.dropL, outOfCall_some, atEnd_normal, atEnd_ret, qD, resultV, allM_nil, allM_cons, resolve_int, resolve_bool, resolve_lit, resolve_sl, resolve_fp, resolve_emp, resolve_agg, resolve_tup, resolve_clo, resolve_own, Option.map_some, Option.map_none, List.length_cons, List.length_nil, List.length_map, ↓reduceIte, List.contains_cons, Bool.or_false, Bool.false_or, Bool.or_true, Bool.true_or, Nat.reduceBEq, beq_self_eq_true, List.map_cons, List.map_nil, List.filter_cons, List.filter_nil, List.flatMap_cons, List.flatMap_nil, Bool.not_true, Bool.not_false, and_self, and_true, true_and, List.getElem?_cons_zero, List.getElem?_cons_succ, List.getElem?_nil, List.drop_succ_cons, List.drop_zero, List.take_succ_cons, List.take_zero, List.drop_nil, List.take_nil, List.append_nil, Nat.reduceAdd, Nat.reduceSub, Nat.reduceMul, Nat.reduceEqDiff, Nat.reduceLeDiff, Nat.le_refl, Option.getD_none, Bool.and_true, Bool.true_and, Bool.and_false, Bool.and_self, Nat.lt_irrefl, Nat.reduceLT, Nat.zero_add, evRegion_still, evE, qJ, qK, zV, zW, qL, qM, qN, qO, Eff.ap, evCall, qP, evAppend, qQ, xW, qR, zI, onto, dropO, xA, sized, zP, eqT, eqG, minV, evUn, qS, zQ, zR, zS, qC, qT, upO, evSlice0, optInt, xC, qV, xD, del, List.contains_append, Option.bind_none, Option.bind_some, Bool.and_eq_true, decide_true, decide_false, Bool.not_eq_true', List.take_length, List.range_succ, List.range_zero, Option.some.injEq, ne_eq, not_false_eq_true, not_true_eq_false, List.all_cons, List.all_nil, xB, List.getElem?_toArray, beqT, beqF, Bool.cond_true, Bool.cond_false, or_self, true_or, or_true, or_false, false_or, plain, plainL, ask_true, ask_false, pickV_true, pickV_false, resolve_ptr, zY, zZ, zT, qW, zU, zX, xY, qX, qY, qZ, xE, zJ, zK, zL, xF, xG, wit, xH, Option.isSome_some, den_regT, regG_no, regL_no, frameG_no, frameG_yes, xI, qH, regG_yes, freshG_no, freshG_yes, resolve_pre, evApp_emp, evApp_own, evApp_full, evApp_pre, evSlice_emp, evSlice_sl, evSlice_full, evSlice_own, evSlice_pre, preV_no, preV_yes, xJ, evPre, te, einl, inls, efr]
  · simp only [Try.ntmps109, Try.results109, efc109, h, inB, Option.getD_some, List.replicate, List.cons_append, List.nil_append, den_seq, den_region, den_block, den_cond, den_skip, den_ret, den_exit, evOps, zH, qG, zF, zG, wantedV, St.eval, St.put, St.get, constV, List.set, List.getD_cons_zero, List.getD_cons_succ, Bool.false_eq_true, if_false, List.contains_nil, Bool.false_and, normally_some, andThen_normal, andThen_exit, andThen_ret, atBlock_normal, atBlock_exit, atBlock_ret, lenV, qE, qF, qB, onBool_true, onBool_false, after_normal, after_exit, after_ret, zC, norm, xQ, look, xP, xX, zO, zM, zE, zN, qA, qI, St.alloc, St.drop, killL, kill, xU, xV, zA, upd, cells?, part, retag, xT, putIn, refFree, xR, isNew, xS, Ty.isAgg, zB, idsL, ids, idsLL, reach, depth, St.dropL, outOfCall_some, atEnd_normal, atEnd_ret, qD, resultV, allM_nil, allM_cons, resolve_int, resolve_bool, resolve_lit, resolve_sl, resolve_fp, resolve_emp, resolve_agg, resolve_tup, resolve_clo, resolve_own, Option.map_some, Option.map_none, List.length_cons, List.length_nil, List.length_map, ↓reduceIte, List.contains_cons, Bool.or_false, Bool.false_or, Bool.or_true, Bool.true_or, Nat.reduceBEq, beq_self_eq_true, List.map_cons, List.map_nil, List.filter_cons, List.filter_nil, List.flatMap_cons, List.flatMap_nil, Bool.not_true, Bool.not_false, and_self, and_true, true_and, List.getElem?_cons_zero, List.getElem?_cons_succ, List.getElem?_nil, List.drop_succ_cons, List.drop_zero, List.take_succ_cons, List.take_zero, List.drop_nil, List.take_nil, List.append_nil, Nat.reduceAdd, Nat.reduceSub, Nat.reduceMul, Nat.reduceEqDiff, Nat.reduceLeDiff, Nat.le_refl, Option.getD_none, Bool.and_true, Bool.true_and, Bool.and_false, Bool.and_self, Nat.lt_irrefl, Nat.reduceLT, Nat.zero_add, evRegion_still, evE, qJ, qK, zV, zW, qL, qM, qN, qO, Eff.ap, evCall, qP, evAppend, qQ, xW, qR, zI, onto, dropO, xA, sized, zP, eqT, eqG, minV, evUn, qS, zQ, zR, zS, qC, qT, upO, evSlice0, optInt, xC, qV, xD, del, List.contains_append, Option.bind_none, Option.bind_some, Bool.and_eq_true, decide_true, decide_false, Bool.not_eq_true', List.take_length, List.range_succ, List.range_zero, Option.some.injEq, ne_eq, not_false_eq_true, not_true_eq_false, List.all_cons, List.all_nil, xB, List.getElem?_toArray, beqT, beqF, Bool.cond_true, Bool.cond_false, or_self, true_or, or_true, or_false, false_or, plain, plainL, ask_true, ask_false, pickV_true, pickV_false, resolve_ptr, zY, zZ, zT, qW, zU, zX, xY, qX, qY, qZ, xE, zJ, zK, zL, xF, xG, wit, xH, Option.isSome_some, den_regT, regG_no, regL_no, frameG_no, frameG_yes, xI, qH, regG_yes, freshG_no, freshG_yes, resolve_pre, evApp_emp, evApp_own, evApp_full, evApp_pre, evSlice_emp, evSlice_sl, evSlice_full, evSlice_own, evSlice_pre, preV_no, preV_yes, xJ, evPre, te, einl, inls, efr]

def wellB (r : Run) : Bool := inB r.len 1 1000000 && inB r.thick 1 1000 && inB r.shade 0 99 && inB r.flaw 0 15

def ln (rs : List Run) : Int := rs.foldl (fun a r => IntKind.i64.wrap (a + r.len)) 0

def validate (rs : List Run) : Int := if 40 < rs.length then 4 else if rs.all wellB = true then (if 1000000 < ln rs then 4 else 0) else 1

end Go.AM.B
end

section
namespace Go.AM.B
open Go Go.Proofs

def same (r s : Run) : Bool := r.thick == s.thick && (r.shade == s.shade && (r.flaw == s.flaw && true))

def merge (r s : Run) : Run := { r with len := IntKind.i64.wrap (r.len + s.len) }

end Go.AM.B
end

section
namespace Go.AM.B
open Go Go.Proofs

def push (acc : List Run) (r : Run) : List Run := match acc.getLast? with
  | some s => if same s r = true then acc.set (acc.length - 1) (merge s r) else acc ++ [r]
  | none => acc ++ [r]

def joinedL (rs : List Run) : List Run := rs.foldl push []

end Go.AM.B
end

section
namespace Go.AM.B
open Go Go.Proofs

def finished (js : List Run) : List Run × Int := if 40 < js.length ∨ 1000000 < ln js then ([], 4) else (js, 0)

def normal (rs : List Run) : List Run × Int := if validate rs = 0 then finished (joinedL rs) else ([], validate rs)

end Go.AM.B
end

section
namespace Go.AM.B
open Go Go.Proofs

end Go.AM.B
end

section
namespace Go.AM.B
open Go Go.Proofs

end Go.AM.B
end

section
namespace Go.AM.B
open Go Go.Proofs

end Go.AM.B
end

section
/-
Bands as lists of marks, place by place: what joining, cutting and comparing runs mean.
-/
namespace Go.AM.B
open Go Go.Proofs

structure Mk where
  thick : Int
  shade : Int
  flaw : Int
  deriving DecidableEq

def Run.mk' (r : Run) : Mk := ⟨r.thick, r.shade, r.flaw⟩
theorem snoc_cases {α : Type} (l : List α) : l = [] ∨ ∃ i x, l = i ++ [x] := by
  rcases List.eq_nil_or_concat l with rfl | ⟨i, x, rfl⟩
  · exact .inl rfl
  · exact .inr ⟨i, x, by simp⟩

theorem snoc_ind {α : Type} {P : List α → Prop} (h0 : P []) (h1 : ∀ l x, P l → P (l ++ [x])) (l : List α) : P l := by
  have : ∀ (n : Nat) (l : List α), l.length = n → P l := by
    intro n
    induction n with
    | zero => intro l hl; rw [List.eq_nil_of_length_eq_zero hl]; exact h0
    | succ n ih =>
      intro l hl
      rcases snoc_cases l with rfl | ⟨i, x, rfl⟩
      · simp at hl
      · exact h1 i x (ih i (by simpa using hl))
  exact this l.length l rfl

end Go.AM.B
end

section
namespace Go.AM.B
open Go Go.Proofs

def both (xs ys : List Run) : Int := if validate xs = 0 then validate ys else validate xs

end Go.AM.B
end

section
namespace Go.AM.B
open Go Go.Proofs

end Go.AM.B
end

section
namespace Go.AM.B
open Go Go.Proofs

end Go.AM.B
end

section
/-
Loops over band.each.
-/
namespace Go.AM.B
open Go Go.Proofs

end Go.AM.B
end

section
namespace Go.AM.B
open Go Go.Proofs

end Go.AM.B
end

