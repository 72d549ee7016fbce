/- A part of the proof: the texts EDetR, EDetS, EDetU, one after another. No condition. -/
import Derived.Test.YtkacpekakpbalaaEDet
import Derived.Test.YtkacpekakpbalaaAmBad
set_option linter.unusedVariables false
set_option linter.unusedSimpArgs false
set_option maxRecDepth 20000

section
/-
Minors and determinants (the document).
-/
namespace Go.AM.E
open Go Go.AM Go.Proofs

theorem inf99 : (drawn (Try.f99.body.getD .skip)).map infosL = [[([], true), ([], false), ([], false), ([], false), ([1], false), ([1], false), ([], false), ([1], false), ([], false), ([], false), ([], false), ([1, 8], false), ([1, 8], false), ([], false), ([], false), ([1, 8], false), ([], true), ([], true), ([], true), ([], true)]] := by decide +kernel
theorem okD99 : (drawn (Try.f99.body.getD .skip)).all okBadL = true := by decide +kernel
def encP (p : Bool × List Int) : V := .sl p.1 (p.2.map vI)
def encF (l : List Int) : V := .sl false (l.map vI)
def restTo' (rest : List (Bool × List Int)) (k i : Nat) : List (List Int) := (rest.take i).map fun l => l.2.eraseIdx k
theorem restTo'_succ {rest : List (Bool × List Int)} {k i : Nat} {l : Bool × List Int} (h : rest[i]? = some l) : restTo' rest k (i + 1) = restTo' rest k i ++ [l.2.eraseIdx k] := by
  unfold restTo'; rw [List.take_add_one, h]; simp
theorem restTo'_len {rest : List (Bool × List Int)} {k i : Nat} : (restTo' rest k i).length ≤ rest.length := by unfold restTo'; simp; omega
theorem sized_encF : ∀ M : List (List Int), sized 1 (M.map encF) = true
  | [] => rfl
  | r :: M => by
    show (true && sized 1 (M.map encF)) = true
    rw [sized_encF M]; rfl
def growT (t : Bool) (es : Nat) (vs : List V) : Ob := { es := es, flat := true, t := t, app := true, elems := vs }
set_option maxRecDepth 20000 in
set_option maxHeartbeats 8000000 in
theorem c99 (p : Bool × List Int) (rest : List (Bool × List Int)) (k : Nat) (hM : rest.length ≤ 1000) (hr : ∀ l ∈ rest, k < l.2.length ∧ l.2.length ≤ 1000) : (orcω E XS).call 99 [.sl false (encP p :: rest.map encP), .int .i64 (k : Nat)] = some (.sl (rest.length == 0) ((rest.map fun l => l.2.eraseIdx k).map encF)) := by
  refine call_of rfl fn99 rfl ?_
  have hi := inf99
  have ho := okD99
  simp only [Try.f99, Option.getD_some, drawn, List.map_cons, List.map_nil, List.nil_append, List.append_nil, List.cons_append, List.cons.injEq, and_true] at hi
  simp only [Try.f99, Option.getD_some, drawn, List.nil_append, List.append_nil, List.cons_append, List.all_cons, List.all_nil, Bool.and_true, Bool.and_eq_true] at ho
  have he : (rest.map fun l => l.2.eraseIdx k) = restTo' rest k rest.length := by unfold restTo'; simp
  rw [he]
  have h0 : restTo' rest k 0 = [] := by unfold restTo'; simp
  have hs := fun i l => restTo'_succ (rest := rest) (k := k) (i := i) (l := l)
  have hl := fun i => restTo'_len (rest := rest) (k := k) (i := i)
  have hle := fun i => (show (restTo' rest k i).length = min i rest.length by unfold restTo'; simp)
  generalize restTo' rest k = rt at *
  simp (maxSteps := 1000000) (implicitDefEqProofs := false) only [Try.ntmps99, Try.results99, efc99, fc99, List.map_cons, List.length_cons, List.length_map, ss, sd, zI, qG, zG, zH, St.get, qE, qF, qB, zD, norm, look, zF, qA, qI, St.alloc, St.drop, zA, part, zC, depth, qD, ↓reduceIte, Nat.reduceBEq, Nat.reduceAdd, Nat.reduceSub, Nat.reduceMul, Nat.reduceEqDiff, Nat.reduceLeDiff, Nat.reduceLT, qJ, qK, qL, qM, qN, qO, qP, qQ, qR, zJ, qS, qC, qT, qU, qV, qW, qX, qY, qZ, zK, fixed, zL, wit, Option.isSome_some, qH, St.with, zE, Array.size, te, einl, inls, efr]
  generalize hr : loopAt _ _ _ _ _ _ = r; revert r
  refine loop_nat rest.length (fun i _ => [(5, .own 5 0 (rt i).length), (6, .int .i64 ((i + 1 : Nat) : Int))]) (fun i _ => [(5, growT (i == 0) 1 ((rt i).map encF))]) (fun _ (_ : Unit) => True) () (by omega) (by simp (maxSteps := 1000000) (implicitDefEqProofs := false) only [h0, growT, List.map_nil, List.length_nil, Nat.zero_add, Int.natCast_one, beq_self_eq_true, ss, sd, zI, qG, zG, zH, St.get, qE, qF, qB, zD, norm, look, zF, qA, qI, St.alloc, St.drop, zA, part, zC, depth, qD, ↓reduceIte, Nat.reduceBEq, Nat.reduceAdd, Nat.reduceSub, Nat.reduceMul, Nat.reduceEqDiff, Nat.reduceLeDiff, Nat.reduceLT, qJ, qK, qL, qM, qN, qO, qP, qQ, qR, zJ, qS, qC, qT, qU, qV, qW, qX, qY, qZ, zK, fixed, zL, wit, Option.isSome_some, qH, St.with, zE, Array.size, te, einl, inls, efr]) trivial (fun _ _ => ?_) (fun i _ _ a1 a2 a3 => ?_)
  · have t1 : ((rt rest.length).map encF).take (rt rest.length).length = (rt rest.length).map encF := List.take_of_length_le (by simp)
    simp (maxSteps := 1000000) (implicitDefEqProofs := false) only [Int.lt_irrefl, growT, t1, List.length_map, Try.ntmps99, Try.results99, efc99, fc99, ss, sd, zI, qG, zG, zH, St.get, qE, qF, qB, zD, norm, look, zF, qA, qI, St.alloc, St.drop, zA, part, zC, depth, qD, ↓reduceIte, Nat.reduceBEq, Nat.reduceAdd, Nat.reduceSub, Nat.reduceMul, Nat.reduceEqDiff, Nat.reduceLeDiff, Nat.reduceLT, qJ, qK, qL, qM, qN, qO, qP, qQ, qR, zJ, qS, qC, qT, qU, qV, qW, qX, qY, qZ, zK, fixed, zL, wit, Option.isSome_some, qH, St.with, zE, Array.size, te, einl, inls, efr]
  · have g1 : rest[i]? = some rest[i] := List.getElem?_eq_getElem a1
    have hl1 := hr rest[i] (List.getElem_mem _)
    have e1 := hs i _ g1
    have hrl := hl i
    have i0 : (i + 1 == 0) = false := by simp
    generalize rest[i] = lp at *
    obtain ⟨lt, l⟩ := lp
    dsimp only at hl1 e1
    generalize rt (i + 1) = r1 at *
    generalize rt i = r0 at *
    subst e1
    have a4 : ((i + 1 : Nat) : Int) < ((rest.length + 1 : Nat) : Int) := by omega
    have a5 : IntKind.i64.wrap (((i + 1 : Nat) : Int) + 1) = ((i + 1 + 1 : Nat) : Int) := by rw [wrap_in (by omega)]; omega
    have w1 : IntKind.i64.wrap ((k : Int) + 1) = ((k + 1 : Nat) : Int) := by rw [wrap_in (by omega)]; omega
    have hk1 : k ≤ l.length := by omega
    have hk2 : k + 1 ≤ l.length := by omega
    have htd : (l.take k).map vI ++ (l.drop (k + 1)).map vI = (l.eraseIdx k).map vI := by rw [← List.map_append, List.eraseIdx_eq_take_drop_succ]
    have hki : (k : Int) ≤ l.length := by omega
    have hki2 : ((k + 1 : Nat) : Int) ≤ l.length := by omega
    have hsub : ((l.length : Int) - ((k + 1 : Nat) : Int)).toNat = l.length - (k + 1) := by omega
    have htk : ((l.drop (k + 1)).map vI).take (l.length - (k + 1)) = (l.drop (k + 1)).map vI := List.take_of_length_le (by simp)
    have hl2 : (l.take k).length = k := by simp; omega
    have hl3 : (l.drop (k + 1)).length = l.length - (k + 1) := by simp
    have ro1 : roomy k 8 = true := by simp [roomy]; omega
    have ro2 : roomy (k + (l.length - (k + 1))) 8 = true := by simp [roomy]; omega
    have ro3 : roomy (r0.length + 1) 24 = true := by simp [roomy]; omega
    have bi1 : k ≤ 4294967296 := by omega
    have bi2 : k + (l.length - (k + 1)) ≤ 4294967296 := by omega
    have bi3 : r0.length + 1 ≤ 4294967296 := by omega
    have z1 : sized 1 ((l.take k).map vI) = true := sized_vI _
    have z2 : sized 1 ((l.drop (k + 1)).map vI) = true := sized_vI _
    have z3 := sized_encF r0
    have hel : (l.eraseIdx k).length = k + (l.length - (k + 1)) := by rw [List.length_eraseIdx, if_pos (by omega)]; omega
    have hel2 : k + (l.length - (k + 1)) ≤ (l.eraseIdx k).length := by omega
    have ht4 : ((l.eraseIdx k).map vI).take (k + (l.length - (k + 1))) = (l.eraseIdx k).map vI := List.take_of_length_le (by simp; omega)
    have e3 : r0.map encF ++ [.sl false ((l.eraseIdx k).map vI)] = (r0 ++ [l.eraseIdx k]).map encF := by simp [encF]
    have e4 : (r0 ++ [l.eraseIdx k]).length = r0.length + 1 := by simp
    have hb1 : bareL ((l.take k).map vI) = true := bareL_map (fun _ => rfl) _
    have hb2 : bareL ((l.drop (k + 1)).map vI) = true := bareL_map (fun _ => rfl) _
    simp (maxSteps := 1000000) (implicitDefEqProofs := false) only [a1, a2, a4, a5, g1, w1, hki, hki2, hsub, htk, hl2, hl3, hb1, hb2, htd, ro1, ro2, ro3, bi1, bi2, bi3, z1, z2, z3, ht4, e3, e4, hel2, i0, regLT ho hi, firstL_cons, firstV_some, List.tail_cons, evBT_nil, evBT_cons, effT_true, effT_false, effT2_some, effT2_none, calmT, free, Eff.writes, supp, isBarL, isBar, Option.toList_some, Option.toList_none, growT, encP, Int.le_refl, Int.sub_zero, Int.toNat_zero, List.drop_zero, ← List.map_take, ← List.map_drop, Int.natCast_nonneg, Int.toNat_natCast, List.getElem?_cons_succ, List.getElem?_map, List.length_map, Bool.and_false, sized, ss, sd, zI, qG, zG, zH, St.get, qE, qF, qB, zD, norm, look, zF, qA, qI, St.alloc, St.drop, zA, part, zC, depth, qD, ↓reduceIte, Nat.reduceBEq, Nat.reduceAdd, Nat.reduceSub, Nat.reduceMul, Nat.reduceEqDiff, Nat.reduceLeDiff, Nat.reduceLT, qJ, qK, qL, qM, qN, qO, qP, qQ, qR, zJ, qS, qC, qT, qU, qV, qW, qX, qY, qZ, zK, fixed, zL, wit, Option.isSome_some, qH, St.with, zE, Array.size, te, einl, inls, efr]
    (first | exact ⟨(), trivial⟩ | refine ⟨(), ?_, trivial⟩ | skip)
end Go.AM.E
end

section
/-
Determinants of the document: the wrap of the determinant, whatever the entries.
-/
namespace Go.AM.E
open Go Go.AM Go.Proofs

theorem wrap_bmod (n : Int) : IntKind.i64.wrap n = Int.bmod n (2 ^ 64) := by
  have e : ((2 ^ 64 : Nat) : Int) = 18446744073709551616 := rfl
  rw [IntKind.wrap_i64, Int.bmod_def, e]
  split <;> omega
theorem wrap_mul (a b : Int) : IntKind.i64.wrap (IntKind.i64.wrap a * IntKind.i64.wrap b) = IntKind.i64.wrap (a * b) := by
  rw [wrap_bmod, wrap_bmod, wrap_bmod, wrap_bmod, Int.bmod_mul_bmod, Int.mul_bmod_bmod]
theorem wrap_mul' (a b : Int) : IntKind.i64.wrap (a * IntKind.i64.wrap b) = IntKind.i64.wrap (a * b) := by
  rw [wrap_bmod, wrap_bmod, wrap_bmod, Int.mul_bmod_bmod]
theorem wrap_add (a b : Int) : IntKind.i64.wrap (IntKind.i64.wrap a + IntKind.i64.wrap b) = IntKind.i64.wrap (a + b) := by
  rw [wrap_bmod, wrap_bmod, wrap_bmod, wrap_bmod, Int.bmod_add_bmod, Int.add_bmod_bmod]

theorem encF_P (L : List (List Int)) : L.map encF = (L.map fun l => ((false, l) : Bool × List Int)).map encP := by
  rw [List.map_map]; rfl
theorem okT82 : okCode (Try.f82.body.getD .skip) = true := by decide +kernel
set_option maxRecDepth 20000 in
set_option maxHeartbeats 8000000 in
theorem c82_step (n : Nat) (p : Bool × List Int) (rest : List (Bool × List Int)) (hn : n + 1 ≤ 4) (hM : (p :: rest).length = n + 1) (hl : ∀ l ∈ p :: rest, l.2.length = n + 1)
    (ih : ∀ M : List (Bool × List Int), M.length = n → (∀ l ∈ M, l.2.length = n) → (orcω E XS).call 82 [.sl false (M.map encP)] = some (.int .i64 (IntKind.i64.wrap (detF n (M.map (·.2)))))) :
    (orcω E XS).call 82 [.sl false (encP p :: rest.map encP)] = some (.int .i64 (IntKind.i64.wrap (detF (n + 1) ((p :: rest).map (·.2))))) := by
  refine call_of rfl fn82 rfl ?_
  have hok := okT82
  simp only [Try.f82, Option.getD_some, okCode, Bool.and_eq_true, Bool.and_true, Bool.true_and] at hok
  have hrl := hl p (by simp)
  have k1 := fun (k : Nat) (hk : k < n + 1) => c99 p rest k (by simp at hM; omega) (fun l h => by have := hl l (by simp [h]); omega)
  have k2 := fun (k : Nat) (hk : k < n + 1) => ih ((rest.map fun l => l.2.eraseIdx k).map fun l => (false, l)) (by simpa using hM) (fun l h => by
    obtain ⟨l1, h1, rfl⟩ := List.mem_map.1 h
    obtain ⟨l0, h0, rfl⟩ := List.mem_map.1 h1
    have := hl l0 (by simp [h0])
    show (l0.2.eraseIdx k).length = n
    rw [List.length_eraseIdx, this, if_pos hk]; omega)
  obtain ⟨pt, r⟩ := p
  dsimp only at hrl
  have em : ∀ k, (((rest.map fun l => l.2.eraseIdx k).map fun l => ((false, l) : Bool × List Int)).map (·.2)) = (rest.map (·.2)).map fun l => l.eraseIdx k := fun k => by simp [List.map_map, Function.comp_def]
  have hdet : detF (n + 1) (((pt, r) :: rest).map (·.2)) = lapTo (fun k => detF n ((rest.map (·.2)).map fun l => l.eraseIdx k)) r r.length := rfl
  have hstep : ∀ i x, r[i]? = some x → lapTo (fun k => detF n ((rest.map (·.2)).map fun l => l.eraseIdx k)) r (i + 1) = lapTo (fun k => detF n ((rest.map (·.2)).map fun l => l.eraseIdx k)) r i + sgn i * x * detF n ((rest.map (·.2)).map fun l => l.eraseIdx i) := by
    intro i x h
    show _ + _ * r.getD i 0 * _ = _
    rw [List.getD_eq_getElem?_getD, h]
    rfl
  have h00 : lapTo (fun k => detF n ((rest.map (·.2)).map fun l => l.eraseIdx k)) r 0 = 0 := rfl
  rw [hdet]
  simp only [em, ← encF_P] at k2
  clear ih hl em hdet
  generalize lapTo (fun k => detF n ((rest.map (·.2)).map fun l => l.eraseIdx k)) r = lp at *
  have p1 : (0 : Int) < (rest.length : Int) + 1 := by omega
  have p2 : (((rest.length : Int) + 1) == 0) = false := by simp; omega
  have s0 : sgn 0 = 1 := rfl
  have w0 : IntKind.i64.wrap 0 = 0 := wrap_in (by omega)
  have hrn : r.length = rest.length + 1 := by simp at hM; omega
  unfold encP at k1 ⊢
  simp only [Int.natCast_zero] at k1 k2 ⊢
  simp (maxSteps := 1000000) (implicitDefEqProofs := false) only [Try.ntmps82, Try.results82, efc82, fc82, p1, p2, Int.le_refl, Int.toNat_zero, List.getElem?_cons_zero, List.length_cons, List.length_map, Int.natCast_add, Int.natCast_one, ss, sd, zI, qG, zG, zH, St.get, qE, qF, qB, zD, norm, look, zF, qA, qI, St.alloc, St.drop, zA, part, zC, depth, qD, ↓reduceIte, Nat.reduceBEq, Nat.reduceAdd, Nat.reduceSub, Nat.reduceMul, Nat.reduceEqDiff, Nat.reduceLeDiff, Nat.reduceLT, qJ, qK, qL, qM, qN, qO, qP, qQ, qR, zJ, qS, qC, qT, qU, qV, qW, qX, qY, qZ, zK, fixed, zL, wit, Option.isSome_some, qH, St.with, zE, Array.size, te, einl, inls, efr]
  generalize hr : loopAt _ _ _ _ _ _ = r; revert r
  refine loop_nat r.length (fun i _ => [(3, .int .i64 (IntKind.i64.wrap (lp i))), (4, .int .i64 (sgn i)), (5, .int .i64 (i : Nat))]) (fun _ _ => []) (fun _ (_ : Unit) => True) () (by omega) (by simp (maxSteps := 1000000) (implicitDefEqProofs := false) only [h00, w0, s0, Int.natCast_zero, ss, sd, zI, qG, zG, zH, St.get, qE, qF, qB, zD, norm, look, zF, qA, qI, St.alloc, St.drop, zA, part, zC, depth, qD, ↓reduceIte, Nat.reduceBEq, Nat.reduceAdd, Nat.reduceSub, Nat.reduceMul, Nat.reduceEqDiff, Nat.reduceLeDiff, Nat.reduceLT, qJ, qK, qL, qM, qN, qO, qP, qQ, qR, zJ, qS, qC, qT, qU, qV, qW, qX, qY, qZ, zK, fixed, zL, wit, Option.isSome_some, qH, St.with, zE, Array.size, te, einl, inls, efr]) trivial (fun _ _ => ?_) (fun i _ _ a1 a2 a3 => ?_)
  · have q : ¬ ((r.length : Nat) : Int) < ((rest.length + 1 : Nat) : Int) := by omega
    simp (maxSteps := 1000000) (implicitDefEqProofs := false) only [q, List.length_map, Try.ntmps82, Try.results82, efc82, fc82, ss, sd, zI, qG, zG, zH, St.get, qE, qF, qB, zD, norm, look, zF, qA, qI, St.alloc, St.drop, zA, part, zC, depth, qD, ↓reduceIte, Nat.reduceBEq, Nat.reduceAdd, Nat.reduceSub, Nat.reduceMul, Nat.reduceEqDiff, Nat.reduceLeDiff, Nat.reduceLT, qJ, qK, qL, qM, qN, qO, qP, qQ, qR, zJ, qS, qC, qT, qU, qV, qW, qX, qY, qZ, zK, fixed, zL, wit, Option.isSome_some, qH, St.with, zE, Array.size, te, einl, inls, efr]
  · have g1 : r[i]? = some r[i] := List.getElem?_eq_getElem a1
    have e1 := hstep i _ g1
    have k1 := k1 i (by omega)
    have k2 := k2 i (by omega)
    have ss := sgn_succ i
    have b5 := sgn_in i
    have a4 : ((i : Nat) : Int) < ((rest.length + 1 : Nat) : Int) := by omega
    generalize r[i] = x at *
    generalize detF n ((rest.map (·.2)).map fun l => l.eraseIdx i) = d at *
    generalize (rest.map fun l => l.2.eraseIdx i).map encF = mi at *
    generalize sgn (i + 1) = s1 at *
    generalize sgn i = s at *
    generalize lp (i + 1) = l1 at *
    generalize lp i = l0 at *
    subst ss
    have w1 : IntKind.i64.wrap (0 - s) = -s := by rw [wrap_in (by omega)]; omega
    by_cases h0 : x = 0
    · subst h0
      have e2 : l1 = l0 := by rw [e1]; simp
      subst e2
      simp (maxSteps := 1000000) (implicitDefEqProofs := false) only [a4, a2, a3, g1, w1, vI, bne_self_eq_false, Int.le_refl, Int.toNat_zero, List.getElem?_cons_zero, Int.natCast_nonneg, Int.toNat_natCast, List.getElem?_map, List.length_map, ss, sd, zI, qG, zG, zH, St.get, qE, qF, qB, zD, norm, look, zF, qA, qI, St.alloc, St.drop, zA, part, zC, depth, qD, ↓reduceIte, Nat.reduceBEq, Nat.reduceAdd, Nat.reduceSub, Nat.reduceMul, Nat.reduceEqDiff, Nat.reduceLeDiff, Nat.reduceLT, qJ, qK, qL, qM, qN, qO, qP, qQ, qR, zJ, qS, qC, qT, qU, qV, qW, qX, qY, qZ, zK, fixed, zL, wit, Option.isSome_some, qH, St.with, zE, Array.size, te, einl, inls, efr]
      (first | exact ⟨(), trivial⟩ | refine ⟨(), ?_, trivial⟩ | skip)
    · have q1 : (x != 0) = true := by simpa using h0
      have w4 : IntKind.i64.wrap (IntKind.i64.wrap l0 + IntKind.i64.wrap (IntKind.i64.wrap (s * x) * IntKind.i64.wrap d)) = IntKind.i64.wrap l1 := by rw [wrap_mul, wrap_add, e1]
      simp (maxSteps := 1000000) (implicitDefEqProofs := false) only [a4, a2, a3, g1, w1, w4, q1, k1, k2, evRegion_st hok, vI, Int.le_refl, Int.toNat_zero, List.getElem?_cons_zero, Int.natCast_nonneg, Int.toNat_natCast, List.getElem?_map, List.length_map, ss, sd, zI, qG, zG, zH, St.get, qE, qF, qB, zD, norm, look, zF, qA, qI, St.alloc, St.drop, zA, part, zC, depth, qD, ↓reduceIte, Nat.reduceBEq, Nat.reduceAdd, Nat.reduceSub, Nat.reduceMul, Nat.reduceEqDiff, Nat.reduceLeDiff, Nat.reduceLT, qJ, qK, qL, qM, qN, qO, qP, qQ, qR, zJ, qS, qC, qT, qU, qV, qW, qX, qY, qZ, zK, fixed, zL, wit, Option.isSome_some, qH, St.with, zE, Array.size, te, einl, inls, efr]
      (first | exact ⟨(), trivial⟩ | refine ⟨(), ?_, trivial⟩ | skip)
theorem c82 : ∀ (n : Nat) (M : List (Bool × List Int)), n ≤ 4 → M.length = n → (∀ l ∈ M, l.2.length = n) → (orcω E XS).call 82 [.sl false (M.map encP)] = some (.int .i64 (IntKind.i64.wrap (detF n (M.map (·.2)))))
  | 0, M, _, hM, _ => by
    obtain rfl : M = [] := List.length_eq_zero_iff.1 hM
    have w1 : IntKind.i64.wrap 1 = 1 := wrap_in (by omega)
    refine call_of rfl fn82 rfl ?_
    simp (maxSteps := 1000000) (implicitDefEqProofs := false) only [Try.ntmps82, Try.results82, efc82, fc82, encP, detF, w1, beq_self_eq_true, List.map_nil, List.length_nil, ss, sd, zI, qG, zG, zH, St.get, qE, qF, qB, zD, norm, look, zF, qA, qI, St.alloc, St.drop, zA, part, zC, depth, qD, ↓reduceIte, Nat.reduceBEq, Nat.reduceAdd, Nat.reduceSub, Nat.reduceMul, Nat.reduceEqDiff, Nat.reduceLeDiff, Nat.reduceLT, qJ, qK, qL, qM, qN, qO, qP, qQ, qR, zJ, qS, qC, qT, qU, qV, qW, qX, qY, qZ, zK, fixed, zL, wit, Option.isSome_some, qH, St.with, zE, Array.size, te, einl, inls, efr]
  | n + 1, [], _, hM, _ => by simp at hM
  | n + 1, p :: rest, hn, hM, hl => c82_step n p rest hn hM hl fun M h1 h2 => c82 n M (by omega) h1 h2
end Go.AM.E
end

section
/-
A matrix with a column in the place of another one (the document).
-/
namespace Go.AM.E
open Go Go.AM Go.Proofs

def replTo (M : List (Bool × List Int)) (j : Nat) (c : List Int) (i : Nat) : List (List Int) := ((M.zip c).take i).map fun p => p.1.2.set j p.2
theorem replTo_succ {M : List (Bool × List Int)} {j : Nat} {c : List Int} {i : Nat} {l : Bool × List Int} {x : Int} (h : M[i]? = some l) (hx : c[i]? = some x) : replTo M j c (i + 1) = replTo M j c i ++ [l.2.set j x] := by
  unfold replTo
  have : (M.zip c)[i]? = some (l, x) := by rw [List.getElem?_zip_eq_some]; exact ⟨h, hx⟩
  rw [List.take_add_one, this]; simp
theorem replTo_len {M : List (Bool × List Int)} {j : Nat} {c : List Int} {i : Nat} : (replTo M j c i).length ≤ M.length := by unfold replTo; simp; omega
def replM (M : List (Bool × List Int)) (j : Nat) (c : List Int) : List (List Int) := (M.zip c).map fun p => p.1.2.set j p.2
set_option maxRecDepth 20000 in
set_option maxHeartbeats 8000000 in
theorem c83 (M : List (Bool × List Int)) (j : Nat) (c : List Int) (hM : M.length ≤ 1000) (hc : c.length = M.length) (hr : ∀ l ∈ M, j < l.2.length ∧ l.2.length ≤ 1000) : (orcω E XS).call 83 [.sl false (M.map encP), .int .i64 (j : Nat), .sl false (c.map vI)] = some (encM true (replM M j c)) := by
  refine call_of rfl fn83 rfl ?_
  have he : replM M j c = replTo M j c M.length := by unfold replM replTo; rw [List.take_of_length_le (by simp; omega)]
  rw [he]
  unfold encM
  have h0 : replTo M j c 0 = [] := by unfold replTo; simp
  have hs := fun i l x => replTo_succ (M := M) (j := j) (c := c) (i := i) (l := l) (x := x)
  have hl := fun i => replTo_len (M := M) (j := j) (c := c) (i := i)
  generalize replTo M j c = rt at *
  simp (maxSteps := 1000000) (implicitDefEqProofs := false) only [Try.ntmps83, Try.results83, efc83, fc83, List.length_map, ss, sd, zI, qG, zG, zH, St.get, qE, qF, qB, zD, norm, look, zF, qA, qI, St.alloc, St.drop, zA, part, zC, depth, qD, ↓reduceIte, Nat.reduceBEq, Nat.reduceAdd, Nat.reduceSub, Nat.reduceMul, Nat.reduceEqDiff, Nat.reduceLeDiff, Nat.reduceLT, qJ, qK, qL, qM, qN, qO, qP, qQ, qR, zJ, qS, qC, qT, qU, qV, qW, qX, qY, qZ, zK, fixed, zL, wit, Option.isSome_some, qH, St.with, zE, Array.size, te, einl, inls, efr]
  generalize hr : loopAt _ _ _ _ _ _ = r; revert r
  refine loop_nat M.length (fun i _ => [(7, .own 7 0 (rt i).length), (8, .int .i64 (i : Nat))]) (fun i _ => [(7, grow 1 ((rt i).map encI))]) (fun _ (_ : Unit) => True) () (by omega) (by simp (maxSteps := 1000000) (implicitDefEqProofs := false) only [h0, grow, List.map_nil, List.length_nil, Int.natCast_zero, ss, sd, zI, qG, zG, zH, St.get, qE, qF, qB, zD, norm, look, zF, qA, qI, St.alloc, St.drop, zA, part, zC, depth, qD, ↓reduceIte, Nat.reduceBEq, Nat.reduceAdd, Nat.reduceSub, Nat.reduceMul, Nat.reduceEqDiff, Nat.reduceLeDiff, Nat.reduceLT, qJ, qK, qL, qM, qN, qO, qP, qQ, qR, zJ, qS, qC, qT, qU, qV, qW, qX, qY, qZ, zK, fixed, zL, wit, Option.isSome_some, qH, St.with, zE, Array.size, te, einl, inls, efr]) trivial (fun _ _ => ?_) (fun i _ _ a1 a2 a3 => ?_)
  · have t1 : ((rt M.length).map encI).take (rt M.length).length = (rt M.length).map encI := List.take_of_length_le (by simp)
    simp (maxSteps := 1000000) (implicitDefEqProofs := false) only [Int.lt_irrefl, grow, t1, List.length_map, Try.ntmps83, Try.results83, efc83, fc83, ss, sd, zI, qG, zG, zH, St.get, qE, qF, qB, zD, norm, look, zF, qA, qI, St.alloc, St.drop, zA, part, zC, depth, qD, ↓reduceIte, Nat.reduceBEq, Nat.reduceAdd, Nat.reduceSub, Nat.reduceMul, Nat.reduceEqDiff, Nat.reduceLeDiff, Nat.reduceLT, qJ, qK, qL, qM, qN, qO, qP, qQ, qR, zJ, qS, qC, qT, qU, qV, qW, qX, qY, qZ, zK, fixed, zL, wit, Option.isSome_some, qH, St.with, zE, Array.size, te, einl, inls, efr]
  · have g1 : M[i]? = some M[i] := List.getElem?_eq_getElem a1
    have g2 : c[i]? = some c[i] := List.getElem?_eq_getElem (by omega)
    have hl1 := hr M[i] (List.getElem_mem _)
    have e1 := hs i _ _ g1 g2
    have hrl := hl i
    generalize M[i] = lp at *
    generalize c[i] = x at *
    obtain ⟨lt, l⟩ := lp
    dsimp only at hl1 e1
    generalize rt (i + 1) = r1 at *
    generalize rt i = r0 at *
    subst e1
    have g3 : l[j]? = some l[j] := List.getElem?_eq_getElem hl1.1
    generalize l[j] = y at *
    have ro1 : roomy l.length 8 = true := by simp [roomy]; omega
    have ro3 : roomy (r0.length + 1) 24 = true := by simp [roomy]; omega
    have bi1 : l.length ≤ 4294967296 := by omega
    have bi3 : r0.length + 1 ≤ 4294967296 := by omega
    have z1 : sized 1 (l.map vI) = true := sized_vI _
    have z3 := sized_encI r0
    have hb1 : bareL (l.map vI) = true := bareL_map (fun _ => rfl) _
    have e3 : r0.map encI ++ [.sl true ((l.set j x).map vI)] = (r0 ++ [l.set j x]).map encI := by simp [encI]
    have e4 : (r0 ++ [l.set j x]).length = r0.length + 1 := by simp
    have e5 : (l.map vI).set j (.int .i64 x) = (l.set j x).map vI := by rw [List.map_set]; rfl
    have e6 : ((l.set j x).map vI).take l.length = (l.set j x).map vI := List.take_of_length_le (by simp)
    have hj0 : (j : Int) < (l.length : Int) := by omega
    simp (maxSteps := 1000000) (implicitDefEqProofs := false) only [a1, a2, a3, hj0, g1, g2, g3, hb1, ro1, ro3, bi1, bi3, z1, z3, e3, e4, e5, e6, grow, encP, vI, Int.le_refl, Int.natCast_nonneg, Int.toNat_natCast, List.getElem?_map, List.length_map, List.length_set, ss, sd, zI, qG, zG, zH, St.get, qE, qF, qB, zD, norm, look, zF, qA, qI, St.alloc, St.drop, zA, part, zC, depth, qD, ↓reduceIte, Nat.reduceBEq, Nat.reduceAdd, Nat.reduceSub, Nat.reduceMul, Nat.reduceEqDiff, Nat.reduceLeDiff, Nat.reduceLT, qJ, qK, qL, qM, qN, qO, qP, qQ, qR, zJ, qS, qC, qT, qU, qV, qW, qX, qY, qZ, zK, fixed, zL, wit, Option.isSome_some, qH, St.with, zE, Array.size, te, einl, inls, efr]
    (first | exact ⟨(), trivial⟩ | refine ⟨(), ?_, trivial⟩ | skip)
end Go.AM.E
end

