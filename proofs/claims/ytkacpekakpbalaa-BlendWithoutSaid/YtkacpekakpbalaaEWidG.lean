/- A part of the proof: the texts EWidP, EWid, EWidB, EWidC, EWidD, ERowX, one after another. No condition. -/
import Derived.Test.YtkacpekakpbalaaELeast
import Derived.Test.YtkacpekakpbalaaEFeas
import Derived.Test.YtkacpekakpbalaaEBlend
import Derived.Test.YtkacpekakpbalaaEMixP
import Derived.Test.YtkacpekakpbalaaAmNew
import Derived.Test.YtkacpekakpbalaaAmNat
import Derived.Test.YtkacpekakpbalaaAmLow
import Derived.Test.YtkacpekakpbalaaERowG
set_option linter.unusedVariables false
set_option linter.unusedSimpArgs false
set_option maxRecDepth 20000

section
/-
Wider bounds are never dearer (plain).
-/
namespace Go.AM.E
open Go Go.AM Go.Proofs

def Cheaper (a b : Blend) : Prop := ∀ z, FeasR b z → ∃ z', FeasR a z' ∧ costQ a z' ≤ costQ b z
theorem cheap_ok {a b : Blend} (ha : Valid a) (hb : Valid b) (h : Cheaper a b) :
    ∃ n d s m e t, leastR a = ((n, d), s, 0) ∧ leastR b = ((m, e), t, 0) ∧ (t = true → s = true ∧ Rat' (n, d) ∧ Rat' (m, e) ∧ n * e ≤ m * d) := by
  rcases solve_cases hb with ⟨x, p, hs, ho⟩ | ⟨p, hs, hp, hn⟩
  · obtain ⟨hf, hc⟩ := feas_ok ho.check
    obtain ⟨z, hz, hle⟩ := h _ hf
    rcases solve_cases ha with ⟨y, q, hs', ho'⟩ | ⟨q, hs', hq, hn'⟩
    rotate_left
    · exact absurd ⟨z, hz⟩ hn'
    obtain ⟨l1, _, l2, l3, _⟩ := least_yes hb hs ho
    obtain ⟨k1, _, k2, k3, _⟩ := least_yes ha hs' ho'
    refine ⟨_, _, _, _, _, _, k1, l1, fun _ => ⟨rfl, k3, l3, ?_⟩⟩
    have hl := ho'.least z hz
    have dx := den_pos ho.small.1
    have dy := den_pos ho'.small.1
    have key : costM a y.x * x.den ≤ costM b x.x * y.den := by
      rw [← cast_le, Rat.intCast_mul, Rat.intCast_mul, hc]
      have h1 := Rat.mul_le_mul_of_nonneg_right hl (show (0 : Rat) ≤ (x.den : Rat) by grind)
      have h2 := Rat.mul_le_mul_of_nonneg_left hle (show (0 : Rat) ≤ (y.den : Rat) * (x.den : Rat) from Rat.mul_nonneg (by grind) (by grind))
      grind
    exact make_le (n := costM b x.x) (d := x.den) (m := costM a y.x) (e := y.den) ho.small.1 ho'.small.1 (by rw [← l2]) (by rw [← k2]) key
  · have hl := least_no hs
    rcases solve_cases ha with ⟨y, q, hs', ho'⟩ | ⟨q, hs', hq, hn'⟩
    · obtain ⟨k1, _⟩ := least_yes ha hs' ho'
      exact ⟨_, _, _, _, _, _, k1, hl, fun h => by cases h⟩
    · exact ⟨_, _, _, _, _, _, least_no hs', hl, fun h => by cases h⟩

def bNil : Blend := ⟨0, [], [], []⟩
end Go.AM.E
end

section
/-
Copies of blends.
-/
namespace Go.AM.E
open Go Go.AM Go.Proofs

theorem wid_bare (l : List Int) : bareL (l.map vI) = true := bareL_map (fun _ => rfl) l
set_option maxRecDepth 20000 in
set_option maxHeartbeats 4000000 in
theorem c96 (l : List Int) (hn : l.length ≤ 1000000) : (orcω E XS).call 96 [.sl false (l.map vI)] = some (.sl true (l.map vI)) := by
  cases l with
  | nil =>
    refine (orcω_le 0).call _ _ _ ?_
    simp only [orc, XS, XK, X9, cloneAt, if_true, List.map_nil]
  | cons x r =>
    have h1 : nilTest (.sl false ((x :: r).map vI)) = some false := rfl
    have h2 := wid_bare (x :: r)
    refine call_of rfl fn96 rfl ?_
    generalize (x :: r) = l at *
    have h3 : roomy l.length 8 = true := by unfold roomy; simp; omega
    have h4 : l.length ≤ 4294967296 := by omega
    simp (maxSteps := 1000000) (implicitDefEqProofs := false) only [Try.ntmps96, Try.results96, efc96, fc96, h1, h2, h3, h4, List.length_map, ss, sd, zI, qG, zG, zH, St.get, qE, qF, qB, zD, norm, look, zF, qA, qI, St.alloc, St.drop, zA, part, zC, depth, qD, ↓reduceIte, Nat.reduceBEq, Nat.reduceAdd, Nat.reduceSub, Nat.reduceMul, Nat.reduceEqDiff, Nat.reduceLeDiff, Nat.reduceLT, qJ, qK, qL, qM, qN, qO, qP, qQ, qR, zJ, qS, qC, qT, evSlice0, qV, qW, qX, qY, qZ, zK, fixed, zL, wit, Option.isSome_some, qH, evSliceP, evPre, St.with, zE, Array.size, te, einl, inls, efr]
set_option maxRecDepth 20000 in
set_option maxHeartbeats 4000000 in
theorem c97 (l : List Cem) (hl : l ≠ []) (hn : l.length ≤ 1000000) : ∃ sl, (orcω E XS).inl 1000 97 [.sl false (l.map encCem)] { slots := [], outer := [], objs := [] } = some (.own 1002 0 l.length, { slots := sl, outer := [], objs := [(1002, { es := 3, flat := true, t := false, app := true, elems := l.map encCem })] }) := by
  refine (fun h : ∃ sl : List V, _ = some (V.own 1002 0 l.length, ({ slots := sl, outer := [], objs := [(1002, { es := 3, flat := true, t := false, app := true, elems := l.map encCem })] } : St)) => h.elim fun sl h => ⟨sl, inl_of rfl fn97 rfl h⟩) ?_
  have h1 : nilTest (.sl false (l.map encCem)) = some false := by
    cases l with
    | nil => exact absurd rfl hl
    | cons x r => rfl
  have h2 : bareL (l.map encCem) = false := by
    cases l with
    | nil => exact absurd rfl hl
    | cons x r => rfl
  have h3 : roomy l.length 40 = true := by unfold roomy; simp; omega
  have h4 : l.length ≤ 4294967296 := by omega
  have h5 : sized 3 (l.map encCem) = true := sized_map (fun c => ⟨[.int .i64 c.st, .int .i64 c.co, .sl false (c.ps.map vI)], rfl, rfl⟩) l
  simp (maxSteps := 1000000) (implicitDefEqProofs := false) only [Try.ntmps97, Try.results97, efc97, fc97, h1, h2, h3, h4, h5, List.length_map, ss, sd, zI, qG, zG, zH, St.get, qE, qF, qB, zD, norm, look, zF, qA, qI, St.alloc, St.drop, zA, part, zC, depth, qD, ↓reduceIte, Nat.reduceBEq, Nat.reduceAdd, Nat.reduceSub, Nat.reduceMul, Nat.reduceEqDiff, Nat.reduceLeDiff, Nat.reduceLT, qJ, qK, qL, qM, qN, qO, qP, qQ, qR, zJ, qS, qC, qT, evSlice0, qV, qW, qX, qY, qZ, zK, fixed, zL, wit, Option.isSome_some, qH, evSliceP, evPre, St.with, zE, Array.size, te, einl, inls, efr]
  exact ⟨_, rfl⟩

theorem inf74 : (drawn (Try.f74.body.getD .skip)).map infosX = [[([], false), ([], false), ([], false), ([], false), ([2], false), ([], false), ([], false), ([2, 5], false), ([], false), ([], false), ([], true), ([], true), ([], true), ([], true), ([], true)], [([], false), ([], false), ([], false), ([], false), ([], false), ([], false), ([], false), ([], false), ([], false), ([1], false), ([], true), ([], true), ([], true)]] := by decide +kernel
theorem okD74 : (drawn (Try.f74.body.getD .skip)).all okBadX = true := by decide +kernel
def encCemT (c : Cem) : V := .agg [.int .i64 c.st, .int .i64 c.co, .sl true (c.ps.map vI)]
def mixC (cs : List Cem) (k : Nat) : List V := (cs.take k).map encCemT ++ (cs.drop k).map encCem
theorem cmix_len (cs : List Cem) (k : Nat) : (mixC cs k).length = cs.length := by unfold mixC; simp; omega
theorem cmix_get {cs : List Cem} {k : Nat} {c : Cem} (h : cs[k]? = some c) : (mixC cs k)[k]? = some (encCem c) := by
  obtain ⟨hk, e⟩ := List.getElem?_eq_some_iff.1 h
  have hl : ((cs.take k).map encCemT).length = k := by simp; omega
  unfold mixC
  rw [List.getElem?_append_right (by omega), hl, Nat.sub_self, List.getElem?_map, List.getElem?_drop, Nat.add_zero, h]
  rfl
theorem cmix_set {cs : List Cem} {k : Nat} {c : Cem} (h : cs[k]? = some c) : (mixC cs k).set k (encCemT c) = mixC cs (k + 1) := by
  obtain ⟨hk, e⟩ := List.getElem?_eq_some_iff.1 h
  have hl : ((cs.take k).map encCemT).length = k := by simp; omega
  unfold mixC
  rw [List.set_append_right _ _ (by omega), hl, Nat.sub_self, List.drop_eq_getElem_cons hk, List.map_cons, List.set_cons_zero, List.take_add_one, h]
  simp
theorem cmix_zero (cs : List Cem) : mixC cs 0 = cs.map encCem := by simp [mixC]
theorem cmix_all (cs : List Cem) : mixC cs cs.length = cs.map encCemT := by simp [mixC]
end Go.AM.E
end

section
/-
Wider bounds: errors, and the document's form.
-/
namespace Go.AM.E
open Go Go.AM Go.Proofs

section
variable {E : Env} {X : Ext} {fc : FC} {base : Nat} {b : Code}
theorem loop_st {ι : Type} {K : Option (Ex × St) → Prop} {s0 : St} (S : ι → St) (m : ι → Nat) (i0 : ι) (h0 : s0 = S i0)
    (h : ∀ i, after fc b (den E X fc base b (S i)) (fun s => ∃ i', s = S i' ∧ m i' < m i) (fun q => K (some q))) : ∀ r, loopAt E X fc base b s0 = r → K r := by
  rintro r rfl
  have key : ∀ (n : Nat) (i : ι), m i < n → K (loopAt E X fc base b (S i)) := by
    intro n
    induction n with
    | zero => intro i hm; omega
    | succ n ih =>
      intro i hm
      have ha := h i
      unfold loopAt
      cases hd : den E X fc base b (S i) with
      | none => rw [hd] at ha; exact ha.elim
      | some p =>
        obtain ⟨e, s⟩ := p
        rw [hd] at ha
        cases e with
        | normal =>
          obtain ⟨i', h1, h3⟩ := ha
          rw [andThen_normal, den_loopAt, h1]
          exact ih i' (by omega)
        | exit i => exact ha
        | ret => exact ha
  have := key (m i0 + 1) i0 (Nat.lt_succ_self _)
  rwa [← h0] at this
end
end Go.AM.E
end

section
/-
Sameness of blends, and which is cheaper.
-/
namespace Go.AM.E
open Go Go.AM Go.Proofs

theorem okT40 : okCode (Try.f40.body.getD .skip) = true := by decide +kernel
set_option maxRecDepth 20000 in
set_option maxHeartbeats 4000000 in
theorem c40s (x : List Int) (hx : x.length ≤ 1000000000) : (orcω E XS).call 40 [.sl false (x.map vI), .sl false (x.map vI)] = some (.bool true) := by
  refine call_of rfl fn40 rfl ?_
  have hok := okT40
  simp only [Try.f40, Option.getD_some, okCode, Bool.and_eq_true, Bool.and_true, Bool.true_and] at hok
  have q1 := cast_eq (a := x.length) rfl
  simp (maxSteps := 1000000) (implicitDefEqProofs := false) only [Try.ntmps40, Try.results40, efc40, fc40, q1, List.length_map, ss, sd, zI, qG, zG, zH, St.get, qE, qF, qB, zD, norm, look, zF, qA, qI, St.alloc, St.drop, zA, part, zC, depth, qD, ↓reduceIte, Nat.reduceBEq, Nat.reduceAdd, Nat.reduceSub, Nat.reduceMul, Nat.reduceEqDiff, Nat.reduceLeDiff, Nat.reduceLT, qJ, qK, qL, qM, qN, qO, qP, qQ, qR, zJ, qS, qC, qT, evSlice0, qV, qW, qX, qY, qZ, zK, fixed, zL, wit, Option.isSome_some, qH, evSliceP, evPre, St.with, zE, Array.size, te, einl, inls, efr]
  generalize hr : loopAt _ _ _ _ _ _ = r; revert r
  refine loop_nat x.length (fun i _ => [(5, .int .i64 (i : Nat))]) (fun _ _ => []) (fun _ (_ : Unit) => True) () (by omega) (by simp (maxSteps := 1000000) (implicitDefEqProofs := false) only [Int.natCast_zero, ss, sd, zI, qG, zG, zH, St.get, qE, qF, qB, zD, norm, look, zF, qA, qI, St.alloc, St.drop, zA, part, zC, depth, qD, ↓reduceIte, Nat.reduceBEq, Nat.reduceAdd, Nat.reduceSub, Nat.reduceMul, Nat.reduceEqDiff, Nat.reduceLeDiff, Nat.reduceLT, qJ, qK, qL, qM, qN, qO, qP, qQ, qR, zJ, qS, qC, qT, evSlice0, qV, qW, qX, qY, qZ, zK, fixed, zL, wit, Option.isSome_some, qH, evSliceP, evPre, St.with, zE, Array.size, te, einl, inls, efr]) trivial (fun _ _ => ?_) (fun i _ _ a1 a2 a3 => ?_)
  · simp (maxSteps := 1000000) (implicitDefEqProofs := false) only [Int.lt_irrefl, List.length_map, Try.ntmps40, Try.results40, efc40, fc40, ss, sd, zI, qG, zG, zH, St.get, qE, qF, qB, zD, norm, look, zF, qA, qI, St.alloc, St.drop, zA, part, zC, depth, qD, ↓reduceIte, Nat.reduceBEq, Nat.reduceAdd, Nat.reduceSub, Nat.reduceMul, Nat.reduceEqDiff, Nat.reduceLeDiff, Nat.reduceLT, qJ, qK, qL, qM, qN, qO, qP, qQ, qR, zJ, qS, qC, qT, evSlice0, qV, qW, qX, qY, qZ, zK, fixed, zL, wit, Option.isSome_some, qH, evSliceP, evPre, St.with, zE, Array.size, te, einl, inls, efr]
  · have g1 : x[i]? = some x[i] := List.getElem?_eq_getElem a1
    generalize x[i] = m at *
    simp (maxSteps := 1000000) (implicitDefEqProofs := false) only [a1, a2, a3, g1, bne_self_eq_false, vI, evRegion_st hok, Int.natCast_nonneg, Int.toNat_natCast, List.getElem?_map, List.length_map, ss, sd, zI, qG, zG, zH, St.get, qE, qF, qB, zD, norm, look, zF, qA, qI, St.alloc, St.drop, zA, part, zC, depth, qD, ↓reduceIte, Nat.reduceBEq, Nat.reduceAdd, Nat.reduceSub, Nat.reduceMul, Nat.reduceEqDiff, Nat.reduceLeDiff, Nat.reduceLT, qJ, qK, qL, qM, qN, qO, qP, qQ, qR, zJ, qS, qC, qT, evSlice0, qV, qW, qX, qY, qZ, zK, fixed, zL, wit, Option.isSome_some, qH, evSliceP, evPre, St.with, zE, Array.size, te, einl, inls, efr]
    exact ⟨(), trivial⟩
theorem inf36 : (drawn (Try.f36.body.getD .skip)).map infosOf = [[([], false), ([], false), ([], false), ([], false), ([], false), ([], false), ([], false), ([], false), ([], false), ([], false), ([1, 3, 4, 6, 8, 9], false), ([1, 3, 4, 6, 8, 9, 10], false), ([6, 8, 9], false), ([], true)]] := by decide +kernel
theorem okD36 : (drawn (Try.f36.body.getD .skip)).all okBad = true := by decide +kernel


set_option maxRecDepth 20000 in
set_option maxHeartbeats 8000000 in
theorem c36 (b : Blend) (h1 : b.lo.length ≤ 1000) (h2 : b.hi.length ≤ 1000) (h3 : b.cs.length ≤ 1000) (h4 : ∀ c ∈ b.cs, c.ps.length ≤ 1000) : (orcω E XS).call 36 [encBlend b, encBlend b] = some (.bool true) := by
  refine call_of rfl fn36 rfl ?_
  have hi := inf36
  have ho := okD36
  simp only [Try.f36, Option.getD_some, drawn, List.map_cons, List.map_nil, List.append_nil, List.nil_append, List.cons_append, List.cons.injEq, List.all_cons, List.all_nil, Bool.and_true, Bool.and_eq_true, and_true] at hi ho
  have k1 := c40s b.lo (by omega)
  have k2 := c40s b.hi (by omega)
  obtain ⟨tot, cs, lo, up⟩ := b
  simp only [encBlend]
  dsimp only at *
  simp (maxSteps := 1000000) (implicitDefEqProofs := false) only [Try.ntmps36, Try.results36, efc36, fc36, k1, k2, bne_self_eq_false, Bool.not_true, List.length_map, ss, sd, zI, qG, zG, zH, St.get, qE, qF, qB, zD, norm, look, zF, qA, qI, St.alloc, St.drop, zA, part, zC, depth, qD, ↓reduceIte, Nat.reduceBEq, Nat.reduceAdd, Nat.reduceSub, Nat.reduceMul, Nat.reduceEqDiff, Nat.reduceLeDiff, Nat.reduceLT, qJ, qK, qL, qM, qN, qO, qP, qQ, qR, zJ, qS, qC, qT, evSlice0, qV, qW, qX, qY, qZ, zK, fixed, zL, wit, Option.isSome_some, qH, evSliceP, evPre, St.with, zE, Array.size, te, einl, inls, efr]
  generalize hr : loopAt _ _ _ _ _ _ = r; revert r
  refine loop_list cs (fun pre _ => [(5, .int .i64 pre.length)]) (fun _ _ => []) (fun _ (_ : Unit) => True) () (by omega) (by simp (maxSteps := 1000000) (implicitDefEqProofs := false) only [List.length_nil, Int.natCast_zero, ss, sd, zI, qG, zG, zH, St.get, qE, qF, qB, zD, norm, look, zF, qA, qI, St.alloc, St.drop, zA, part, zC, depth, qD, ↓reduceIte, Nat.reduceBEq, Nat.reduceAdd, Nat.reduceSub, Nat.reduceMul, Nat.reduceEqDiff, Nat.reduceLeDiff, Nat.reduceLT, qJ, qK, qL, qM, qN, qO, qP, qQ, qR, zJ, qS, qC, qT, evSlice0, qV, qW, qX, qY, qZ, zK, fixed, zL, wit, Option.isSome_some, qH, evSliceP, evPre, St.with, zE, Array.size, te, einl, inls, efr]) trivial (fun _ _ => ?_) (fun pre x post _ hp _ g1 g2 g3 g4 => ?_)
  · simp (maxSteps := 1000000) (implicitDefEqProofs := false) only [Int.lt_irrefl, List.length_map, Try.ntmps36, Try.results36, efc36, fc36, ss, sd, zI, qG, zG, zH, St.get, qE, qF, qB, zD, norm, look, zF, qA, qI, St.alloc, St.drop, zA, part, zC, depth, qD, ↓reduceIte, Nat.reduceBEq, Nat.reduceAdd, Nat.reduceSub, Nat.reduceMul, Nat.reduceEqDiff, Nat.reduceLeDiff, Nat.reduceLT, qJ, qK, qL, qM, qN, qO, qP, qQ, qR, zJ, qS, qC, qT, evSlice0, qV, qW, qX, qY, qZ, zK, fixed, zL, wit, Option.isSome_some, qH, evSliceP, evPre, St.with, zE, Array.size, te, einl, inls, efr]
  · have k3 := c40s x.ps (by have := h4 x (by rw [hp]; simp); omega)
    simp (maxSteps := 1000000) (implicitDefEqProofs := false) only [g1, g2, g3, g4, k3, encCem, bne_self_eq_false, Bool.not_true, Int.natCast_nonneg, Int.toNat_natCast, List.getElem?_map, List.length_map, regT ho hi, evBT_nil, evBT_cons, effT_true, effT_false, effT2_some, effT2_none, calmT, free, Eff.writes, supp, isBar, Option.toList_some, Option.toList_none, ss, sd, zI, qG, zG, zH, St.get, qE, qF, qB, zD, norm, look, zF, qA, qI, St.alloc, St.drop, zA, part, zC, depth, qD, ↓reduceIte, Nat.reduceBEq, Nat.reduceAdd, Nat.reduceSub, Nat.reduceMul, Nat.reduceEqDiff, Nat.reduceLeDiff, Nat.reduceLT, qJ, qK, qL, qM, qN, qO, qP, qQ, qR, zJ, qS, qC, qT, evSlice0, qV, qW, qX, qY, qZ, zK, fixed, zL, wit, Option.isSome_some, qH, evSliceP, evPre, St.with, zE, Array.size, te, einl, inls, efr]
    exact ⟨(), trivial⟩
set_option maxRecDepth 20000 in
set_option maxHeartbeats 8000000 in
theorem c37 (a b : Blend) (ha : Valid a) (hb : Valid b) (h : Cheaper a b) : (orcω E XS).call 37 [encBlend a, encBlend b] = some (.bool true) := by
  refine call_of rfl fn37 rfl ?_
  have k1 := c18 a
  have k2 := c18 b
  have k3 := c33
  obtain ⟨n, d, s, m, e, t, e1, e2, e3⟩ := cheap_ok ha hb h
  rw [e1] at k1
  rw [e2] at k2
  obtain ⟨tot, cs, lo, up⟩ := a
  obtain ⟨tot', cs', lo', up'⟩ := b
  simp only [encBlend, encLst] at k1 k2 ⊢
  cases t with
  | false => simp (maxSteps := 1000000) (implicitDefEqProofs := false) only [Try.ntmps37, Try.results37, efc37, k1, k2, bne_self_eq_false, Bool.not_false, ss, sd, zI, qG, zG, zH, St.get, qE, qF, qB, zD, norm, look, zF, qA, qI, St.alloc, St.drop, zA, part, zC, depth, qD, ↓reduceIte, Nat.reduceBEq, Nat.reduceAdd, Nat.reduceSub, Nat.reduceMul, Nat.reduceEqDiff, Nat.reduceLeDiff, Nat.reduceLT, qJ, qK, qL, qM, qN, qO, qP, qQ, qR, zJ, qS, qC, qT, evSlice0, qV, qW, qX, qY, qZ, zK, fixed, zL, wit, Option.isSome_some, qH, evSliceP, evPre, St.with, zE, Array.size, te, einl, inls, efr]
  | true =>
    obtain ⟨rfl, r1, r2, hle⟩ := e3 rfl
    have k4 := k3 n d m e r1 r2
    have hc : cmpI (n * e) (m * d) ≤ 0 := cmpI_neg.2 hle
    simp (maxSteps := 1000000) (implicitDefEqProofs := false) only [Try.ntmps37, Try.results37, efc37, k1, k2, k4, hc, bne_self_eq_false, beq_self_eq_true, Bool.not_true, Bool.not_false, ss, sd, zI, qG, zG, zH, St.get, qE, qF, qB, zD, norm, look, zF, qA, qI, St.alloc, St.drop, zA, part, zC, depth, qD, ↓reduceIte, Nat.reduceBEq, Nat.reduceAdd, Nat.reduceSub, Nat.reduceMul, Nat.reduceEqDiff, Nat.reduceLeDiff, Nat.reduceLT, qJ, qK, qL, qM, qN, qO, qP, qQ, qR, zJ, qS, qC, qT, evSlice0, qV, qW, qX, qY, qZ, zK, fixed, zL, wit, Option.isSome_some, qH, evSliceP, evPre, St.with, zE, Array.size, te, einl, inls, efr]
end Go.AM.E
end

section
/-
The law: wider bounds are never dearer.
-/
namespace Go.AM.E
open Go Go.AM Go.RowKit Go.Proofs

theorem lowW_vI (l : List Int) : lowEL (l.map vI) = l.map vI := lowL_map (fun _ => rfl) l
theorem lowW_C (l : List Cem) : lowEL (l.map encCemT) = l.map encCem := lowL_map (fun c => by unfold encCemT encCem; simp only [lowE, lowEL, lowW_vI]) l
theorem lowW_F (l : List Cem) : lowEL (l.map encCem) = l.map encCem := lowL_map (fun c => by unfold encCem; simp only [lowE, lowEL, lowW_vI]) l
theorem lowW_blend (b : Blend) : low (encBlend b) = encBlend b := by unfold encBlend; simp only [low, lowL, lowW_vI, lowW_F]
end Go.AM.E
end

section
/-
What a widening looks like as an argument.
-/
namespace Go.AM.E
open Go Go.Proofs

end Go.AM.E
end

