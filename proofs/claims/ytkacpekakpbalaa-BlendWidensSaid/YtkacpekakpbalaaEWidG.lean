/- A part of the proof: the texts EWidP, EWid, EWidB, EWidC, EWidD, ERowX, one after another. No condition. -/
import Derived.Test.YtkacpekakpbalaaELeast
import Derived.Test.YtkacpekakpbalaaEFeas
import Derived.Test.YtkacpekakpbalaaEBlend
import Derived.Test.YtkacpekakpbalaaEMixP
import Derived.Test.YtkacpekakpbalaaAmNew
import Derived.Test.YtkacpekakpbalaaAmNat
import Derived.Test.YtkacpekakpbalaaAmLow
import Derived.Test.YtkacpekakpbalaaERowG
set_option linter.unusedVariables false
set_option linter.unusedSimpArgs false
set_option maxRecDepth 20000

section
/-
Wider bounds are never dearer (plain).
-/
namespace Go.AM.E
open Go Go.AM Go.Proofs

def Cheaper (a b : Blend) : Prop := ∀ z, FeasR b z → ∃ z', FeasR a z' ∧ costQ a z' ≤ costQ b z
theorem cheap_ok {a b : Blend} (ha : Valid a) (hb : Valid b) (h : Cheaper a b) :
    ∃ n d s m e t, leastR a = ((n, d), s, 0) ∧ leastR b = ((m, e), t, 0) ∧ (t = true → s = true ∧ Rat' (n, d) ∧ Rat' (m, e) ∧ n * e ≤ m * d) := by
  rcases solve_cases hb with ⟨x, p, hs, ho⟩ | ⟨p, hs, hp, hn⟩
  · obtain ⟨hf, hc⟩ := feas_ok ho.check
    obtain ⟨z, hz, hle⟩ := h _ hf
    rcases solve_cases ha with ⟨y, q, hs', ho'⟩ | ⟨q, hs', hq, hn'⟩
    rotate_left
    · exact absurd ⟨z, hz⟩ hn'
    obtain ⟨l1, _, l2, l3, _⟩ := least_yes hb hs ho
    obtain ⟨k1, _, k2, k3, _⟩ := least_yes ha hs' ho'
    refine ⟨_, _, _, _, _, _, k1, l1, fun _ => ⟨rfl, k3, l3, ?_⟩⟩
    have hl := ho'.least z hz
    have dx := den_pos ho.small.1
    have dy := den_pos ho'.small.1
    have key : costM a y.x * x.den ≤ costM b x.x * y.den := by
      rw [← cast_le, Rat.intCast_mul, Rat.intCast_mul, hc]
      have h1 := Rat.mul_le_mul_of_nonneg_right hl (show (0 : Rat) ≤ (x.den : Rat) by grind)
      have h2 := Rat.mul_le_mul_of_nonneg_left hle (show (0 : Rat) ≤ (y.den : Rat) * (x.den : Rat) from Rat.mul_nonneg (by grind) (by grind))
      grind
    exact make_le (n := costM b x.x) (d := x.den) (m := costM a y.x) (e := y.den) ho.small.1 ho'.small.1 (by rw [← l2]) (by rw [← k2]) key
  · have hl := least_no hs
    rcases solve_cases ha with ⟨y, q, hs', ho'⟩ | ⟨q, hs', hq, hn'⟩
    · obtain ⟨k1, _⟩ := least_yes ha hs' ho'
      exact ⟨_, _, _, _, _, _, k1, hl, fun h => by cases h⟩
    · exact ⟨_, _, _, _, _, _, least_no hs', hl, fun h => by cases h⟩

def bNil : Blend := ⟨0, [], [], []⟩
def wLo (b : Blend) (p : Nat) (m : Int) : List Int := b.lo.set p (max 0 (b.lo.getD p 0 - m))
def wHi (b : Blend) (p : Nat) (m : Int) : List Int := b.hi.set p (min 20 (b.hi.getD p 0 + m))
def widenB (b : Blend) (p : Nat) (m : Int) : Blend := ⟨b.tot, b.cs, wLo b p m, wHi b p m⟩
def widenR (b : Blend) (p m : Int) : Blend × Int :=
  if errV b ≠ 0 then (bNil, errV b) else if inB p 0 (b.lo.length - 1) = false then (bNil, 5) else if inB m 0 20 = false then (bNil, 1) else (widenB b p.toNat m, 0)
theorem wid_getD (l : List Int) (p k : Nat) (v : Int) : (l.set p v).getD k 0 = if k = p ∧ p < l.length then v else l.getD k 0 := by
  rw [List.getD_eq_getElem?_getD, List.getD_eq_getElem?_getD, List.getElem?_set]
  by_cases h : p = k
  · subst h
    by_cases h2 : p < l.length
    · simp [h2]
    · simp [h2, List.getElem?_eq_none (show l.length ≤ p by omega)]
  · rw [if_neg h, if_neg (fun hh => h hh.1.symm)]
theorem wid_all {l : List Int} {p : Nat} {v : Int} (h : ∀ n ∈ l, 0 ≤ n ∧ n ≤ 20) (hv : 0 ≤ v ∧ v ≤ 20) : ∀ n ∈ l.set p v, 0 ≤ n ∧ n ≤ 20 := by
  intro n hn
  rcases List.mem_or_eq_of_mem_set hn with h1 | h1
  · exact h n h1
  · rw [h1]; exact hv
theorem wLo_le {b : Blend} (hb : Valid b) {p : Nat} {m : Int} (hm : 0 ≤ m) {k : Nat} (hk : k < b.lo.length) : (wLo b p m).getD k 0 ≤ b.lo.getD k 0 := by
  unfold wLo
  rw [wid_getD]
  split
  · rename_i h
    have := hb.2.2.2.2.1 (b.lo.getD k 0) (by rw [getD_in hk]; exact List.getElem_mem _)
    obtain ⟨h, _⟩ := h
    subst h
    omega
  · omega
theorem wHi_le {b : Blend} (hb : Valid b) {p : Nat} {m : Int} (hm : 0 ≤ m) {k : Nat} (hk : k < b.lo.length) : b.hi.getD k 0 ≤ (wHi b p m).getD k 0 := by
  unfold wHi
  rw [wid_getD]
  split
  · rename_i h
    have := hb.2.2.2.2.2.1 (b.hi.getD k 0) (by rw [getD_in (by have := hb.2.2.2.1; omega)]; exact List.getElem_mem _)
    obtain ⟨h, _⟩ := h
    subst h
    omega
  · omega
theorem wid_lo {b : Blend} (hb : Valid b) {p : Nat} (hp : p < b.lo.length) : 0 ≤ b.lo.getD p 0 ∧ b.lo.getD p 0 ≤ 20 := hb.2.2.2.2.1 _ (by rw [getD_in hp]; exact List.getElem_mem _)
theorem wid_hi {b : Blend} (hb : Valid b) {p : Nat} (hp : p < b.lo.length) : 0 ≤ b.hi.getD p 0 ∧ b.hi.getD p 0 ≤ 20 := hb.2.2.2.2.2.1 _ (by rw [getD_in (by have := hb.2.2.2.1; omega)]; exact List.getElem_mem _)
theorem widen_valid {b : Blend} (hb : Valid b) {p : Nat} (hp : p < b.lo.length) {m : Int} (hm : 0 ≤ m ∧ m ≤ 20) : Valid (widenB b p m) := by
  have h1 := wid_lo hb hp
  have h2 := wid_hi hb hp
  refine ⟨hb.1, hb.2.1, ?_, ?_, ?_, ?_, ?_, ?_⟩
  · show (b.lo.set _ _).length ≤ 3
    rw [List.length_set]
    exact hb.2.2.1
  · show (b.hi.set _ _).length = (b.lo.set _ _).length
    rw [List.length_set, List.length_set]
    exact hb.2.2.2.1
  · exact wid_all hb.2.2.2.2.1 (by omega)
  · exact wid_all hb.2.2.2.2.2.1 (by omega)
  · intro k hk
    have hk : k < b.lo.length := by
      have : (b.lo.set p (max 0 (b.lo.getD p 0 - m))).length = b.lo.length := List.length_set
      show k < b.lo.length
      change k < (b.lo.set _ _).length at hk
      omega
    have g1 := wLo_le hb (p := p) hm.1 hk
    have g2 := wHi_le hb (p := p) hm.1 hk
    have g3 := hb.2.2.2.2.2.2.1 k hk
    show (wLo b p m).getD k 0 ≤ (wHi b p m).getD k 0
    omega
  · intro c hc
    have : (widenB b p m).lo.length = b.lo.length := List.length_set
    rw [this]
    exact hb.2.2.2.2.2.2.2 c hc
theorem widen_cheaper {b : Blend} (hb : Valid b) {p : Nat} {m : Int} (hm : 0 ≤ m ∧ m ≤ 20) : Cheaper (widenB b p m) b := by
  intro z hz
  refine ⟨z, ⟨hz.1, hz.2.1, fun k hk => ?_⟩, Rat.le_refl⟩
  have hk : k < b.lo.length := by
    have : (widenB b p m).lo.length = b.lo.length := List.length_set
    omega
  obtain ⟨h1, h2⟩ := hz.2.2 k hk
  have ht : 0 ≤ b.tot := by have := hb.1; omega
  have g1 := cast_le.2 (Int.mul_le_mul_of_nonneg_left (wLo_le hb (p := p) hm.1 hk) ht)
  have g2 := cast_le.2 (Int.mul_le_mul_of_nonneg_left (wHi_le hb (p := p) hm.1 hk) ht)
  exact ⟨Rat.le_trans g1 h1, Rat.le_trans h2 g2⟩
end Go.AM.E
end

section
/-
Copies of blends.
-/
namespace Go.AM.E
open Go Go.AM Go.Proofs

theorem wid_bare (l : List Int) : bareL (l.map vI) = true := bareL_map (fun _ => rfl) l
set_option maxRecDepth 20000 in
set_option maxHeartbeats 4000000 in
theorem c96 (l : List Int) (hn : l.length ≤ 1000000) : (orcω E XS).call 96 [.sl false (l.map vI)] = some (.sl true (l.map vI)) := by
  cases l with
  | nil =>
    refine (orcω_le 0).call _ _ _ ?_
    simp only [orc, XS, XK, X9, cloneAt, if_true, List.map_nil]
  | cons x r =>
    have h1 : nilTest (.sl false ((x :: r).map vI)) = some false := rfl
    have h2 := wid_bare (x :: r)
    refine call_of rfl fn96 rfl ?_
    generalize (x :: r) = l at *
    have h3 : roomy l.length 8 = true := by unfold roomy; simp; omega
    have h4 : l.length ≤ 4294967296 := by omega
    simp (maxSteps := 1000000) (implicitDefEqProofs := false) only [Try.ntmps96, Try.results96, efc96, fc96, h1, h2, h3, h4, List.length_map, ss, sd, zI, qG, zG, zH, St.get, qE, qF, qB, zD, norm, look, zF, qA, qI, St.alloc, St.drop, zA, part, zC, depth, qD, ↓reduceIte, Nat.reduceBEq, Nat.reduceAdd, Nat.reduceSub, Nat.reduceMul, Nat.reduceEqDiff, Nat.reduceLeDiff, Nat.reduceLT, qJ, qK, qL, qM, qN, qO, qP, qQ, qR, zJ, qS, qC, qT, qU, qV, qW, qX, qY, qZ, zK, fixed, zL, wit, Option.isSome_some, qH, St.with, zE, Array.size, te, einl, inls, efr]
set_option maxRecDepth 20000 in
set_option maxHeartbeats 4000000 in
theorem c97 (l : List Cem) (hl : l ≠ []) (hn : l.length ≤ 1000000) : ∃ sl, (orcω E XS).inl 1000 97 [.sl false (l.map encCem)] { slots := [], outer := [], objs := [] } = some (.own 1002 0 l.length, { slots := sl, outer := [], objs := [(1002, { es := 3, flat := true, t := false, app := true, elems := l.map encCem })] }) := by
  refine (fun h : ∃ sl : List V, _ = some (V.own 1002 0 l.length, ({ slots := sl, outer := [], objs := [(1002, { es := 3, flat := true, t := false, app := true, elems := l.map encCem })] } : St)) => h.elim fun sl h => ⟨sl, inl_of rfl fn97 rfl h⟩) ?_
  have h1 : nilTest (.sl false (l.map encCem)) = some false := by
    cases l with
    | nil => exact absurd rfl hl
    | cons x r => rfl
  have h2 : bareL (l.map encCem) = false := by
    cases l with
    | nil => exact absurd rfl hl
    | cons x r => rfl
  have h3 : roomy l.length 40 = true := by unfold roomy; simp; omega
  have h4 : l.length ≤ 4294967296 := by omega
  have h5 : sized 3 (l.map encCem) = true := sized_map (fun c => ⟨[.int .i64 c.st, .int .i64 c.co, .sl false (c.ps.map vI)], rfl, rfl⟩) l
  simp (maxSteps := 1000000) (implicitDefEqProofs := false) only [Try.ntmps97, Try.results97, efc97, fc97, h1, h2, h3, h4, h5, List.length_map, ss, sd, zI, qG, zG, zH, St.get, qE, qF, qB, zD, norm, look, zF, qA, qI, St.alloc, St.drop, zA, part, zC, depth, qD, ↓reduceIte, Nat.reduceBEq, Nat.reduceAdd, Nat.reduceSub, Nat.reduceMul, Nat.reduceEqDiff, Nat.reduceLeDiff, Nat.reduceLT, qJ, qK, qL, qM, qN, qO, qP, qQ, qR, zJ, qS, qC, qT, qU, qV, qW, qX, qY, qZ, zK, fixed, zL, wit, Option.isSome_some, qH, St.with, zE, Array.size, te, einl, inls, efr]
  exact ⟨_, rfl⟩

theorem inf34 : (drawn (Try.f34.body.getD .skip)).map infosOf = [[([], false), ([], false), ([], false), ([], false), ([], false), ([], false), ([], false), ([], false), ([], false), ([], false), ([], false), ([], true), ([], true)], [([], false), ([], false), ([], false), ([], false), ([], false), ([], false), ([], false), ([], false), ([], false), ([], false), ([], false), ([], true), ([], true)]] := by decide +kernel
theorem okD34 : (drawn (Try.f34.body.getD .skip)).all okBad = true := by decide +kernel
theorem inf74 : (drawn (Try.f74.body.getD .skip)).map infosX = [[([], false), ([], false), ([], false), ([], false), ([2], false), ([], false), ([], false), ([2, 5], false), ([], false), ([], false), ([], true), ([], true), ([], true), ([], true), ([], true)], [([], false), ([], false), ([], false), ([], false), ([], false), ([], false), ([], false), ([], false), ([], false), ([1], false), ([], true), ([], true), ([], true)]] := by decide +kernel
theorem okD74 : (drawn (Try.f74.body.getD .skip)).all okBadX = true := by decide +kernel
def encCemT (c : Cem) : V := .agg [.int .i64 c.st, .int .i64 c.co, .sl true (c.ps.map vI)]
def mixC (cs : List Cem) (k : Nat) : List V := (cs.take k).map encCemT ++ (cs.drop k).map encCem
theorem cmix_len (cs : List Cem) (k : Nat) : (mixC cs k).length = cs.length := by unfold mixC; simp; omega
theorem cmix_get {cs : List Cem} {k : Nat} {c : Cem} (h : cs[k]? = some c) : (mixC cs k)[k]? = some (encCem c) := by
  obtain ⟨hk, e⟩ := List.getElem?_eq_some_iff.1 h
  have hl : ((cs.take k).map encCemT).length = k := by simp; omega
  unfold mixC
  rw [List.getElem?_append_right (by omega), hl, Nat.sub_self, List.getElem?_map, List.getElem?_drop, Nat.add_zero, h]
  rfl
theorem cmix_set {cs : List Cem} {k : Nat} {c : Cem} (h : cs[k]? = some c) : (mixC cs k).set k (encCemT c) = mixC cs (k + 1) := by
  obtain ⟨hk, e⟩ := List.getElem?_eq_some_iff.1 h
  have hl : ((cs.take k).map encCemT).length = k := by simp; omega
  unfold mixC
  rw [List.set_append_right _ _ (by omega), hl, Nat.sub_self, List.drop_eq_getElem_cons hk, List.map_cons, List.set_cons_zero, List.take_add_one, h]
  simp
theorem cmix_zero (cs : List Cem) : mixC cs 0 = cs.map encCem := by simp [mixC]
theorem cmix_all (cs : List Cem) : mixC cs cs.length = cs.map encCemT := by simp [mixC]
def ob34 (b : Blend) : List (Nat × Ob) := [(3, { es := 4, flat := true, t := false, app := false, elems := [encBlend b] }), (6, { es := 4, flat := true, t := true, app := false, elems := [.agg [.int .i64 0, .emp, .emp, .emp]] })]
def ob74 (b : Blend) : List (Nat × Ob) := [(3, { es := 4, flat := true, t := false, app := false, elems := [encBlend b] }), (6, { es := 4, flat := true, t := true, app := false, elems := [.agg [.int .i64 0, .emp, .emp, .emp]] }),
  (1001, { es := 4, flat := false, t := false, app := false, elems := [.agg [.int .i64 b.tot, .own 1012 0 b.cs.length, .own 1006 0 b.lo.length, .own 1009 0 b.hi.length]] }),
  (1002, { es := 4, flat := false, t := true, app := false, elems := [.agg [.int .i64 b.tot, .own 1012 0 b.cs.length, .own 1006 0 b.lo.length, .own 1009 0 b.hi.length]] }),
  (1006, { es := 1, flat := true, t := true, app := false, elems := b.lo.map vI }), (1009, { es := 1, flat := true, t := true, app := false, elems := b.hi.map vI }), (1012, { es := 3, flat := true, t := false, app := true, elems := b.cs.map encCemT })]
set_option maxRecDepth 20000 in
set_option maxHeartbeats 8000000 in
theorem c74 (outer : List (List V)) (b : Blend) (hb : Valid b) : ∃ sl, (orcω E XS).inl 1000 74 [encBlend b] { slots := [], outer := outer, objs := ob34 b } = some (.agg [.int .i64 b.tot, .own 1012 0 b.cs.length, .own 1006 0 b.lo.length, .own 1009 0 b.hi.length], { slots := sl, outer := killAll 1002 (killAll 1001 outer), objs := ob74 b }) := by
  refine (fun h : ∃ sl : List V, _ = some (V.agg [.int .i64 b.tot, .own 1012 0 b.cs.length, .own 1006 0 b.lo.length, .own 1009 0 b.hi.length], ({ slots := sl, outer := killAll 1002 (killAll 1001 outer), objs := ob74 b } : St)) => h.elim fun sl h => ⟨sl, inl_of rfl fn74 rfl h⟩) ?_
  have hi := inf74
  have ho := okD74
  simp only [Try.f74, Option.getD_some, drawn, List.map_cons, List.map_nil, List.append_nil, List.nil_append, List.cons_append, List.cons.injEq, List.all_cons, List.all_nil, Bool.and_true, Bool.and_eq_true, and_true] at hi ho
  obtain ⟨hi1, hi2⟩ := hi
  obtain ⟨ho1, ho2⟩ := ho
  have k1 := c96 b.lo (by have := hb.2.2.1; omega)
  have k2 := c96 b.hi (by have := hb.2.2.1; have := hb.2.2.2.1; omega)
  obtain ⟨sl97, k3⟩ := c97 b.cs (by intro h; have := hb.2.1; rw [h] at this; simp at this) (by have := hb.2.1; omega)
  have q1 := sized_vI b.lo
  have q2 := sized_vI b.hi
  obtain ⟨tot, cs, lo, up⟩ := b
  simp only [encBlend, ob34, ob74] at k3 ⊢
  dsimp only at *
  simp (maxSteps := 1000000) (implicitDefEqProofs := false) only [Try.ntmps74, Try.results74, efc74, fc74, regN ho1 hi1, evNT_nil, evNT_cons, effN_true, effN_false, effN2_some, effN2_none, effX, effNew, effFreshed, effThaw, suppX, calmT, free, Eff.writes, supp, isBarX, Option.toList_some, Option.toList_none, reduceCtorEq, if_false, k1, k2, k3, q1, q2, List.length_map, ss, sd, zI, qG, zG, zH, St.get, qE, qF, qB, zD, norm, look, zF, qA, qI, St.alloc, St.drop, zA, part, zC, depth, qD, ↓reduceIte, Nat.reduceBEq, Nat.reduceAdd, Nat.reduceSub, Nat.reduceMul, Nat.reduceEqDiff, Nat.reduceLeDiff, Nat.reduceLT, qJ, qK, qL, qM, qN, qO, qP, qQ, qR, zJ, qS, qC, qT, qU, qV, qW, qX, qY, qZ, zK, fixed, zL, wit, Option.isSome_some, qH, St.with, zE, Array.size, te, einl, inls, efr]
  generalize hr : loopAt _ _ _ _ _ _ = r; revert r
  refine loop_list cs (fun pre _ => [(19, .int .i64 pre.length)]) (fun pre _ => [(1012, { es := 3, flat := true, t := false, app := true, elems := mixC cs pre.length })]) (fun _ (_ : Unit) => True) () (by have := hb.2.1; dsimp only at this; omega) (by simp (maxSteps := 1000000) (implicitDefEqProofs := false) only [cmix_zero, List.length_nil, Int.natCast_zero, ss, sd, zI, qG, zG, zH, St.get, qE, qF, qB, zD, norm, look, zF, qA, qI, St.alloc, St.drop, zA, part, zC, depth, qD, ↓reduceIte, Nat.reduceBEq, Nat.reduceAdd, Nat.reduceSub, Nat.reduceMul, Nat.reduceEqDiff, Nat.reduceLeDiff, Nat.reduceLT, qJ, qK, qL, qM, qN, qO, qP, qQ, qR, zJ, qS, qC, qT, qU, qV, qW, qX, qY, qZ, zK, fixed, zL, wit, Option.isSome_some, qH, St.with, zE, Array.size, te, einl, inls, efr]) trivial (fun _ _ => ?_) (fun pre x post _ hp _ g1 g2 g3 g4 => ?_)
  · simp (maxSteps := 1000000) (implicitDefEqProofs := false) only [Int.lt_irrefl, cmix_all, List.length_map, Try.ntmps74, Try.results74, efc74, fc74, ss, sd, zI, qG, zG, zH, St.get, qE, qF, qB, zD, norm, look, zF, qA, qI, St.alloc, St.drop, zA, part, zC, depth, qD, ↓reduceIte, Nat.reduceBEq, Nat.reduceAdd, Nat.reduceSub, Nat.reduceMul, Nat.reduceEqDiff, Nat.reduceLeDiff, Nat.reduceLT, qJ, qK, qL, qM, qN, qO, qP, qQ, qR, zJ, qS, qC, qT, qU, qV, qW, qX, qY, qZ, zK, fixed, zL, wit, Option.isSome_some, qH, St.with, zE, Array.size, te, einl, inls, efr]
    exact ⟨_, rfl⟩
  · have k4 := c96 x.ps (by have := (cemOk_iff.1 (hb.2.2.2.2.2.2.2 x (by rw [hp]; simp))).2.2.1; have := hb.2.2.1; omega)
    have g5 := cmix_get g3
    have g6 := cmix_set g3
    have g7 := cmix_len cs pre.length
    have g8 : pre.length + 1 = (pre ++ [x]).length := by simp
    simp only [encCem] at g5
    simp only [encCemT, g8] at g6
    simp (maxSteps := 1000000) (implicitDefEqProofs := false) only [g1, g2, g3, g4, g5, g6, g7, k4, regN ho2 hi2, evNT_nil, evNT_cons, effN_true, effN_false, effN2_some, effN2_none, effX, effNew, effFreshed, effThaw, suppX, calmT, free, Eff.writes, supp, isBarX, Option.toList_some, Option.toList_none, reduceCtorEq, if_false, Int.natCast_nonneg, Int.toNat_natCast, List.length_map, ss, sd, zI, qG, zG, zH, St.get, qE, qF, qB, zD, norm, look, zF, qA, qI, St.alloc, St.drop, zA, part, zC, depth, qD, ↓reduceIte, Nat.reduceBEq, Nat.reduceAdd, Nat.reduceSub, Nat.reduceMul, Nat.reduceEqDiff, Nat.reduceLeDiff, Nat.reduceLT, qJ, qK, qL, qM, qN, qO, qP, qQ, qR, zJ, qS, qC, qT, qU, qV, qW, qX, qY, qZ, zK, fixed, zL, wit, Option.isSome_some, qH, St.with, zE, Array.size, te, einl, inls, efr]
    exact ⟨(), trivial⟩
def encBlendC (b : Blend) : V := .agg [.int .i64 b.tot, .sl false (b.cs.map encCemT), .sl true (b.lo.map vI), .sl true (b.hi.map vI)]
theorem set_wLo {b : Blend} {p : Nat} {m : Int} : (b.lo.map vI).set p (.int .i64 (max 0 (b.lo.getD p 0 - m))) = (wLo b p m).map vI := by unfold wLo; rw [List.map_set]; rfl
theorem set_wHi {b : Blend} {p : Nat} {m : Int} : (b.hi.map vI).set p (.int .i64 (min 20 (b.hi.getD p 0 + m))) = (wHi b p m).map vI := by unfold wHi; rw [List.map_set]; rfl
theorem wid_take (l : List Int) {n : Nat} (h : l.length = n) : (l.map vI).take n = l.map vI := List.take_of_length_le (by rw [List.length_map]; omega)
set_option maxRecDepth 20000 in
set_option maxHeartbeats 8000000 in
theorem c34 (b : Blend) (hb : Valid b) (p : Nat) (m : Int) (hp : p < b.lo.length) (hm : inB m 0 20 = true) : (orcω E XS).call 34 [encBlend b, .int .i64 (p : Nat), .int .i64 m] = some (.tup [encBlendC (widenB b p m), .int .i64 0]) := by
  refine call_of rfl fn34 rfl ?_
  have k15 := c15 b
  rw [errV_yes hb] at k15
  have k47 := c47 p 0 (b.lo.length - 1)
  have k47' := c47 m 0 20
  rw [inB_iff.2 (by omega)] at k47
  rw [hm] at k47'
  have w1 : IntKind.i64.wrap ((b.lo.length : Int) - 1) = b.lo.length - 1 := by have := hb.2.2.1; exact wrap_in (by omega)
  have n1 := wid_lo hb hp
  have n2 := wid_hi hb hp
  have n3 := inB_iff.1 hm
  have p1 : (p : Int) < b.lo.length := by omega
  have p2 : (p : Int) < b.hi.length := by have := hb.2.2.2.1; omega
  have g1 : b.lo[p]? = some (b.lo.getD p 0) := by rw [getD_in hp]; exact List.getElem?_eq_getElem hp
  have g2 : b.hi[p]? = some (b.hi.getD p 0) := by rw [getD_in (by omega)]; exact List.getElem?_eq_getElem (by omega)
  have w2 : IntKind.i64.wrap (b.lo.getD p 0 - m) = b.lo.getD p 0 - m := wrap_in (by omega)
  have w3 : IntKind.i64.wrap (b.hi.getD p 0 + m) = b.hi.getD p 0 + m := wrap_in (by omega)
  have s1 := set_wLo (b := b) (p := p) (m := m)
  have s2 := set_wHi (b := b) (p := p) (m := m)
  have s3 := wid_take (wLo b p m) (n := b.lo.length) List.length_set
  have s4 := wid_take (wHi b p m) (n := b.hi.length) List.length_set
  have s5 : (wLo b p m).length = b.lo.length := List.length_set
  have s6 : (wHi b p m).length = b.hi.length := List.length_set
  unfold widenB encBlendC
  generalize wLo b p m = wl at *
  generalize wHi b p m = wh at *
  obtain ⟨f, k74⟩ := Classical.skolem.1 (fun outer => c74 outer b hb)
  have hi := inf34
  have ho := okD34
  simp only [Try.f34, Option.getD_some, drawn, List.map_cons, List.map_nil, List.append_nil, List.nil_append, List.cons_append, List.cons.injEq, List.all_cons, List.all_nil, Bool.and_true, Bool.and_eq_true, and_true] at hi ho
  obtain ⟨hi1, hi2⟩ := hi
  obtain ⟨ho1, ho2⟩ := ho
  obtain ⟨tot, cs, lo, up⟩ := b
  simp only [encBlend, ob34, ob74] at k15 k74 ⊢
  dsimp only at *
  simp (maxSteps := 1000000) (implicitDefEqProofs := false) only [Try.ntmps34, Try.results34, efc34, fc34, k74, regT ho1 hi1, regT ho2 hi2, evBT_nil, evBT_cons, effT_true, effT_false, effT2_some, effT2_none, calmT, free, Eff.writes, supp, isBar, reduceCtorEq, if_false, p1, p2, g1, g2, w2, w3, s1, s2, s3, s4, s5, s6, Nat.le_refl, vI_def, Int.natCast_nonneg, Int.toNat_natCast, List.getElem?_map, k15, k47, k47', w1, bne_self_eq_false, List.length_map, Bool.not_true, ss, sd, zI, qG, zG, zH, St.get, qE, qF, qB, zD, norm, look, zF, qA, qI, St.alloc, St.drop, zA, part, zC, depth, qD, ↓reduceIte, Nat.reduceBEq, Nat.reduceAdd, Nat.reduceSub, Nat.reduceMul, Nat.reduceEqDiff, Nat.reduceLeDiff, Nat.reduceLT, qJ, qK, qL, qM, qN, qO, qP, qQ, qR, zJ, qS, qC, qT, qU, qV, qW, qX, qY, qZ, zK, fixed, zL, wit, Option.isSome_some, qH, St.with, zE, Array.size, te, einl, inls, efr]
end Go.AM.E
end

section
/-
Wider bounds: errors, and the document's form.
-/
namespace Go.AM.E
open Go Go.AM Go.Proofs

section
variable {E : Env} {X : Ext} {fc : FC} {base : Nat} {b : Code}
theorem loop_st {ι : Type} {K : Option (Ex × St) → Prop} {s0 : St} (S : ι → St) (m : ι → Nat) (i0 : ι) (h0 : s0 = S i0)
    (h : ∀ i, after fc b (den E X fc base b (S i)) (fun s => ∃ i', s = S i' ∧ m i' < m i) (fun q => K (some q))) : ∀ r, loopAt E X fc base b s0 = r → K r := by
  rintro r rfl
  have key : ∀ (n : Nat) (i : ι), m i < n → K (loopAt E X fc base b (S i)) := by
    intro n
    induction n with
    | zero => intro i hm; omega
    | succ n ih =>
      intro i hm
      have ha := h i
      unfold loopAt
      cases hd : den E X fc base b (S i) with
      | none => rw [hd] at ha; exact ha.elim
      | some p =>
        obtain ⟨e, s⟩ := p
        rw [hd] at ha
        cases e with
        | normal =>
          obtain ⟨i', h1, h3⟩ := ha
          rw [andThen_normal, den_loopAt, h1]
          exact ih i' (by omega)
        | exit i => exact ha
        | ret => exact ha
  have := key (m i0 + 1) i0 (Nat.lt_succ_self _)
  rwa [← h0] at this
end
theorem inf35 : (drawn (Try.f35.body.getD .skip)).map infosOf = [[([], false), ([], false), ([], false), ([], false), ([], false), ([], false), ([], false), ([], false), ([], false), ([], false), ([], false), ([], true), ([], true)], [([], false), ([], false), ([], false), ([], false), ([], false), ([], false), ([], false), ([], false), ([], false), ([], false), ([], false), ([], true), ([], true)]] := by decide +kernel
theorem okD35 : (drawn (Try.f35.body.getD .skip)).all okBad = true := by decide +kernel
set_option maxRecDepth 20000 in
set_option maxHeartbeats 8000000 in
theorem c34e (b : Blend) (p m : Int) (h : errV b = 1 ∨ (Valid b ∧ (inB p 0 (b.lo.length - 1) = false ∨ inB m 0 20 = false))) : (orcω E XS).call 34 [encBlend b, .int .i64 p, .int .i64 m] = some (.tup [.agg [.int .i64 0, .sl true [], .sl true [], .sl true []], .int .i64 (widenR b p m).2]) := by
  refine call_of rfl fn34 rfl ?_
  have k15 := c15 b
  have k47 := c47 p 0 (b.lo.length - 1)
  have k47' := c47 m 0 20
  unfold widenR
  rcases h with h | ⟨hb, h⟩
  · rw [h] at k15 ⊢
    rw [if_pos (by decide)]
    obtain ⟨tot, cs, lo, up⟩ := b
    simp only [encBlend] at k15 ⊢
    dsimp only at *
    simp (maxSteps := 1000000) (implicitDefEqProofs := false) only [Try.ntmps34, Try.results34, efc34, fc34, k15, show ((1 : Int) != 0) = true by decide, ss, sd, zI, qG, zG, zH, St.get, qE, qF, qB, zD, norm, look, zF, qA, qI, St.alloc, St.drop, zA, part, zC, depth, qD, ↓reduceIte, Nat.reduceBEq, Nat.reduceAdd, Nat.reduceSub, Nat.reduceMul, Nat.reduceEqDiff, Nat.reduceLeDiff, Nat.reduceLT, qJ, qK, qL, qM, qN, qO, qP, qQ, qR, zJ, qS, qC, qT, qU, qV, qW, qX, qY, qZ, zK, fixed, zL, wit, Option.isSome_some, qH, St.with, zE, Array.size, te, einl, inls, efr]
  · have w1 : IntKind.i64.wrap ((b.lo.length : Int) - 1) = b.lo.length - 1 := by have := hb.2.2.1; exact wrap_in (by omega)
    rw [errV_yes hb] at k15 ⊢
    rw [if_neg (by decide)]
    obtain ⟨tot, cs, lo, up⟩ := b
    simp only [encBlend] at k15 ⊢
    dsimp only at *
    cases h1 : inB p 0 (lo.length - 1) with
    | false =>
      rw [h1] at k47
      simp (maxSteps := 1000000) (implicitDefEqProofs := false) only [Try.ntmps34, Try.results34, efc34, fc34, k15, k47, w1, bne_self_eq_false, List.length_map, Bool.not_false, ss, sd, zI, qG, zG, zH, St.get, qE, qF, qB, zD, norm, look, zF, qA, qI, St.alloc, St.drop, zA, part, zC, depth, qD, ↓reduceIte, Nat.reduceBEq, Nat.reduceAdd, Nat.reduceSub, Nat.reduceMul, Nat.reduceEqDiff, Nat.reduceLeDiff, Nat.reduceLT, qJ, qK, qL, qM, qN, qO, qP, qQ, qR, zJ, qS, qC, qT, qU, qV, qW, qX, qY, qZ, zK, fixed, zL, wit, Option.isSome_some, qH, St.with, zE, Array.size, te, einl, inls, efr]
    | true =>
      rw [h1] at k47 h
      cases h2 : inB m 0 20 with
      | false =>
        rw [h2] at k47'
        simp (maxSteps := 1000000) (implicitDefEqProofs := false) only [Try.ntmps34, Try.results34, efc34, fc34, k15, k47, k47', w1, bne_self_eq_false, List.length_map, Bool.not_true, Bool.not_false, Bool.true_eq_false, if_false, ss, sd, zI, qG, zG, zH, St.get, qE, qF, qB, zD, norm, look, zF, qA, qI, St.alloc, St.drop, zA, part, zC, depth, qD, ↓reduceIte, Nat.reduceBEq, Nat.reduceAdd, Nat.reduceSub, Nat.reduceMul, Nat.reduceEqDiff, Nat.reduceLeDiff, Nat.reduceLT, qJ, qK, qL, qM, qN, qO, qP, qQ, qR, zJ, qS, qC, qT, qU, qV, qW, qX, qY, qZ, zK, fixed, zL, wit, Option.isSome_some, qH, St.with, zE, Array.size, te, einl, inls, efr]
      | true =>
        rw [h2] at h
        rcases h with h | h <;> cases h
set_option maxRecDepth 20000 in
set_option maxHeartbeats 8000000 in
theorem c35e (b : Blend) (p m : Int) (h : errV b = 1 ∨ (Valid b ∧ (inB p 0 (b.lo.length - 1) = false ∨ inB m 0 20 = false))) : (orcω E XS).call 35 [encBlend b, .int .i64 p, .int .i64 m] = some (.tup [.agg [.int .i64 0, .sl true [], .sl true [], .sl true []], .int .i64 (widenR b p m).2]) := by
  refine call_of rfl fn35 rfl ?_
  have k15 := c16 b
  have k47' := c49 m 0 20
  unfold widenR
  rcases h with h | ⟨hb, h⟩
  · rw [h] at k15 ⊢
    rw [if_pos (by decide)]
    obtain ⟨tot, cs, lo, up⟩ := b
    simp only [encBlend] at k15 ⊢
    simp (maxSteps := 1000000) (implicitDefEqProofs := false) only [Try.ntmps35, Try.results35, efc35, fc35, k15, show ((1 : Int) != 0) = true by decide, ss, sd, zI, qG, zG, zH, St.get, qE, qF, qB, zD, norm, look, zF, qA, qI, St.alloc, St.drop, zA, part, zC, depth, qD, ↓reduceIte, Nat.reduceBEq, Nat.reduceAdd, Nat.reduceSub, Nat.reduceMul, Nat.reduceEqDiff, Nat.reduceLeDiff, Nat.reduceLT, qJ, qK, qL, qM, qN, qO, qP, qQ, qR, zJ, qS, qC, qT, qU, qV, qW, qX, qY, qZ, zK, fixed, zL, wit, Option.isSome_some, qH, St.with, zE, Array.size, te, einl, inls, efr]
  · rw [errV_yes hb] at k15 ⊢
    rw [if_neg (by decide)]
    obtain ⟨tot, cs, lo, up⟩ := b
    simp only [encBlend] at k15 ⊢
    by_cases n1 : p < 0
    · have h1 : inB p 0 (lo.length - 1) = false := by rw [Bool.eq_false_iff]; intro hh; have := inB_iff.1 hh; omega
      simp (maxSteps := 1000000) (implicitDefEqProofs := false) only [Try.ntmps35, Try.results35, efc35, fc35, k15, n1, h1, bne_self_eq_false, List.length_map, ss, sd, zI, qG, zG, zH, St.get, qE, qF, qB, zD, norm, look, zF, qA, qI, St.alloc, St.drop, zA, part, zC, depth, qD, ↓reduceIte, Nat.reduceBEq, Nat.reduceAdd, Nat.reduceSub, Nat.reduceMul, Nat.reduceEqDiff, Nat.reduceLeDiff, Nat.reduceLT, qJ, qK, qL, qM, qN, qO, qP, qQ, qR, zJ, qS, qC, qT, qU, qV, qW, qX, qY, qZ, zK, fixed, zL, wit, Option.isSome_some, qH, St.with, zE, Array.size, te, einl, inls, efr]
    by_cases n2 : (lo.length : Int) ≤ p
    · have h1 : inB p 0 (lo.length - 1) = false := by rw [Bool.eq_false_iff]; intro hh; have := inB_iff.1 hh; omega
      simp (maxSteps := 1000000) (implicitDefEqProofs := false) only [Try.ntmps35, Try.results35, efc35, fc35, k15, n1, n2, h1, bne_self_eq_false, List.length_map, ss, sd, zI, qG, zG, zH, St.get, qE, qF, qB, zD, norm, look, zF, qA, qI, St.alloc, St.drop, zA, part, zC, depth, qD, ↓reduceIte, Nat.reduceBEq, Nat.reduceAdd, Nat.reduceSub, Nat.reduceMul, Nat.reduceEqDiff, Nat.reduceLeDiff, Nat.reduceLT, qJ, qK, qL, qM, qN, qO, qP, qQ, qR, zJ, qS, qC, qT, qU, qV, qW, qX, qY, qZ, zK, fixed, zL, wit, Option.isSome_some, qH, St.with, zE, Array.size, te, einl, inls, efr]
    have h1 : inB p 0 (lo.length - 1) = true := inB_iff.2 (by omega)
    rw [h1] at h ⊢
    cases h2 : inB m 0 20 with
    | false =>
      rw [h2] at k47'
      simp (maxSteps := 1000000) (implicitDefEqProofs := false) only [Try.ntmps35, Try.results35, efc35, fc35, k15, n1, n2, k47', bne_self_eq_false, List.length_map, Bool.not_true, Bool.not_false, Bool.true_eq_false, if_false, ss, sd, zI, qG, zG, zH, St.get, qE, qF, qB, zD, norm, look, zF, qA, qI, St.alloc, St.drop, zA, part, zC, depth, qD, ↓reduceIte, Nat.reduceBEq, Nat.reduceAdd, Nat.reduceSub, Nat.reduceMul, Nat.reduceEqDiff, Nat.reduceLeDiff, Nat.reduceLT, qJ, qK, qL, qM, qN, qO, qP, qQ, qR, zJ, qS, qC, qT, qU, qV, qW, qX, qY, qZ, zK, fixed, zL, wit, Option.isSome_some, qH, St.with, zE, Array.size, te, einl, inls, efr]
    | true =>
      rw [h2] at h
      rcases h with h | h <;> cases h
def ob75 (b : Blend) (k : Nat) (x : Cem) : List (Nat × Ob) := if k = 0 then [(3, { es := 4, flat := true, t := false, app := false, elems := [encBlend b] }), (6, { es := 4, flat := true, t := true, app := false, elems := [.agg [.int .i64 0, .emp, .emp, .emp]] }),
  (1001, { es := 4, flat := true, t := false, app := false, elems := [encBlend b] }), (1002, { es := 4, flat := true, t := true, app := false, elems := [.agg [.int .i64 0, .emp, .emp, .emp]] }),
  (1003, { es := 4, flat := false, t := false, app := false, elems := [.agg [.int .i64 b.tot, .emp, .own 1010 0 b.lo.length, .own 1015 0 b.hi.length]] }),
  (1010, { es := 1, flat := true, t := true, app := true, elems := b.lo.map vI }), (1015, { es := 1, flat := true, t := true, app := true, elems := b.hi.map vI })]
  else [(3, { es := 4, flat := true, t := false, app := false, elems := [encBlend b] }), (6, { es := 4, flat := true, t := true, app := false, elems := [.agg [.int .i64 0, .emp, .emp, .emp]] }),
  (1001, { es := 4, flat := true, t := false, app := false, elems := [encBlend b] }), (1002, { es := 4, flat := true, t := true, app := false, elems := [.agg [.int .i64 0, .emp, .emp, .emp]] }),
  (1003, { es := 4, flat := false, t := false, app := false, elems := [.agg [.int .i64 b.tot, .own 1039 0 k, .own 1010 0 b.lo.length, .own 1015 0 b.hi.length]] }),
  (1005, { es := 3, flat := false, t := false, app := false, elems := [.agg [.int .i64 x.st, .int .i64 x.co, .junk]] }),
  (1010, { es := 1, flat := true, t := true, app := true, elems := b.lo.map vI }), (1015, { es := 1, flat := true, t := true, app := true, elems := b.hi.map vI }),
  (1038, { es := 3, flat := true, t := true, app := true, elems := [.agg [.int .i64 x.st, .int .i64 x.co, .sl true (x.ps.map vI)]] }),
  (1039, { es := 3, flat := true, t := true, app := true, elems := (b.cs.take k).map encCemT })]
def ob75E (b : Blend) (x : Cem) : List (Nat × Ob) := [(3, { es := 4, flat := true, t := false, app := false, elems := [encBlend b] }), (6, { es := 4, flat := true, t := true, app := false, elems := [.agg [.int .i64 0, .emp, .emp, .emp]] }),
  (1001, { es := 4, flat := true, t := false, app := false, elems := [encBlend b] }),
  (1002, { es := 4, flat := false, t := true, app := false, elems := [.agg [.int .i64 b.tot, .own 1039 0 b.cs.length, .own 1010 0 b.lo.length, .own 1015 0 b.hi.length]] }),
  (1003, { es := 4, flat := false, t := false, app := false, elems := [.agg [.int .i64 b.tot, .own 1039 0 b.cs.length, .own 1010 0 b.lo.length, .own 1015 0 b.hi.length]] }),
  (1005, { es := 3, flat := false, t := false, app := false, elems := [.agg [.int .i64 x.st, .int .i64 x.co, .junk]] }),
  (1010, { es := 1, flat := true, t := true, app := true, elems := b.lo.map vI }), (1015, { es := 1, flat := true, t := true, app := true, elems := b.hi.map vI }),
  (1038, { es := 3, flat := true, t := true, app := true, elems := [.agg [.int .i64 x.st, .int .i64 x.co, .sl true (x.ps.map vI)]] }),
  (1039, { es := 3, flat := true, t := true, app := true, elems := b.cs.map encCemT })]
def st75 (outer : List (List V)) (b : Blend) (k : Nat) : St := { slots := [.junk, .ptr 1001 0 0, .ptr 1002 0 0, .ptr 1003 0 0, .int .i64 (k : Nat)] ++ List.replicate 37 .junk, outer := outer, objs := ob75 b k (b.cs.getD (k - 1) cem0) }
set_option maxRecDepth 20000 in
set_option maxHeartbeats 8000000 in
theorem c75 (outer : List (List V)) (hout : ∀ i, 1000 ≤ i → killAll i outer = outer) (b : Blend) (hb : Valid b) : ∃ sl, (orcω E XS).inl 1000 75 [encBlend b] { slots := [], outer := outer, objs := ob34 b } = some (.agg [.int .i64 b.tot, .own 1039 0 b.cs.length, .own 1010 0 b.lo.length, .own 1015 0 b.hi.length], { slots := sl, outer := outer, objs := ob75E b (b.cs.getD (b.cs.length - 1) cem0) }) := by
  refine (fun h : ∃ sl : List V, _ = some (V.agg [.int .i64 b.tot, .own 1039 0 b.cs.length, .own 1010 0 b.lo.length, .own 1015 0 b.hi.length], ({ slots := sl, outer := outer, objs := ob75E b (b.cs.getD (b.cs.length - 1) cem0) } : St)) => h.elim fun sl h => ⟨sl, inl_of rfl fn75 rfl h⟩) ?_
  have h2 := wid_bare b.lo
  have h3 : roomy b.lo.length 8 = true := by unfold roomy; have := hb.2.2.1; simp; omega
  have h2' := wid_bare b.hi
  have h3' : roomy b.hi.length 8 = true := by unfold roomy; have := hb.2.2.1; have := hb.2.2.2.1; simp; omega
  have h4 : b.lo.length ≤ 4294967296 := by have := hb.2.2.1; omega
  have h5 : b.hi.length ≤ 4294967296 := by have := hb.2.2.1; have := hb.2.2.2.1; omega
  have q1 := sized_vI b.lo
  have q2 := sized_vI b.hi
  have u1 := hout 1001 (by decide)
  have u2 := hout 1002 (by decide)
  have u3 := hout 1003 (by decide)
  have u4 := hout 1010 (by decide)
  have u5 := hout 1015 (by decide)
  have u6 := hout 1005 (by decide)
  have u7 := hout 1033 (by decide)
  have u8 := hout 1038 (by decide)
  have u9 := hout 1039 (by decide)
  have u10 := hout 1030 (by decide)
  obtain ⟨tot, cs, lo, up⟩ := b
  simp only [encBlend, ob34, ob75E]
  dsimp only at *
  simp (maxSteps := 1000000) (implicitDefEqProofs := false) only [Try.ntmps75, Try.results75, efc75, fc75, h2, h3, h4, h5, h2', h3', q1, q2, List.length_map, u1, u2, u3, u4, u5, ss, sd, zI, qG, zG, zH, St.get, qE, qF, qB, zD, norm, look, zF, qA, qI, St.alloc, St.drop, zA, part, zC, depth, qD, ↓reduceIte, Nat.reduceBEq, Nat.reduceAdd, Nat.reduceSub, Nat.reduceMul, Nat.reduceEqDiff, Nat.reduceLeDiff, Nat.reduceLT, qJ, qK, qL, qM, qN, qO, qP, qQ, qR, zJ, qS, qC, qT, qU, qV, qW, qX, qY, qZ, zK, fixed, zL, wit, Option.isSome_some, qH, St.with, zE, Array.size, te, einl, inls, efr]
  generalize hr : loopAt _ _ _ _ _ _ = r; revert r
  refine loop_st (ι := { k : Nat // k ≤ cs.length }) (fun k => st75 outer ⟨tot, cs, lo, up⟩ k.1) (fun k => cs.length - k.1) ⟨0, Nat.zero_le _⟩ (by simp only [st75, ob75, encBlend, if_true]; rfl) ?_
  rintro ⟨k, hk⟩
  dsimp only
  by_cases hl : k = cs.length
  · subst hl
    have z0 : ¬ cs.length = 0 := by have := hb.2.1; dsimp only at this; omega
    simp only [st75, ob75, encBlend, if_neg z0, List.replicate, List.cons_append, List.nil_append]
    simp (maxSteps := 1000000) (implicitDefEqProofs := false) only [Int.lt_irrefl, List.length_map, List.take_length, u1, u2, u3, Try.ntmps75, Try.results75, efc75, fc75, ss, sd, zI, qG, zG, zH, St.get, qE, qF, qB, zD, norm, look, zF, qA, qI, St.alloc, St.drop, zA, part, zC, depth, qD, ↓reduceIte, Nat.reduceBEq, Nat.reduceAdd, Nat.reduceSub, Nat.reduceMul, Nat.reduceEqDiff, Nat.reduceLeDiff, Nat.reduceLT, qJ, qK, qL, qM, qN, qO, qP, qQ, qR, zJ, qS, qC, qT, qU, qV, qW, qX, qY, qZ, zK, fixed, zL, wit, Option.isSome_some, qH, St.with, zE, Array.size, te, einl, inls, efr]
    exact ⟨_, rfl⟩
  · have hlt : k < cs.length := by omega
    have g3 : cs[k]? = some cs[k] := List.getElem?_eq_getElem hlt
    have hps : cs[k].ps.length ≤ 3 := by have := (cemOk_iff.1 (hb.2.2.2.2.2.2.2 cs[k] (List.getElem_mem _))).2.2.1; have := hb.2.2.1; omega
    generalize cs[k] = x at *
    have b2 := wid_bare x.ps
    have b3 : roomy x.ps.length 8 = true := by unfold roomy; simp; omega
    have b4 : x.ps.length ≤ 4294967296 := by omega
    have b5 := sized_vI x.ps
    have g1 : (k : Int) < cs.length := by omega
    have g4 : IntKind.i64.wrap ((k : Int) + 1) = ((k + 1 : Nat) : Int) := by rw [wrap_in (by have := hb.2.1; dsimp only at this; omega)]; omega
    have t1 : (cs.take k).length = k := by rw [List.length_take]; omega
    have t2 : (cs.take k).map encCemT ++ [V.agg [.int .i64 x.st, .int .i64 x.co, .sl true (x.ps.map vI)]] = (cs.take (k + 1)).map encCemT := by
      rw [List.take_add_one, g3, List.map_append]; rfl
    have t3 : roomy (k + 1) 40 = true := by unfold roomy; have := hb.2.1; dsimp only at this; simp; omega
    have t4 : cs.getD (k + 1 - 1) cem0 = x := by rw [Nat.add_sub_cancel, List.getD_eq_getElem?_getD, g3]; rfl
    have t5 : k ≤ 4294967295 := by have := hb.2.1; dsimp only at this; omega
    by_cases z0 : k = 0
    · subst z0
      simp only [st75, ob75, encBlend, if_true, List.replicate, List.cons_append, List.nil_append, List.append_nil]
      have e1 : (0 : Int) < cs.length := by omega
      have e2 : IntKind.i64.wrap (0 + 1) = 1 := by decide
      have e3 : roomy 1 40 = true := by decide
      simp (maxSteps := 1000000) (implicitDefEqProofs := false) only [e1, e2, e3, hlt, g3, b2, b3, b4, b5, u5, u6, u7, u8, u9, u10, encCem, Int.natCast_zero, Int.le_refl, Int.toNat_zero, List.getElem?_map, List.length_map, ss, sd, zI, qG, zG, zH, St.get, qE, qF, qB, zD, norm, look, zF, qA, qI, St.alloc, St.drop, zA, part, zC, depth, qD, ↓reduceIte, Nat.reduceBEq, Nat.reduceAdd, Nat.reduceSub, Nat.reduceMul, Nat.reduceEqDiff, Nat.reduceLeDiff, Nat.reduceLT, qJ, qK, qL, qM, qN, qO, qP, qQ, qR, zJ, qS, qC, qT, qU, qV, qW, qX, qY, qZ, zK, fixed, zL, wit, Option.isSome_some, qH, St.with, zE, Array.size, te, einl, inls, efr]
      refine ⟨⟨0 + 1, hlt⟩, ?_, by dsimp only; omega⟩
      dsimp only
      rw [if_neg (Nat.succ_ne_zero 0), ← t2]
      simp only [List.take_zero, List.map_nil, List.nil_append, Nat.zero_add, Nat.sub_self, t4]
      rfl
    · generalize cs.getD (k - 1) cem0 = x0 at *
      simp only [st75, ob75, encBlend, if_neg z0, List.replicate, List.cons_append, List.nil_append]
      simp (maxSteps := 1000000) (implicitDefEqProofs := false) only [g1, hlt, g3, g4, t1, t2, t3, t5, b2, b3, b4, b5, u5, u6, u7, u8, u9, u10, encCem, Int.natCast_nonneg, Int.toNat_natCast, List.getElem?_map, List.length_map, ss, sd, zI, qG, zG, zH, St.get, qE, qF, qB, zD, norm, look, zF, qA, qI, St.alloc, St.drop, zA, part, zC, depth, qD, ↓reduceIte, Nat.reduceBEq, Nat.reduceAdd, Nat.reduceSub, Nat.reduceMul, Nat.reduceEqDiff, Nat.reduceLeDiff, Nat.reduceLT, qJ, qK, qL, qM, qN, qO, qP, qQ, qR, zJ, qS, qC, qT, qU, qV, qW, qX, qY, qZ, zK, fixed, zL, wit, Option.isSome_some, qH, St.with, zE, Array.size, te, einl, inls, efr]
      refine ⟨⟨k + 1, hlt⟩, ?_, by dsimp only; omega⟩
      dsimp only
      rw [if_neg (Nat.succ_ne_zero k)]
      simp only [t4]
def encBlendD (b : Blend) : V := .agg [.int .i64 b.tot, .sl true (b.cs.map encCemT), .sl true (b.lo.map vI), .sl true (b.hi.map vI)]
set_option maxRecDepth 20000 in
set_option maxHeartbeats 8000000 in
theorem c35 (b : Blend) (hb : Valid b) (p : Nat) (m : Int) (hp : p < b.lo.length) (hm : inB m 0 20 = true) : (orcω E XS).call 35 [encBlend b, .int .i64 (p : Nat), .int .i64 m] = some (.tup [encBlendD (widenB b p m), .int .i64 0]) := by
  refine call_of rfl fn35 rfl ?_
  have k15 := c16 b
  rw [errV_yes hb] at k15
  have k47' := c49 m 0 20
  rw [hm] at k47'
  have n1 := wid_lo hb hp
  have n2 := wid_hi hb hp
  have n3 := inB_iff.1 hm
  have n4 : ¬ (p : Int) < 0 := by omega
  have n5 : ¬ (b.lo.length : Int) ≤ p := by omega
  have p1 : (p : Int) < b.lo.length := by omega
  have p2 : (p : Int) < b.hi.length := by have := hb.2.2.2.1; omega
  have g1 : b.lo[p]? = some (b.lo.getD p 0) := by rw [getD_in hp]; exact List.getElem?_eq_getElem hp
  have g2 : b.hi[p]? = some (b.hi.getD p 0) := by rw [getD_in (by omega)]; exact List.getElem?_eq_getElem (by omega)
  have w2 : IntKind.i64.wrap (b.lo.getD p 0 - m) = b.lo.getD p 0 - m := wrap_in (by omega)
  have w3 : IntKind.i64.wrap (b.hi.getD p 0 + m) = b.hi.getD p 0 + m := wrap_in (by omega)
  have s1 := set_wLo (b := b) (p := p) (m := m)
  have s2 := set_wHi (b := b) (p := p) (m := m)
  have s3 := wid_take (wLo b p m) (n := b.lo.length) List.length_set
  have s4 := wid_take (wHi b p m) (n := b.hi.length) List.length_set
  have s5 : (wLo b p m).length = b.lo.length := List.length_set
  have s6 : (wHi b p m).length = b.hi.length := List.length_set
  unfold widenB encBlendD
  generalize wLo b p m = wl at *
  generalize wHi b p m = wh at *
  have k75 := fun outer h => c75 outer h b hb
  generalize b.cs.getD (b.cs.length - 1) cem0 = x0 at *
  have hi := inf35
  have ho := okD35
  simp only [Try.f35, Option.getD_some, drawn, List.map_cons, List.map_nil, List.append_nil, List.nil_append, List.cons_append, List.cons.injEq, List.all_cons, List.all_nil, Bool.and_true, Bool.and_eq_true, and_true] at hi ho
  obtain ⟨hi1, hi2⟩ := hi
  obtain ⟨ho1, ho2⟩ := ho
  obtain ⟨tot, cs, lo, up⟩ := b
  simp only [encBlend, ob34, ob75E] at k15 k75 ⊢
  dsimp only at *
  simp (maxSteps := 1000000) (implicitDefEqProofs := false) only [Try.ntmps35, Try.results35, efc35, fc35, k15, k47', n4, n5, bne_self_eq_false, List.length_map, Bool.not_true, ss, sd, zI, qG, zG, zH, St.get, qE, qF, qB, zD, norm, look, zF, qA, qI, St.alloc, St.drop, zA, part, zC, depth, qD, ↓reduceIte, Nat.reduceBEq, Nat.reduceAdd, Nat.reduceSub, Nat.reduceMul, Nat.reduceEqDiff, Nat.reduceLeDiff, Nat.reduceLT, qJ, qK, qL, qM, qN, qO, qP, qQ, qR, zJ, qS, qC, qT, qU, qV, qW, qX, qY, qZ, zK, fixed, zL, wit, Option.isSome_some, qH, St.with, zE, Array.size, te, einl, inls, efr]
  rw [(k75 _ ?h).choose_spec]
  case h =>
    intro i hi
    simp (maxSteps := 1000000) (implicitDefEqProofs := false) only [show ¬ 3 = i by omega, show ¬ 6 = i by omega, ss, sd, zI, qG, zG, zH, St.get, qE, qF, qB, zD, norm, look, zF, qA, qI, St.alloc, St.drop, zA, part, zC, depth, qD, ↓reduceIte, Nat.reduceBEq, Nat.reduceAdd, Nat.reduceSub, Nat.reduceMul, Nat.reduceEqDiff, Nat.reduceLeDiff, Nat.reduceLT, qJ, qK, qL, qM, qN, qO, qP, qQ, qR, zJ, qS, qC, qT, qU, qV, qW, qX, qY, qZ, zK, fixed, zL, wit, Option.isSome_some, qH, St.with, zE, Array.size, te, einl, inls, efr]
  simp (maxSteps := 1000000) (implicitDefEqProofs := false) only [Try.ntmps35, Try.results35, efc35, fc35, regT ho1 hi1, regT ho2 hi2, evBT_nil, evBT_cons, effT_true, effT_false, effT2_some, effT2_none, calmT, free, Eff.writes, supp, isBar, reduceCtorEq, if_false, p1, p2, g1, g2, w2, w3, s1, s2, s3, s4, s5, s6, Nat.le_refl, vI_def, Int.natCast_nonneg, Int.toNat_natCast, List.getElem?_map, List.length_map, ss, sd, zI, qG, zG, zH, St.get, qE, qF, qB, zD, norm, look, zF, qA, qI, St.alloc, St.drop, zA, part, zC, depth, qD, ↓reduceIte, Nat.reduceBEq, Nat.reduceAdd, Nat.reduceSub, Nat.reduceMul, Nat.reduceEqDiff, Nat.reduceLeDiff, Nat.reduceLT, qJ, qK, qL, qM, qN, qO, qP, qQ, qR, zJ, qS, qC, qT, qU, qV, qW, qX, qY, qZ, zK, fixed, zL, wit, Option.isSome_some, qH, St.with, zE, Array.size, te, einl, inls, efr]
end Go.AM.E
end

section
/-
Sameness of blends, and which is cheaper.
-/
namespace Go.AM.E
open Go Go.AM Go.Proofs

theorem okT40 : okCode (Try.f40.body.getD .skip) = true := by decide +kernel
set_option maxRecDepth 20000 in
set_option maxHeartbeats 4000000 in
theorem c40s (x : List Int) (hx : x.length ≤ 1000000000) : (orcω E XS).call 40 [.sl false (x.map vI), .sl false (x.map vI)] = some (.bool true) := by
  refine call_of rfl fn40 rfl ?_
  have hok := okT40
  simp only [Try.f40, Option.getD_some, okCode, Bool.and_eq_true, Bool.and_true, Bool.true_and] at hok
  have q1 := cast_eq (a := x.length) rfl
  simp (maxSteps := 1000000) (implicitDefEqProofs := false) only [Try.ntmps40, Try.results40, efc40, fc40, q1, List.length_map, ss, sd, zI, qG, zG, zH, St.get, qE, qF, qB, zD, norm, look, zF, qA, qI, St.alloc, St.drop, zA, part, zC, depth, qD, ↓reduceIte, Nat.reduceBEq, Nat.reduceAdd, Nat.reduceSub, Nat.reduceMul, Nat.reduceEqDiff, Nat.reduceLeDiff, Nat.reduceLT, qJ, qK, qL, qM, qN, qO, qP, qQ, qR, zJ, qS, qC, qT, qU, qV, qW, qX, qY, qZ, zK, fixed, zL, wit, Option.isSome_some, qH, St.with, zE, Array.size, te, einl, inls, efr]
  generalize hr : loopAt _ _ _ _ _ _ = r; revert r
  refine loop_nat x.length (fun i _ => [(5, .int .i64 (i : Nat))]) (fun _ _ => []) (fun _ (_ : Unit) => True) () (by omega) (by simp (maxSteps := 1000000) (implicitDefEqProofs := false) only [Int.natCast_zero, ss, sd, zI, qG, zG, zH, St.get, qE, qF, qB, zD, norm, look, zF, qA, qI, St.alloc, St.drop, zA, part, zC, depth, qD, ↓reduceIte, Nat.reduceBEq, Nat.reduceAdd, Nat.reduceSub, Nat.reduceMul, Nat.reduceEqDiff, Nat.reduceLeDiff, Nat.reduceLT, qJ, qK, qL, qM, qN, qO, qP, qQ, qR, zJ, qS, qC, qT, qU, qV, qW, qX, qY, qZ, zK, fixed, zL, wit, Option.isSome_some, qH, St.with, zE, Array.size, te, einl, inls, efr]) trivial (fun _ _ => ?_) (fun i _ _ a1 a2 a3 => ?_)
  · simp (maxSteps := 1000000) (implicitDefEqProofs := false) only [Int.lt_irrefl, List.length_map, Try.ntmps40, Try.results40, efc40, fc40, ss, sd, zI, qG, zG, zH, St.get, qE, qF, qB, zD, norm, look, zF, qA, qI, St.alloc, St.drop, zA, part, zC, depth, qD, ↓reduceIte, Nat.reduceBEq, Nat.reduceAdd, Nat.reduceSub, Nat.reduceMul, Nat.reduceEqDiff, Nat.reduceLeDiff, Nat.reduceLT, qJ, qK, qL, qM, qN, qO, qP, qQ, qR, zJ, qS, qC, qT, qU, qV, qW, qX, qY, qZ, zK, fixed, zL, wit, Option.isSome_some, qH, St.with, zE, Array.size, te, einl, inls, efr]
  · have g1 : x[i]? = some x[i] := List.getElem?_eq_getElem a1
    generalize x[i] = m at *
    simp (maxSteps := 1000000) (implicitDefEqProofs := false) only [a1, a2, a3, g1, bne_self_eq_false, vI, evRegion_st hok, Int.natCast_nonneg, Int.toNat_natCast, List.getElem?_map, List.length_map, ss, sd, zI, qG, zG, zH, St.get, qE, qF, qB, zD, norm, look, zF, qA, qI, St.alloc, St.drop, zA, part, zC, depth, qD, ↓reduceIte, Nat.reduceBEq, Nat.reduceAdd, Nat.reduceSub, Nat.reduceMul, Nat.reduceEqDiff, Nat.reduceLeDiff, Nat.reduceLT, qJ, qK, qL, qM, qN, qO, qP, qQ, qR, zJ, qS, qC, qT, qU, qV, qW, qX, qY, qZ, zK, fixed, zL, wit, Option.isSome_some, qH, St.with, zE, Array.size, te, einl, inls, efr]
    exact ⟨(), trivial⟩
theorem inf36 : (drawn (Try.f36.body.getD .skip)).map infosOf = [[([], false), ([], false), ([], false), ([], false), ([], false), ([], false), ([], false), ([], false), ([], false), ([], false), ([1, 3, 4, 6, 8, 9], false), ([1, 3, 4, 6, 8, 9, 10], false), ([6, 8, 9], false), ([], true)]] := by decide +kernel
theorem okD36 : (drawn (Try.f36.body.getD .skip)).all okBad = true := by decide +kernel


set_option maxRecDepth 20000 in
set_option maxHeartbeats 8000000 in
theorem c36 (b : Blend) (h1 : b.lo.length ≤ 1000) (h2 : b.hi.length ≤ 1000) (h3 : b.cs.length ≤ 1000) (h4 : ∀ c ∈ b.cs, c.ps.length ≤ 1000) : (orcω E XS).call 36 [encBlend b, encBlend b] = some (.bool true) := by
  refine call_of rfl fn36 rfl ?_
  have hi := inf36
  have ho := okD36
  simp only [Try.f36, Option.getD_some, drawn, List.map_cons, List.map_nil, List.append_nil, List.nil_append, List.cons_append, List.cons.injEq, List.all_cons, List.all_nil, Bool.and_true, Bool.and_eq_true, and_true] at hi ho
  have k1 := c40s b.lo (by omega)
  have k2 := c40s b.hi (by omega)
  obtain ⟨tot, cs, lo, up⟩ := b
  simp only [encBlend]
  dsimp only at *
  simp (maxSteps := 1000000) (implicitDefEqProofs := false) only [Try.ntmps36, Try.results36, efc36, fc36, k1, k2, bne_self_eq_false, Bool.not_true, List.length_map, ss, sd, zI, qG, zG, zH, St.get, qE, qF, qB, zD, norm, look, zF, qA, qI, St.alloc, St.drop, zA, part, zC, depth, qD, ↓reduceIte, Nat.reduceBEq, Nat.reduceAdd, Nat.reduceSub, Nat.reduceMul, Nat.reduceEqDiff, Nat.reduceLeDiff, Nat.reduceLT, qJ, qK, qL, qM, qN, qO, qP, qQ, qR, zJ, qS, qC, qT, qU, qV, qW, qX, qY, qZ, zK, fixed, zL, wit, Option.isSome_some, qH, St.with, zE, Array.size, te, einl, inls, efr]
  generalize hr : loopAt _ _ _ _ _ _ = r; revert r
  refine loop_list cs (fun pre _ => [(5, .int .i64 pre.length)]) (fun _ _ => []) (fun _ (_ : Unit) => True) () (by omega) (by simp (maxSteps := 1000000) (implicitDefEqProofs := false) only [List.length_nil, Int.natCast_zero, ss, sd, zI, qG, zG, zH, St.get, qE, qF, qB, zD, norm, look, zF, qA, qI, St.alloc, St.drop, zA, part, zC, depth, qD, ↓reduceIte, Nat.reduceBEq, Nat.reduceAdd, Nat.reduceSub, Nat.reduceMul, Nat.reduceEqDiff, Nat.reduceLeDiff, Nat.reduceLT, qJ, qK, qL, qM, qN, qO, qP, qQ, qR, zJ, qS, qC, qT, qU, qV, qW, qX, qY, qZ, zK, fixed, zL, wit, Option.isSome_some, qH, St.with, zE, Array.size, te, einl, inls, efr]) trivial (fun _ _ => ?_) (fun pre x post _ hp _ g1 g2 g3 g4 => ?_)
  · simp (maxSteps := 1000000) (implicitDefEqProofs := false) only [Int.lt_irrefl, List.length_map, Try.ntmps36, Try.results36, efc36, fc36, ss, sd, zI, qG, zG, zH, St.get, qE, qF, qB, zD, norm, look, zF, qA, qI, St.alloc, St.drop, zA, part, zC, depth, qD, ↓reduceIte, Nat.reduceBEq, Nat.reduceAdd, Nat.reduceSub, Nat.reduceMul, Nat.reduceEqDiff, Nat.reduceLeDiff, Nat.reduceLT, qJ, qK, qL, qM, qN, qO, qP, qQ, qR, zJ, qS, qC, qT, qU, qV, qW, qX, qY, qZ, zK, fixed, zL, wit, Option.isSome_some, qH, St.with, zE, Array.size, te, einl, inls, efr]
  · have k3 := c40s x.ps (by have := h4 x (by rw [hp]; simp); omega)
    simp (maxSteps := 1000000) (implicitDefEqProofs := false) only [g1, g2, g3, g4, k3, encCem, bne_self_eq_false, Bool.not_true, Int.natCast_nonneg, Int.toNat_natCast, List.getElem?_map, List.length_map, regT ho hi, evBT_nil, evBT_cons, effT_true, effT_false, effT2_some, effT2_none, calmT, free, Eff.writes, supp, isBar, Option.toList_some, Option.toList_none, ss, sd, zI, qG, zG, zH, St.get, qE, qF, qB, zD, norm, look, zF, qA, qI, St.alloc, St.drop, zA, part, zC, depth, qD, ↓reduceIte, Nat.reduceBEq, Nat.reduceAdd, Nat.reduceSub, Nat.reduceMul, Nat.reduceEqDiff, Nat.reduceLeDiff, Nat.reduceLT, qJ, qK, qL, qM, qN, qO, qP, qQ, qR, zJ, qS, qC, qT, qU, qV, qW, qX, qY, qZ, zK, fixed, zL, wit, Option.isSome_some, qH, St.with, zE, Array.size, te, einl, inls, efr]
    exact ⟨(), trivial⟩
set_option maxRecDepth 20000 in
set_option maxHeartbeats 8000000 in
theorem c37 (a b : Blend) (ha : Valid a) (hb : Valid b) (h : Cheaper a b) : (orcω E XS).call 37 [encBlend a, encBlend b] = some (.bool true) := by
  refine call_of rfl fn37 rfl ?_
  have k1 := c18 a
  have k2 := c18 b
  have k3 := c33
  obtain ⟨n, d, s, m, e, t, e1, e2, e3⟩ := cheap_ok ha hb h
  rw [e1] at k1
  rw [e2] at k2
  obtain ⟨tot, cs, lo, up⟩ := a
  obtain ⟨tot', cs', lo', up'⟩ := b
  simp only [encBlend, encLst] at k1 k2 ⊢
  cases t with
  | false => simp (maxSteps := 1000000) (implicitDefEqProofs := false) only [Try.ntmps37, Try.results37, efc37, k1, k2, bne_self_eq_false, Bool.not_false, ss, sd, zI, qG, zG, zH, St.get, qE, qF, qB, zD, norm, look, zF, qA, qI, St.alloc, St.drop, zA, part, zC, depth, qD, ↓reduceIte, Nat.reduceBEq, Nat.reduceAdd, Nat.reduceSub, Nat.reduceMul, Nat.reduceEqDiff, Nat.reduceLeDiff, Nat.reduceLT, qJ, qK, qL, qM, qN, qO, qP, qQ, qR, zJ, qS, qC, qT, qU, qV, qW, qX, qY, qZ, zK, fixed, zL, wit, Option.isSome_some, qH, St.with, zE, Array.size, te, einl, inls, efr]
  | true =>
    obtain ⟨rfl, r1, r2, hle⟩ := e3 rfl
    have k4 := k3 n d m e r1 r2
    have hc : cmpI (n * e) (m * d) ≤ 0 := cmpI_neg.2 hle
    simp (maxSteps := 1000000) (implicitDefEqProofs := false) only [Try.ntmps37, Try.results37, efc37, k1, k2, k4, hc, bne_self_eq_false, beq_self_eq_true, Bool.not_true, Bool.not_false, ss, sd, zI, qG, zG, zH, St.get, qE, qF, qB, zD, norm, look, zF, qA, qI, St.alloc, St.drop, zA, part, zC, depth, qD, ↓reduceIte, Nat.reduceBEq, Nat.reduceAdd, Nat.reduceSub, Nat.reduceMul, Nat.reduceEqDiff, Nat.reduceLeDiff, Nat.reduceLT, qJ, qK, qL, qM, qN, qO, qP, qQ, qR, zJ, qS, qC, qT, qU, qV, qW, qX, qY, qZ, zK, fixed, zL, wit, Option.isSome_some, qH, St.with, zE, Array.size, te, einl, inls, efr]
end Go.AM.E
end

section
/-
The law: wider bounds are never dearer.
-/
namespace Go.AM.E
open Go Go.AM Go.RowKit Go.Proofs

noncomputable def XW : Ext := { call := fun g vs => if [17, 34, 35, 36, 37].contains g = true then (orcω E XS).call g (lowL vs) else XS.call g vs, inl := XS.inl }
theorem XW_ok : ExtOk Try.prog XW := ⟨(fun g vs r hr => by
  simp only [XW] at hr
  split at hr
  · exact (Orc.callOk E_ok XS_ok mixed hr).low
  · exact XS_ok.call _ _ _ hr), XS_ok.inl⟩
theorem cW {g : Nat} {vs us : List V} {r : V} (hg : [17, 34, 35, 36, 37].contains g = true) (h : (orcω E XS).call g us = some r) (hl : lowL vs = us) : (orcω E XW).call g vs = some r := by
  refine (orcω_le 0).call _ _ _ ?_
  simp only [orc, XW, hg, if_true, hl, h]
theorem lowW_vI (l : List Int) : lowEL (l.map vI) = l.map vI := lowL_map (fun _ => rfl) l
theorem lowW_C (l : List Cem) : lowEL (l.map encCemT) = l.map encCem := lowL_map (fun c => by unfold encCemT encCem; simp only [lowE, lowEL, lowW_vI]) l
theorem lowW_F (l : List Cem) : lowEL (l.map encCem) = l.map encCem := lowL_map (fun c => by unfold encCem; simp only [lowE, lowEL, lowW_vI]) l
theorem lowW_blend (b : Blend) : low (encBlend b) = encBlend b := by unfold encBlend; simp only [low, lowL, lowW_vI, lowW_F]
def encBlendX (b : Blend) : V := .agg [.int .i64 b.tot, .sl false (b.cs.map encCemT), .sl false (b.lo.map vI), .sl false (b.hi.map vI)]
theorem lowW_blendX (b : Blend) : low (encBlendX b) = encBlend b := by unfold encBlendX encBlend; simp only [low, lowL, lowW_vI, lowW_C]
theorem widenR_err {b : Blend} {p m : Int} (h : errV b = 1 ∨ (Valid b ∧ (inB p 0 (b.lo.length - 1) = false ∨ inB m 0 20 = false))) : (widenR b p m).2 ≠ 0 := by
  unfold widenR
  rcases h with h | ⟨hb, h⟩
  · rw [if_pos (by rw [h]; decide), h]; decide
  · rw [if_neg (by rw [errV_yes hb]; decide)]
    rcases h with h | h
    · rw [if_pos h]; decide
    · by_cases h1 : inB p 0 (b.lo.length - 1) = false
      · rw [if_pos h1]; decide
      · rw [if_neg h1, if_pos h]; decide
set_option maxRecDepth 20000 in
set_option maxHeartbeats 8000000 in
theorem c11 (b : Blend) (p m : Int) : (orcω E XW).call 11 [encBlend b, .agg [.int .i64 p, .int .i64 m]] = some (.bool true) := by
  refine call_of rfl fn11 rfl ?_
  have k17 : (orcω E XW).call 17 [] = some (.bool true) := cW rfl c17 rfl
  by_cases h : errV b = 1 ∨ (Valid b ∧ (inB p 0 (b.lo.length - 1) = false ∨ inB m 0 20 = false))
  · have k34 : (orcω E XW).call 34 [encBlend b, .int .i64 p, .int .i64 m] = _ := cW rfl (c34e b p m h) (by simp only [lowL, lowW_blend]; rfl)
    have k35 : (orcω E XW).call 35 [encBlend b, .int .i64 p, .int .i64 m] = _ := cW rfl (c35e b p m h) (by simp only [lowL, lowW_blend]; rfl)
    have k36 : (orcω E XW).call 36 [.agg [.int .i64 0, .sl false [], .sl false [], .sl false []], .agg [.int .i64 0, .sl false [], .sl false [], .sl false []]] = _ := cW rfl (c36 bNil (by decide) (by decide) (by decide) (by intro c hc; cases hc)) rfl
    have he := widenR_err h
    generalize (widenR b p m).2 = e at *
    have q1 : (e != 0) = true := by simpa using he
    obtain ⟨tot, cs, lo, up⟩ := b
    simp only [encBlend] at k34 k35 k36 ⊢
    simp (maxSteps := 1000000) (implicitDefEqProofs := false) only [Try.ntmps11, Try.results11, efc11, k17, k34, k35, k36, q1, bne_self_eq_false, Bool.not_true, ss, sd, zI, qG, zG, zH, St.get, qE, qF, qB, zD, norm, look, zF, qA, qI, St.alloc, St.drop, zA, part, zC, depth, qD, ↓reduceIte, Nat.reduceBEq, Nat.reduceAdd, Nat.reduceSub, Nat.reduceMul, Nat.reduceEqDiff, Nat.reduceLeDiff, Nat.reduceLT, qJ, qK, qL, qM, qN, qO, qP, qQ, qR, zJ, qS, qC, qT, qU, qV, qW, qX, qY, qZ, zK, fixed, zL, wit, Option.isSome_some, qH, St.with, zE, Array.size, te, einl, inls, efr]
  · have hv : Valid b := by
      rcases errV_cases b with h1 | h1
      · exact errV_zero h1
      · exact absurd (.inl h1) h
    have hm : inB m 0 20 = true := by
      cases h1 : inB m 0 20 with
      | true => rfl
      | false => exact absurd (.inr ⟨hv, .inr h1⟩) h
    have hp : inB p 0 (b.lo.length - 1) = true := by
      cases h1 : inB p 0 (b.lo.length - 1) with
      | true => rfl
      | false => exact absurd (.inr ⟨hv, .inl h1⟩) h
    have hp' := inB_iff.1 hp
    have hm' := inB_iff.1 hm
    obtain ⟨n, rfl⟩ : ∃ n : Nat, p = n := ⟨p.toNat, by omega⟩
    have hn : n < b.lo.length := by omega
    have hw := widen_valid hv hn hm'
    have k34 : (orcω E XW).call 34 [encBlend b, .int .i64 (n : Nat), .int .i64 m] = _ := cW rfl (c34 b hv n m hn hm) (by simp only [lowL, lowW_blend]; rfl)
    have k35 : (orcω E XW).call 35 [encBlend b, .int .i64 (n : Nat), .int .i64 m] = _ := cW rfl (c35 b hv n m hn hm) (by simp only [lowL, lowW_blend]; rfl)
    have k36 : (orcω E XW).call 36 [encBlendX (widenB b n m), encBlendX (widenB b n m)] = _ := cW rfl (c36 (widenB b n m) (by have := hw.2.2.1; omega) (by have := hw.2.2.1; have := hw.2.2.2.1; omega) (by have := hw.2.1; omega) (fun c hc => by have := (cemOk_iff.1 (hw.2.2.2.2.2.2.2 c hc)).2.2.1; have := hw.2.2.1; omega)) (by simp only [lowL, lowW_blendX])
    have k37 : (orcω E XW).call 37 [encBlendX (widenB b n m), encBlend b] = _ := cW rfl (c37 (widenB b n m) b hw hv (widen_cheaper hv hm')) (by simp only [lowL, lowW_blendX, lowW_blend])
    generalize widenB b n m = w at *
    obtain ⟨tot, cs, lo, up⟩ := b
    obtain ⟨tot', cs', lo', up'⟩ := w
    simp only [encBlend, encBlendC, encBlendD, encBlendX] at k34 k35 k36 k37 ⊢
    simp (maxSteps := 1000000) (implicitDefEqProofs := false) only [Try.ntmps11, Try.results11, efc11, k17, k34, k35, k36, k37, bne_self_eq_false, Bool.not_true, ss, sd, zI, qG, zG, zH, St.get, qE, qF, qB, zD, norm, look, zF, qA, qI, St.alloc, St.drop, zA, part, zC, depth, qD, ↓reduceIte, Nat.reduceBEq, Nat.reduceAdd, Nat.reduceSub, Nat.reduceMul, Nat.reduceEqDiff, Nat.reduceLeDiff, Nat.reduceLT, qJ, qK, qL, qM, qN, qO, qP, qQ, qR, zJ, qS, qC, qT, qU, qV, qW, qX, qY, qZ, zK, fixed, zL, wit, Option.isSome_some, qH, St.with, zE, Array.size, te, einl, inls, efr]
end Go.AM.E
end

section
/-
What a widening looks like as an argument.
-/
namespace Go.AM.E
open Go Go.Proofs

theorem has56 {n : Nat} {cs : List V} (h : HasC E n 56 cs) : ∃ p m : Int, pack true cs = .agg [.int .i64 p, .int .i64 m] := by
  cases n with
  | zero => exact h.elim
  | succ n =>
    simp only [HasC, ty56, ti56, List.map_cons, List.map_nil, HasFs] at h
    obtain ⟨x0, _, rfl, h0, x1, _, rfl, h1, rfl⟩ := h
    obtain ⟨v0, rfl, b0⟩ := has3 h0
    obtain ⟨v1, rfl, b1⟩ := has3 h1
    exact ⟨v0, v1, rfl⟩

theorem hasWider {n : Nat} {v : V} (h : HasV E n 56 v) : ∃ p m : Int, v = .agg [.int .i64 p, .int .i64 m] := by
  obtain ⟨ti, ds, hti, h, rfl⟩ := h
  rw [ty56] at hti
  cases hti
  exact has56 h

end Go.AM.E
end

