/-
The amounts of a basis (blend).
-/
import Derived.Test.YtkacpekakpbalaaEDual
set_option linter.unusedVariables false
set_option linter.unusedSimpArgs false
set_option maxRecDepth 20000

namespace Go.AM.E
open Go Go.AM Go.Proofs

def inTo (cs s : Nat) : Nat := ((memM cs).take s).foldl (fun a c => a + 2 ^ c) 0
theorem in_facts : ((List.range 32).all fun cs => decide (inTo cs (memM cs).length = cs) && (List.range (memM cs).length).all fun s => decide (bitsI .or .i64 (inTo cs s : Nat) ((2 ^ (memM cs).getD s 0 : Nat) : Int) = (inTo cs (s + 1) : Nat))) = true := by decide +kernel
theorem in_step {cs s : Nat} (hc : cs < 32) (hs : s < (memM cs).length) : bitsI .or .i64 (inTo cs s : Nat) ((2 ^ (memM cs).getD s 0 : Nat) : Int) = (inTo cs (s + 1) : Nat) := by
  have h := List.all_eq_true.1 in_facts cs (List.mem_range.2 hc)
  rw [Bool.and_eq_true] at h
  simpa using List.all_eq_true.1 h.2 s (List.mem_range.2 hs)
theorem in_all {cs : Nat} (hc : cs < 32) : inTo cs (memM cs).length = cs := by
  have h := List.all_eq_true.1 in_facts cs (List.mem_range.2 hc)
  rw [Bool.and_eq_true] at h
  simpa using h.1
theorem bit_facts : ((List.range 32).all fun s => (List.range 5).all fun i => decide (bitsI .and .i64 ((s : Int).fdiv (2 ^ (min i (IntKind.bits .i64)))) 1 = if bit s i = true then 1 else 0)) = true := by decide +kernel
theorem bit_and {s i : Nat} (hs : s < 32) (hi : i < 5) : bitsI .and .i64 ((s : Int).fdiv (2 ^ (min i (IntKind.bits .i64)))) 1 = if bit s i = true then 1 else 0 := by
  have h := List.all_eq_true.1 (List.all_eq_true.1 bit_facts s (List.mem_range.2 hs)) i (List.mem_range.2 hi)
  simpa using h
def primalM (b : Blend) (x : Bs) (high full : Nat) : Option Amts := if fitM (amtsM b x high full) = true then some (amtsM b x high full) else none
def encAmO (o : Option Amts) : V := match o with
  | some a => .tup [.agg [.int .i64 a.den, .sl true (a.x.map vI)], .bool true]
  | none => .tup [.agg [.int .i64 0, .sl true []], .bool false]
theorem fit_snoc {b : Blend} {x : Bs} {high full : Nat} : fitM (amtsM b x high full) = true ↔ ∀ i, i < b.cs.length → 0 ≤ amtM b x high full i ∧ amtM b x high full i ≤ 1073741824 := by
  unfold fitM amtsM
  rw [List.all_eq_true]
  constructor
  · intro h i hi
    have := h (amtM b x high full i) (List.mem_map.2 ⟨i, by simpa using hi, rfl⟩)
    simpa using this
  · intro h n hn
    obtain ⟨i, hi, rfl⟩ := List.mem_map.1 hn
    have := h i (by simpa using hi)
    simp; omega
theorem share2 {C D P G : Prop} (h : C ∨ D) (ha : C → P → G) (hb : D → P → G) (hp : P) : G := by
  rcases h with h | h
  · exact ha h hp
  · exact hb h hp
theorem share3 {C D F P G : Prop} (h : C ∨ D ∨ F) (ha : C → P → G) (hb : D → P → G) (hc : F → P → G) (hp : P) : G := by
  rcases h with h | h | h
  · exact ha h hp
  · exact hb h hp
  · exact hc h hp
theorem okT92 : okCode (Try.f92.body.getD .skip) = true := by decide +kernel
set_option maxRecDepth 20000 in
set_option maxHeartbeats 32000000 in
theorem c92 (b : Blend) (hb : Valid b) (x : Bs) (hx : IsBase b x) (high full : Nat) (hh : high < 16) (hf : full < 32) : (orcω E XS).call 92 [encBasisA b x, .int .i64 (high : Nat), .int .i64 (full : Nat)] = some (encAmO (primalM b x high full)) := by
  refine call_of rfl fn92 rfl ?_
  have hok := okT92
  simp only [Try.f92, Option.getD_some, okCode, Bool.and_eq_true, Bool.and_true, Bool.true_and] at hok
  obtain ⟨hk1, hk2, hk3⟩ := hok
  have hm := hb.2.2.1
  have hn := hb.2.1.2
  have hcs : x.cs < 32 := by have := hx.2.1; have : 2 ^ b.cs.length ≤ 2 ^ 5 := Nat.pow_le_pow_right (by decide) hn; omega
  have hk4 := k_le hb hx
  have hd := denB_small hb hx
  have hd2 := detB_small hb hx
  have k1 := fun s t hs ht => c89' hb hx (s := s) (t := t) hs ht
  have k87 := fun r c h1 h2 h3 => c87 b r c h1 h2 h3
  have hR : ∀ t, t < x.k → (memI x.rs)[t]? = some ((x.row t : Nat) : Int) := fun t ht => memI_get ht
  have hCm : (memM x.cs).length = x.k := hx.2.2.1
  have hC : ∀ s, s < x.k → (memI x.cs)[s]? = some ((x.col s : Nat) : Int) := fun s hs => memI_get (by omega)
  have lR : (memI x.rs).length = x.k := memI_len _
  have lC : (memI x.cs).length = x.k := by rw [memI_len]; exact hx.2.2.1
  have hrow := fun t ht => row_lt hx (t := t) ht
  have hcol := fun s hs => col_lt' hx (s := s) hs
  have hin : ∀ s, s < x.k → bitsI .or .i64 (inTo x.cs s : Nat) ((2 ^ x.col s : Nat) : Int) = (inTo x.cs (s + 1) : Nat) := fun s hs => in_step hcs (by omega)
  have hina : inTo x.cs x.k = x.cs := by rw [← hCm]; exact in_all hcs
  have hin0 : inTo x.cs 0 = 0 := rfl
  have hbc : ∀ i, i < b.cs.length → bitsI .and .i64 (((x.cs : Nat) : Int).fdiv (2 ^ (min i (IntKind.bits .i64)))) 1 = if bit x.cs i = true then 1 else 0 := fun i hi => bit_and hcs (by omega)
  have hbf : ∀ i, i < b.cs.length → bitsI .and .i64 ((full : Int).fdiv (2 ^ (min i (IntKind.bits .i64)))) 1 = if bit full i = true then 1 else 0 := fun i hi => bit_and hf (by omega)
  have hbh : ∀ t, t < x.k → bitsI .and .i64 ((high : Int).fdiv (2 ^ (min (x.row t) (IntKind.bits .i64)))) 1 = if bit high (x.row t) = true then 1 else 0 := fun t ht => bit_and (by omega) (by have := hrow t ht; omega)
  have hsh : ∀ s, s < x.k → IntKind.i64.wrap (1 * 2 ^ (min (x.col s) (IntKind.bits .i64))) = ((2 ^ x.col s : Nat) : Int) := fun s hs => shl_one (by have := hcol s hs; omega)
  have hst : ∀ i, i < b.cs.length → ∃ c1 : Cem, b.cs[i]? = some c1 ∧ c1.st = stAt b i ∧ 0 ≤ c1.st ∧ c1.st ≤ 1000 := fun i hi => by
    have g := List.getElem?_eq_getElem hi
    have e : stAt b i = b.cs[i].st := by unfold stAt; rw [getD_in hi]
    exact ⟨b.cs[i], g, e.symm, by rw [← e]; exact (cem_at hb hi).1.1, by rw [← e]; exact (cem_at hb hi).1.2⟩
  have hfix : ∀ i, fixM b x full i = if bit x.cs i = true then 0 else if bit full i = true then stAt b i * denB b x else 0 := fun _ => rfl
  have hfixin := fun i hi => fixM_in hb hx full (i := i) hi
  have hx0 := xAcc_zero b x high full
  have hxn := xAcc_next b x high full
  have hxu := xAcc_upd b x high full
  have hxa := xAcc_all b x high full
  have hxi := fun t s i h1 h2 h3 h4 => xAcc_in hb hx high full (t := t) (s := s) (i := i) h1 h2 h3 h4
  have hxo := fun t s i h1 h2 => xAcc_out hx high full (t := t) (s := s) (i := i) h1 h2
  have hG := fun t s ht hs => amtG_in hb hx high full (t := t) (s := s) ht hs
  have hGe : ∀ t s, amtG b x high full t s = sgD (detB b x) * inv b x s t * restM b x high full t := fun _ _ => rfl
  have hinv := fun s t hs ht => inv_small hb hx (s := s) (t := t) hs ht
  have hr0 := fun t => restTo_zero b x high full t
  have hri := fun t i h => restTo_in (b := b) (x := x) (high := high) (full := full) (t := t) (i := i) h
  have hro := fun t i h => restTo_out (b := b) (x := x) (high := high) (full := full) (t := t) (i := i) h
  have hra := fun t => restTo_all b x high full t
  have hrs := fun t i h => restTo_small hb hx high full t i h
  have hrest := fun t => rest_small hb hx high full t
  have hquo := fun r i hi => quo_in hb hx full (r := r) (i := i) hi
  have hcoef := fun r c hc => coef_in hb (r := r) (c := c) hc
  have hedge : ∀ r, edgeM b high r = if r = 0 then b.tot else if bit high r = true then b.tot * b.hi.getD (r - 1) 0 else b.tot * b.lo.getD (r - 1) 0 := fun _ => rfl
  have hedgein := fun r => edge_in hb high r
  have hps : ∀ c, c < b.cs.length → (psAt b c).length = b.lo.length := fun c h => (cem_at hb h).2.2.1
  have hdn : denB b x = sgD (detB b x) * detB b x := rfl
  have hsg : (detB b x < 0 ∧ sgD (detB b x) = -1) ∨ (¬ detB b x < 0 ∧ sgD (detB b x) = 1) := by
    unfold sgD
    by_cases h : detB b x < 0
    · exact .inl ⟨h, if_pos h⟩
    · exact .inr ⟨h, if_neg h⟩
  have hT := hb.1
  have hlo := hb.2.2.2.2.1
  have hhi := hb.2.2.2.2.2.1
  have hlh := hb.2.2.2.1
  have hres : encAmO (primalM b x high full) = if ∀ i, i < b.cs.length → 0 ≤ amtM b x high full i ∧ amtM b x high full i ≤ 1073741824 then .tup [.agg [.int .i64 (denB b x), .sl true (fnL (amtM b x high full) b.cs.length)], .bool true] else .tup [.agg [.int .i64 0, .sl true []], .bool false] := by
    unfold primalM
    by_cases h : ∀ i, i < b.cs.length → 0 ≤ amtM b x high full i ∧ amtM b x high full i ≤ 1073741824
    · rw [if_pos (fit_snoc.2 h), if_pos h]
      unfold encAmO amtsM
      dsimp only
      rw [map_vI]
    · rw [if_neg (fun hh => h (fit_snoc.1 hh)), if_neg h]
      rfl
  rw [hres]
  generalize hdD : denB b x = dn at *
  generalize inv b x = iv at *
  generalize fixM b x full = fx at *
  generalize xAcc b x high full = xa at *
  generalize amtG b x high full = ag at *
  generalize amtM b x high full = am at *
  generalize restTo b x high full = rt at *
  generalize restM b x high full = rM at *
  generalize edgeM b high = eM at *
  generalize coefB b = cf at *
  generalize stAt b = sA at *
  unfold encBasisA
  generalize matB b x = mt at *
  generalize detB b x = d at *
  generalize sgD d = sg at *
  generalize x.k = k at *
  generalize x.row = row at *
  generalize x.col = col at *
  generalize memI x.rs = Rs at *
  generalize memI x.cs = Cs at *
  generalize inTo x.cs = io at *
  generalize x.cs = sc at *
  clear hx hCm
  obtain ⟨tot, cs, lo, up⟩ := b
  unfold encBlend at k87
  dsimp only at *
  have hroom : roomy cs.length 8 = true := by simp [roomy]; omega
  have p1 : (cs.length : Int) ≤ 4294967296 := by omega
  have w3 : IntKind.i64.wrap (sg * d) = dn := by rw [← hdn]; exact wrap_in (by omega)
  have lu : ∀ (f : Nat → Int) (n : Nat), (fnL f n).length = n := fun f n => fn_len f n
  generalize hN : cs.length = N at *
  have hsg2 : sg = -1 ∨ sg = 1 := by rcases hsg with h | h <;> omega
  apply share2 hsg
  · rintro ⟨hneg, hs1⟩ main
    have w3' := w3
    rw [hs1] at w3'
    simp (maxSteps := 1000000) (implicitDefEqProofs := false) only [Try.ntmps92, Try.results92, efc92, fc92, hneg, hroom, hN, p1, w3', fn_zero, Int.natCast_nonneg, Int.toNat_natCast, List.length_map, ss, sd, zI, qG, zG, zH, St.get, qE, qF, qB, zD, norm, look, zF, qA, qI, St.alloc, St.drop, zA, part, zC, depth, qD, ↓reduceIte, Nat.reduceBEq, Nat.reduceAdd, Nat.reduceSub, Nat.reduceMul, Nat.reduceEqDiff, Nat.reduceLeDiff, Nat.reduceLT, qJ, qK, qL, qM, qN, qO, qP, qQ, qR, zJ, qS, qC, qT, evSlice0, qV, qW, qX, qY, qZ, zK, fixed, zL, wit, Option.isSome_some, qH, evSliceP, evPre, St.with, zE, Array.size, te, einl, inls, efr]
    generalize hv : V.int IntKind.i64 (-1) = vv
    have hv' : vv = V.int IntKind.i64 sg := by rw [← hv, hs1]
    clear hv
    revert hv'
    revert vv
    exact main
  · rintro ⟨hneg, hs1⟩ main
    have w3' := w3
    rw [hs1] at w3'
    simp (maxSteps := 1000000) (implicitDefEqProofs := false) only [Try.ntmps92, Try.results92, efc92, fc92, hneg, hroom, hN, p1, w3', fn_zero, Int.natCast_nonneg, Int.toNat_natCast, List.length_map, ss, sd, zI, qG, zG, zH, St.get, qE, qF, qB, zD, norm, look, zF, qA, qI, St.alloc, St.drop, zA, part, zC, depth, qD, ↓reduceIte, Nat.reduceBEq, Nat.reduceAdd, Nat.reduceSub, Nat.reduceMul, Nat.reduceEqDiff, Nat.reduceLeDiff, Nat.reduceLT, qJ, qK, qL, qM, qN, qO, qP, qQ, qR, zJ, qS, qC, qT, evSlice0, qV, qW, qX, qY, qZ, zK, fixed, zL, wit, Option.isSome_some, qH, evSliceP, evPre, St.with, zE, Array.size, te, einl, inls, efr]
    generalize hv : V.int IntKind.i64 1 = vv
    have hv' : vv = V.int IntKind.i64 sg := by rw [← hv, hs1]
    clear hv
    revert hv'
    revert vv
    exact main
  intro vv hv
  subst hv
  generalize hr : loopAt _ _ _ _ _ _ = r; revert r
  refine loop_nat k (fun s _ => [(11, .int .i64 (io s : Nat)), (41, .int .i64 (s : Nat))]) (fun _ _ => []) (fun _ (_ : Unit) => True) () (by omega) (by simp (maxSteps := 1000000) (implicitDefEqProofs := false) only [hin0, lC, Int.natCast_zero, ss, sd, zI, qG, zG, zH, St.get, qE, qF, qB, zD, norm, look, zF, qA, qI, St.alloc, St.drop, zA, part, zC, depth, qD, ↓reduceIte, Nat.reduceBEq, Nat.reduceAdd, Nat.reduceSub, Nat.reduceMul, Nat.reduceEqDiff, Nat.reduceLeDiff, Nat.reduceLT, qJ, qK, qL, qM, qN, qO, qP, qQ, qR, zJ, qS, qC, qT, evSlice0, qV, qW, qX, qY, qZ, zK, fixed, zL, wit, Option.isSome_some, qH, evSliceP, evPre, St.with, zE, Array.size, te, einl, inls, efr]) trivial (fun _ _ => ?_) (fun s _ _ b1 b2 b3 => ?_)
  rotate_left
  · have g1 := hC s b1
    have g2 := hsh s b1
    have g3 := hin s b1
    simp (maxSteps := 1000000) (implicitDefEqProofs := false) only [b1, b2, b3, g1, g2, g3, lC, vI, Int.natCast_nonneg, Int.toNat_natCast, List.getElem?_map, List.length_map, ss, sd, zI, qG, zG, zH, St.get, qE, qF, qB, zD, norm, look, zF, qA, qI, St.alloc, St.drop, zA, part, zC, depth, qD, ↓reduceIte, Nat.reduceBEq, Nat.reduceAdd, Nat.reduceSub, Nat.reduceMul, Nat.reduceEqDiff, Nat.reduceLeDiff, Nat.reduceLT, qJ, qK, qL, qM, qN, qO, qP, qQ, qR, zJ, qS, qC, qT, evSlice0, qV, qW, qX, qY, qZ, zK, fixed, zL, wit, Option.isSome_some, qH, evSliceP, evPre, St.with, zE, Array.size, te, einl, inls, efr]
    (first | exact ⟨(), trivial⟩ | refine ⟨(), ?_, trivial⟩ | skip)
  simp (maxSteps := 1000000) (implicitDefEqProofs := false) only [Int.lt_irrefl, lC, hina, hN, List.length_map, ss, sd, zI, qG, zG, zH, St.get, qE, qF, qB, zD, norm, look, zF, qA, qI, St.alloc, St.drop, zA, part, zC, depth, qD, ↓reduceIte, Nat.reduceBEq, Nat.reduceAdd, Nat.reduceSub, Nat.reduceMul, Nat.reduceEqDiff, Nat.reduceLeDiff, Nat.reduceLT, qJ, qK, qL, qM, qN, qO, qP, qQ, qR, zJ, qS, qC, qT, evSlice0, qV, qW, qX, qY, qZ, zK, fixed, zL, wit, Option.isSome_some, qH, evSliceP, evPre, St.with, zE, Array.size, te, einl, inls, efr]
  generalize hr : loopAt _ _ _ _ _ _ = r; revert r
  refine loop_nat N (fun i _ => [(54, .int .i64 (i : Nat))]) (fun i _ => [(36, arrO (part0 fx i) N)]) (fun _ (_ : Unit) => True) () (by omega) (by simp (maxSteps := 1000000) (implicitDefEqProofs := false) only [part_zero, arrO, hN, Int.natCast_zero, ss, sd, zI, qG, zG, zH, St.get, qE, qF, qB, zD, norm, look, zF, qA, qI, St.alloc, St.drop, zA, part, zC, depth, qD, ↓reduceIte, Nat.reduceBEq, Nat.reduceAdd, Nat.reduceSub, Nat.reduceMul, Nat.reduceEqDiff, Nat.reduceLeDiff, Nat.reduceLT, qJ, qK, qL, qM, qN, qO, qP, qQ, qR, zJ, qS, qC, qT, evSlice0, qV, qW, qX, qY, qZ, zK, fixed, zL, wit, Option.isSome_some, qH, evSliceP, evPre, St.with, zE, Array.size, te, einl, inls, efr]) trivial (fun _ _ => ?_) (fun i _ _ b1 b2 b3 => ?_)
  rotate_left
  · have hbi := hbc i b1
    have hfi := hbf i b1
    have hfe := hfix i
    have gx : (fnL (part0 fx i) N)[i]? = some (.int .i64 (part0 fx i i)) := fn_get b1
    obtain ⟨c1, gc, est, hs1⟩ := hst i b1
    have b1' : i < cs.length := by omega
    have b2' : (i : Int) < (cs.length : Int) := by omega
    cases hc : bit sc i with
    | true =>
      rw [hc, if_pos rfl] at hbi hfe
      have e1 := part_skip hfe
      obtain ⟨st, co, ps⟩ := c1
      simp (maxSteps := 1000000) (implicitDefEqProofs := false) only [b1, b2, b1', b2', b3, gc, hbi, hN, e1, arrO, encCem, show ((1 : Int) == 0) = false by decide, Int.natCast_nonneg, Int.toNat_natCast, List.getElem?_map, List.length_map, ss, sd, zI, qG, zG, zH, St.get, qE, qF, qB, zD, norm, look, zF, qA, qI, St.alloc, St.drop, zA, part, zC, depth, qD, ↓reduceIte, Nat.reduceBEq, Nat.reduceAdd, Nat.reduceSub, Nat.reduceMul, Nat.reduceEqDiff, Nat.reduceLeDiff, Nat.reduceLT, qJ, qK, qL, qM, qN, qO, qP, qQ, qR, zJ, qS, qC, qT, evSlice0, qV, qW, qX, qY, qZ, zK, fixed, zL, wit, Option.isSome_some, qH, evSliceP, evPre, St.with, zE, Array.size, te, einl, inls, efr]
      (first | exact ⟨(), trivial⟩ | refine ⟨(), ?_, trivial⟩ | skip)
    | false =>
      rw [hc, if_neg (by decide)] at hbi hfe
      cases hfb : bit full i with
      | true =>
        rw [hfb, if_pos rfl] at hfi hfe
        have e1 : (fnL (part0 fx i) N).set i (.int .i64 (fx i)) = fnL (part0 fx (i + 1)) N := by rw [fn_set b1, ← part_upd]
        have hfin := hfixin i b1
        have wf : IntKind.i64.wrap (sA i * dn) = fx i := by rw [← hfe]; exact wrap_in (by omega)
        obtain ⟨st, co, ps⟩ := c1
        dsimp only at est
        subst est
        simp (maxSteps := 1000000) (implicitDefEqProofs := false) only [b1, b2, b1', b2', b3, gc, gx, hbi, hfi, hN, lu, wf, e1, arrO, encCem, beq_self_eq_true, Int.natCast_nonneg, Int.toNat_natCast, List.getElem?_map, List.length_map, ss, sd, zI, qG, zG, zH, St.get, qE, qF, qB, zD, norm, look, zF, qA, qI, St.alloc, St.drop, zA, part, zC, depth, qD, ↓reduceIte, Nat.reduceBEq, Nat.reduceAdd, Nat.reduceSub, Nat.reduceMul, Nat.reduceEqDiff, Nat.reduceLeDiff, Nat.reduceLT, qJ, qK, qL, qM, qN, qO, qP, qQ, qR, zJ, qS, qC, qT, evSlice0, qV, qW, qX, qY, qZ, zK, fixed, zL, wit, Option.isSome_some, qH, evSliceP, evPre, St.with, zE, Array.size, te, einl, inls, efr]
        (first | exact ⟨(), trivial⟩ | refine ⟨(), ?_, trivial⟩ | skip)
      | false =>
        rw [hfb, if_neg (by decide)] at hfi hfe
        have e1 := part_skip hfe
        obtain ⟨st, co, ps⟩ := c1
        simp (maxSteps := 1000000) (implicitDefEqProofs := false) only [b1, b2, b1', b2', b3, gc, hbi, hfi, hN, e1, arrO, encCem, beq_self_eq_true, show ((0 : Int) == 1) = false by decide, Int.natCast_nonneg, Int.toNat_natCast, List.getElem?_map, List.length_map, ss, sd, zI, qG, zG, zH, St.get, qE, qF, qB, zD, norm, look, zF, qA, qI, St.alloc, St.drop, zA, part, zC, depth, qD, ↓reduceIte, Nat.reduceBEq, Nat.reduceAdd, Nat.reduceSub, Nat.reduceMul, Nat.reduceEqDiff, Nat.reduceLeDiff, Nat.reduceLT, qJ, qK, qL, qM, qN, qO, qP, qQ, qR, zJ, qS, qC, qT, evSlice0, qV, qW, qX, qY, qZ, zK, fixed, zL, wit, Option.isSome_some, qH, evSliceP, evPre, St.with, zE, Array.size, te, einl, inls, efr]
        (first | exact ⟨(), trivial⟩ | refine ⟨(), ?_, trivial⟩ | skip)
  simp (maxSteps := 1000000) (implicitDefEqProofs := false) only [Int.lt_irrefl, arrO, part_all, hN, List.length_map, ss, sd, zI, qG, zG, zH, St.get, qE, qF, qB, zD, norm, look, zF, qA, qI, St.alloc, St.drop, zA, part, zC, depth, qD, ↓reduceIte, Nat.reduceBEq, Nat.reduceAdd, Nat.reduceSub, Nat.reduceMul, Nat.reduceEqDiff, Nat.reduceLeDiff, Nat.reduceLT, qJ, qK, qL, qM, qN, qO, qP, qQ, qR, zJ, qS, qC, qT, evSlice0, qV, qW, qX, qY, qZ, zK, fixed, zL, wit, Option.isSome_some, qH, evSliceP, evPre, St.with, zE, Array.size, te, einl, inls, efr]
  generalize hr : loopAt _ _ _ _ _ _ = r; revert r
  refine loop_nat k (fun t _ => [(83, .int .i64 (t : Nat))]) (fun t _ => [(36, arrO (xa t 0) N)]) (fun _ (_ : Unit) => True) () (by omega) (by simp (maxSteps := 1000000) (implicitDefEqProofs := false) only [hx0, arrO, lR, Int.natCast_zero, ss, sd, zI, qG, zG, zH, St.get, qE, qF, qB, zD, norm, look, zF, qA, qI, St.alloc, St.drop, zA, part, zC, depth, qD, ↓reduceIte, Nat.reduceBEq, Nat.reduceAdd, Nat.reduceSub, Nat.reduceMul, Nat.reduceEqDiff, Nat.reduceLeDiff, Nat.reduceLT, qJ, qK, qL, qM, qN, qO, qP, qQ, qR, zJ, qS, qC, qT, evSlice0, qV, qW, qX, qY, qZ, zK, fixed, zL, wit, Option.isSome_some, qH, evSliceP, evPre, St.with, zE, Array.size, te, einl, inls, efr]) trivial (fun _ _ => ?_) (fun t _ _ b1 b2 b3 => ?_)
  · simp (maxSteps := 1000000) (implicitDefEqProofs := false) only [Int.lt_irrefl, arrO, lR, hxa, hN, lu, List.length_map, ss, sd, zI, qG, zG, zH, St.get, qE, qF, qB, zD, norm, look, zF, qA, qI, St.alloc, St.drop, zA, part, zC, depth, qD, ↓reduceIte, Nat.reduceBEq, Nat.reduceAdd, Nat.reduceSub, Nat.reduceMul, Nat.reduceEqDiff, Nat.reduceLeDiff, Nat.reduceLT, qJ, qK, qL, qM, qN, qO, qP, qQ, qR, zJ, qS, qC, qT, evSlice0, qV, qW, qX, qY, qZ, zK, fixed, zL, wit, Option.isSome_some, qH, evSliceP, evPre, St.with, zE, Array.size, te, einl, inls, efr]
    generalize hr : loopAt _ _ _ _ _ _ = r; revert r
    refine loop_nat N (fun i _ => [(175, .int .i64 (i : Nat))]) (fun _ _ => []) (fun i (_ : Unit) => ∀ j, j < i → 0 ≤ am j ∧ am j ≤ 1073741824) () (by omega) (by simp (maxSteps := 1000000) (implicitDefEqProofs := false) only [lu, Int.natCast_zero, ss, sd, zI, qG, zG, zH, St.get, qE, qF, qB, zD, norm, look, zF, qA, qI, St.alloc, St.drop, zA, part, zC, depth, qD, ↓reduceIte, Nat.reduceBEq, Nat.reduceAdd, Nat.reduceSub, Nat.reduceMul, Nat.reduceEqDiff, Nat.reduceLeDiff, Nat.reduceLT, qJ, qK, qL, qM, qN, qO, qP, qQ, qR, zJ, qS, qC, qT, evSlice0, qV, qW, qX, qY, qZ, zK, fixed, zL, wit, Option.isSome_some, qH, evSliceP, evPre, St.with, zE, Array.size, te, einl, inls, efr]) (fun _ h => by omega) (fun _ hI => ?_) (fun i _ hI d1 d2 d3 => ?_)
    · rw [if_pos hI]
      simp (maxSteps := 1000000) (implicitDefEqProofs := false) only [Int.lt_irrefl, fn_take, lu, List.length_map, Try.ntmps92, Try.results92, efc92, fc92, ss, sd, zI, qG, zG, zH, St.get, qE, qF, qB, zD, norm, look, zF, qA, qI, St.alloc, St.drop, zA, part, zC, depth, qD, ↓reduceIte, Nat.reduceBEq, Nat.reduceAdd, Nat.reduceSub, Nat.reduceMul, Nat.reduceEqDiff, Nat.reduceLeDiff, Nat.reduceLT, qJ, qK, qL, qM, qN, qO, qP, qQ, qR, zJ, qS, qC, qT, evSlice0, qV, qW, qX, qY, qZ, zK, fixed, zL, wit, Option.isSome_some, qH, evSliceP, evPre, St.with, zE, Array.size, te, einl, inls, efr]
    · have gi : (fnL am N)[i]? = some (.int .i64 (am i)) := fn_get d1
      by_cases h1 : am i < 0
      · rw [if_neg (fun h => by have := h i d1; omega)]
        simp (maxSteps := 1000000) (implicitDefEqProofs := false) only [d1, d2, d3, gi, h1, fn_take, lu, Int.natCast_nonneg, Int.toNat_natCast, List.length_map, Try.ntmps92, Try.results92, efc92, fc92, ss, sd, zI, qG, zG, zH, St.get, qE, qF, qB, zD, norm, look, zF, qA, qI, St.alloc, St.drop, zA, part, zC, depth, qD, ↓reduceIte, Nat.reduceBEq, Nat.reduceAdd, Nat.reduceSub, Nat.reduceMul, Nat.reduceEqDiff, Nat.reduceLeDiff, Nat.reduceLT, qJ, qK, qL, qM, qN, qO, qP, qQ, qR, zJ, qS, qC, qT, evSlice0, qV, qW, qX, qY, qZ, zK, fixed, zL, wit, Option.isSome_some, qH, evSliceP, evPre, St.with, zE, Array.size, te, einl, inls, efr]
      · by_cases h2 : 1073741824 < am i
        · rw [if_neg (fun h => by have := h i d1; omega)]
          simp (maxSteps := 1000000) (implicitDefEqProofs := false) only [d1, d2, d3, gi, h1, h2, fn_take, lu, Int.natCast_nonneg, Int.toNat_natCast, List.length_map, Try.ntmps92, Try.results92, efc92, fc92, ss, sd, zI, qG, zG, zH, St.get, qE, qF, qB, zD, norm, look, zF, qA, qI, St.alloc, St.drop, zA, part, zC, depth, qD, ↓reduceIte, Nat.reduceBEq, Nat.reduceAdd, Nat.reduceSub, Nat.reduceMul, Nat.reduceEqDiff, Nat.reduceLeDiff, Nat.reduceLT, qJ, qK, qL, qM, qN, qO, qP, qQ, qR, zJ, qS, qC, qT, evSlice0, qV, qW, qX, qY, qZ, zK, fixed, zL, wit, Option.isSome_some, qH, evSliceP, evPre, St.with, zE, Array.size, te, einl, inls, efr]
        · simp (maxSteps := 1000000) (implicitDefEqProofs := false) only [d1, d2, d3, gi, h1, h2, fn_take, lu, Int.natCast_nonneg, Int.toNat_natCast, List.length_map, ss, sd, zI, qG, zG, zH, St.get, qE, qF, qB, zD, norm, look, zF, qA, qI, St.alloc, St.drop, zA, part, zC, depth, qD, ↓reduceIte, Nat.reduceBEq, Nat.reduceAdd, Nat.reduceSub, Nat.reduceMul, Nat.reduceEqDiff, Nat.reduceLeDiff, Nat.reduceLT, qJ, qK, qL, qM, qN, qO, qP, qQ, qR, zJ, qS, qC, qT, evSlice0, qV, qW, qX, qY, qZ, zK, fixed, zL, wit, Option.isSome_some, qH, evSliceP, evPre, St.with, zE, Array.size, te, einl, inls, efr]
          refine ⟨(), fun j hj => ?_⟩
          by_cases hji : j = i
          · subst hji; omega
          · exact hI j (by omega)
  · have gR := hR t b1
    have hrt := hrow t b1
    have he := hedge (row t)
    have hbt := hbh t b1
    have hein := hedgein (row t)
    have hcase : ((0 : Int) < ((row t : Nat) : Int) ∧ bit high (row t) = true ∧ eM (row t) = tot * up.getD (row t - 1) 0) ∨ ((0 : Int) < ((row t : Nat) : Int) ∧ bit high (row t) = false ∧ eM (row t) = tot * lo.getD (row t - 1) 0) ∨ (¬ (0 : Int) < ((row t : Nat) : Int) ∧ True ∧ eM (row t) = tot) := by
      by_cases h0 : row t = 0
      · rw [if_pos h0] at he; exact .inr (.inr ⟨by omega, trivial, he⟩)
      · rw [if_neg h0] at he
        cases hb2 : bit high (row t) with
        | true => rw [hb2, if_pos rfl] at he; exact .inl ⟨by omega, rfl, he⟩
        | false => rw [hb2, if_neg (by decide)] at he; exact .inr (.inl ⟨by omega, rfl, he⟩)
    have hw1 : (0 : Int) < ((row t : Nat) : Int) → IntKind.i64.wrap (((row t : Nat) : Int) - 1) = ((row t - 1 : Nat) : Int) := fun h => by rw [wrap_in (by omega)]; omega
    have hLm : (0 : Int) < ((row t : Nat) : Int) → (0 ≤ lo.getD (row t - 1) 0 ∧ lo.getD (row t - 1) 0 ≤ 20) ∧ lo[row t - 1]? = some (lo.getD (row t - 1) 0) := fun h => by
      rw [getD_in (by omega)]; exact ⟨hlo _ (List.getElem_mem _), List.getElem?_eq_getElem _⟩
    have hUm : (0 : Int) < ((row t : Nat) : Int) → (0 ≤ up.getD (row t - 1) 0 ∧ up.getD (row t - 1) 0 ≤ 20) ∧ up[row t - 1]? = some (up.getD (row t - 1) 0) := fun h => by
      rw [getD_in (by omega)]; exact ⟨hhi _ (List.getElem_mem _), List.getElem?_eq_getElem _⟩
    have j1 : (0 : Int) < ((row t : Nat) : Int) → ((row t - 1 : Nat) : Int) < (lo.length : Int) := fun h => by omega
    have j2 : (0 : Int) < ((row t : Nat) : Int) → ((row t - 1 : Nat) : Int) < (up.length : Int) := fun h => by omega
    generalize lo.getD (row t - 1) 0 = L at *
    generalize up.getD (row t - 1) 0 = U at *
    have w4 : (0 : Int) < ((row t : Nat) : Int) → IntKind.i64.wrap (tot * L) = tot * L := fun h => by
      have m1 := mul_in (show 0 ≤ tot ∧ tot ≤ 1000 by omega) (hLm h).1
      exact wrap_in (by omega)
    have w5 : (0 : Int) < ((row t : Nat) : Int) → IntKind.i64.wrap (tot * U) = tot * U := fun h => by
      have m1 := mul_in (show 0 ≤ tot ∧ tot ≤ 1000 by omega) (hUm h).1
      exact wrap_in (by omega)
    have l2 := fun h => (hLm h).2
    have u2 := fun h => (hUm h).2
    clear he hedge hLm hUm
    apply share3 hcase
    · rintro ⟨q1, qb, e⟩ main
      simp (maxSteps := 1000000) (implicitDefEqProofs := false) only [b1, b2, b3, gR, q1, qb, hbt, hw1, w4, w5, l2, u2, j1, j2, lR, hN, vI, arrO, evRegion_st hk1, if_true, Bool.false_eq_true, if_false, beq_self_eq_true, show ((0 : Int) == 1) = false by decide, Int.natCast_nonneg, Int.toNat_natCast, List.getElem?_map, List.length_map, ss, sd, zI, qG, zG, zH, St.get, qE, qF, qB, zD, norm, look, zF, qA, qI, St.alloc, St.drop, zA, part, zC, depth, qD, ↓reduceIte, Nat.reduceBEq, Nat.reduceAdd, Nat.reduceSub, Nat.reduceMul, Nat.reduceEqDiff, Nat.reduceLeDiff, Nat.reduceLT, qJ, qK, qL, qM, qN, qO, qP, qQ, qR, zJ, qS, qC, qT, evSlice0, qV, qW, qX, qY, qZ, zK, fixed, zL, wit, Option.isSome_some, qH, evSliceP, evPre, St.with, zE, Array.size, te, einl, inls, efr]
      revert e
      generalize tot * U = z
      revert z
      exact main
    · rintro ⟨q1, qb, e⟩ main
      simp (maxSteps := 1000000) (implicitDefEqProofs := false) only [b1, b2, b3, gR, q1, qb, hbt, hw1, w4, w5, l2, u2, j1, j2, lR, hN, vI, arrO, evRegion_st hk1, if_true, Bool.false_eq_true, if_false, beq_self_eq_true, show ((0 : Int) == 1) = false by decide, Int.natCast_nonneg, Int.toNat_natCast, List.getElem?_map, List.length_map, ss, sd, zI, qG, zG, zH, St.get, qE, qF, qB, zD, norm, look, zF, qA, qI, St.alloc, St.drop, zA, part, zC, depth, qD, ↓reduceIte, Nat.reduceBEq, Nat.reduceAdd, Nat.reduceSub, Nat.reduceMul, Nat.reduceEqDiff, Nat.reduceLeDiff, Nat.reduceLT, qJ, qK, qL, qM, qN, qO, qP, qQ, qR, zJ, qS, qC, qT, evSlice0, qV, qW, qX, qY, qZ, zK, fixed, zL, wit, Option.isSome_some, qH, evSliceP, evPre, St.with, zE, Array.size, te, einl, inls, efr]
      exact main _ e
    · rintro ⟨q1, qb, e⟩ main
      simp (maxSteps := 1000000) (implicitDefEqProofs := false) only [b1, b2, b3, gR, q1, qb, hbt, hw1, w4, w5, l2, u2, j1, j2, lR, hN, vI, arrO, evRegion_st hk1, if_true, Bool.false_eq_true, if_false, beq_self_eq_true, show ((0 : Int) == 1) = false by decide, Int.natCast_nonneg, Int.toNat_natCast, List.getElem?_map, List.length_map, ss, sd, zI, qG, zG, zH, St.get, qE, qF, qB, zD, norm, look, zF, qA, qI, St.alloc, St.drop, zA, part, zC, depth, qD, ↓reduceIte, Nat.reduceBEq, Nat.reduceAdd, Nat.reduceSub, Nat.reduceMul, Nat.reduceEqDiff, Nat.reduceLeDiff, Nat.reduceLT, qJ, qK, qL, qM, qN, qO, qP, qQ, qR, zJ, qS, qC, qT, evSlice0, qV, qW, qX, qY, qZ, zK, fixed, zL, wit, Option.isSome_some, qH, evSliceP, evPre, St.with, zE, Array.size, te, einl, inls, efr]
      exact main _ e
    intro z e
    generalize hr : loopAt _ _ _ _ _ _ = r; revert r
    refine loop_nat N (fun i _ => [(18, .int .i64 (rt t i)), (122, .int .i64 (i : Nat))]) (fun _ _ => []) (fun _ (_ : Unit) => True) () (by omega) (by simp (maxSteps := 1000000) (implicitDefEqProofs := false) only [hr0, e, hN, arrO, Int.natCast_zero, ss, sd, zI, qG, zG, zH, St.get, qE, qF, qB, zD, norm, look, zF, qA, qI, St.alloc, St.drop, zA, part, zC, depth, qD, ↓reduceIte, Nat.reduceBEq, Nat.reduceAdd, Nat.reduceSub, Nat.reduceMul, Nat.reduceEqDiff, Nat.reduceLeDiff, Nat.reduceLT, qJ, qK, qL, qM, qN, qO, qP, qQ, qR, zJ, qS, qC, qT, evSlice0, qV, qW, qX, qY, qZ, zK, fixed, zL, wit, Option.isSome_some, qH, evSliceP, evPre, St.with, zE, Array.size, te, einl, inls, efr]) trivial (fun _ _ => ?_) (fun i _ _ d1 d2 d3 => ?_)
    rotate_left
    · have d1' : i < cs.length := by omega
      have hbi := hbc i d1
      cases hc : bit sc i with
      | true =>
        have e1 := hri t i hc
        rw [hc, if_pos rfl] at hbi
        simp (maxSteps := 1000000) (implicitDefEqProofs := false) only [d1, d2, d3, hbi, e1, arrO, show ((1 : Int) == 0) = false by decide, Int.natCast_nonneg, Int.toNat_natCast, List.length_map, ss, sd, zI, qG, zG, zH, St.get, qE, qF, qB, zD, norm, look, zF, qA, qI, St.alloc, St.drop, zA, part, zC, depth, qD, ↓reduceIte, Nat.reduceBEq, Nat.reduceAdd, Nat.reduceSub, Nat.reduceMul, Nat.reduceEqDiff, Nat.reduceLeDiff, Nat.reduceLT, qJ, qK, qL, qM, qN, qO, qP, qQ, qR, zJ, qS, qC, qT, evSlice0, qV, qW, qX, qY, qZ, zK, fixed, zL, wit, Option.isSome_some, qH, evSliceP, evPre, St.with, zE, Array.size, te, einl, inls, efr]
        (first | exact ⟨(), trivial⟩ | refine ⟨(), ?_, trivial⟩ | skip)
      | false =>
        have e1 := hro t i hc
        rw [hc, if_neg (by decide)] at hbi
        have gx : (fnL (xa t 0) N)[i]? = some (.int .i64 (xa t 0 i)) := fn_get d1
        have ex := hxo t 0 i (by omega) hc
        have k9 := k87 (row t) i d1 (by rw [hps i (by omega)]; omega) (by omega)
        have hcf := hcoef (row t) i d1
        have hfi := hfixin i d1
        have hq := hquo (row t) i d1
        have hr1 := hrs t i (by omega)
        have hr2 := hrs t (i + 1) (by omega)
        have m1 := mul_in hcf hfi
        have v1 : IntKind.i64.wrap (cf (row t) i * fx i) = cf (row t) i * fx i := wrap_in (by omega)
        have v2 : IntKind.i64.wrap ((cf (row t) i * fx i).tdiv dn) = (cf (row t) i * fx i).tdiv dn := wrap_in (by omega)
        have v3 : IntKind.i64.wrap (rt t i - (cf (row t) i * fx i).tdiv dn) = rt t (i + 1) := by rw [← e1]; exact wrap_in (by omega)
        have n0 : ¬ dn = 0 := by omega
        simp (maxSteps := 1000000) (implicitDefEqProofs := false) only [d1, d2, d3, hbi, gx, ex, k9, v1, v2, v3, n0, lu, arrO, evRegion_st hk2, ne_eq, not_false_eq_true, beq_self_eq_true, Int.natCast_nonneg, Int.toNat_natCast, List.length_map, ss, sd, zI, qG, zG, zH, St.get, qE, qF, qB, zD, norm, look, zF, qA, qI, St.alloc, St.drop, zA, part, zC, depth, qD, ↓reduceIte, Nat.reduceBEq, Nat.reduceAdd, Nat.reduceSub, Nat.reduceMul, Nat.reduceEqDiff, Nat.reduceLeDiff, Nat.reduceLT, qJ, qK, qL, qM, qN, qO, qP, qQ, qR, zJ, qS, qC, qT, evSlice0, qV, qW, qX, qY, qZ, zK, fixed, zL, wit, Option.isSome_some, qH, evSliceP, evPre, St.with, zE, Array.size, te, einl, inls, efr]
        (first | exact ⟨(), trivial⟩ | refine ⟨(), ?_, trivial⟩ | skip)
    simp (maxSteps := 1000000) (implicitDefEqProofs := false) only [Int.lt_irrefl, arrO, hN, hra, List.length_map, ss, sd, zI, qG, zG, zH, St.get, qE, qF, qB, zD, norm, look, zF, qA, qI, St.alloc, St.drop, zA, part, zC, depth, qD, ↓reduceIte, Nat.reduceBEq, Nat.reduceAdd, Nat.reduceSub, Nat.reduceMul, Nat.reduceEqDiff, Nat.reduceLeDiff, Nat.reduceLT, qJ, qK, qL, qM, qN, qO, qP, qQ, qR, zJ, qS, qC, qT, evSlice0, qV, qW, qX, qY, qZ, zK, fixed, zL, wit, Option.isSome_some, qH, evSliceP, evPre, St.with, zE, Array.size, te, einl, inls, efr]
    generalize hr : loopAt _ _ _ _ _ _ = r; revert r
    refine loop_nat k (fun s _ => [(149, .int .i64 (s : Nat))]) (fun s _ => [(36, arrO (xa t s) N)]) (fun _ (_ : Unit) => True) () (by omega) (by simp (maxSteps := 1000000) (implicitDefEqProofs := false) only [lC, arrO, Int.natCast_zero, ss, sd, zI, qG, zG, zH, St.get, qE, qF, qB, zD, norm, look, zF, qA, qI, St.alloc, St.drop, zA, part, zC, depth, qD, ↓reduceIte, Nat.reduceBEq, Nat.reduceAdd, Nat.reduceSub, Nat.reduceMul, Nat.reduceEqDiff, Nat.reduceLeDiff, Nat.reduceLT, qJ, qK, qL, qM, qN, qO, qP, qQ, qR, zJ, qS, qC, qT, evSlice0, qV, qW, qX, qY, qZ, zK, fixed, zL, wit, Option.isSome_some, qH, evSliceP, evPre, St.with, zE, Array.size, te, einl, inls, efr]) trivial (fun _ _ => ?_) (fun s _ _ d1 d2 d3 => ?_)
    · have e1 := hxn t
      simp (maxSteps := 1000000) (implicitDefEqProofs := false) only [Int.lt_irrefl, b3, arrO, lC, e1, List.length_map, ss, sd, zI, qG, zG, zH, St.get, qE, qF, qB, zD, norm, look, zF, qA, qI, St.alloc, St.drop, zA, part, zC, depth, qD, ↓reduceIte, Nat.reduceBEq, Nat.reduceAdd, Nat.reduceSub, Nat.reduceMul, Nat.reduceEqDiff, Nat.reduceLeDiff, Nat.reduceLT, qJ, qK, qL, qM, qN, qO, qP, qQ, qR, zJ, qS, qC, qT, evSlice0, qV, qW, qX, qY, qZ, zK, fixed, zL, wit, Option.isSome_some, qH, evSliceP, evPre, St.with, zE, Array.size, te, einl, inls, efr]
      (first | exact ⟨(), trivial⟩ | refine ⟨(), ?_, trivial⟩ | skip)
    · have gC := hC s d1
      have hct := hcol s d1
      have hct' : ((col s : Nat) : Int) < (N : Int) := by omega
      have k89 := k1 s t d1 b1
      have e1 := hxu t s
      have e2 := hGe t s
      have hg := hG t s b1 d1
      have hi1 := hinv s t d1 b1
      have ha1 := hxi t s (col s) (by omega) (by omega) (.inl b1) hct
      have hrm := hrest t
      have gw : (fnL (xa t s) N)[col s]? = some (.int .i64 (xa t s (col s))) := fn_get hct
      have es : (fnL (xa t s) N).set (col s) (.int .i64 (xa t s (col s) + ag t s)) = fnL (xa t (s + 1)) N := by rw [fn_set hct, e1]
      have f5 : IntKind.i64.wrap (sg * iv s t) = sg * iv s t := by rcases hsg2 with h | h <;> rw [h] <;> exact wrap_in (by omega)
      have wg : IntKind.i64.wrap (ag t s) = ag t s := wrap_in (by omega)
      have w9 : IntKind.i64.wrap (xa t s (col s) + ag t s) = xa t s (col s) + ag t s := wrap_in (by omega)
      simp (maxSteps := 1000000) (implicitDefEqProofs := false) only [d1, d2, d3, gC, k89, hct, hct', lC, gw, es, f5, wg, w9, ← e2, vI, arrO, lu, evRegion_st hk3, Int.natCast_nonneg, Int.toNat_natCast, List.getElem?_map, List.length_map, ss, sd, zI, qG, zG, zH, St.get, qE, qF, qB, zD, norm, look, zF, qA, qI, St.alloc, St.drop, zA, part, zC, depth, qD, ↓reduceIte, Nat.reduceBEq, Nat.reduceAdd, Nat.reduceSub, Nat.reduceMul, Nat.reduceEqDiff, Nat.reduceLeDiff, Nat.reduceLT, qJ, qK, qL, qM, qN, qO, qP, qQ, qR, zJ, qS, qC, qT, evSlice0, qV, qW, qX, qY, qZ, zK, fixed, zL, wit, Option.isSome_some, qH, evSliceP, evPre, St.with, zE, Array.size, te, einl, inls, efr]
      (first | exact ⟨(), trivial⟩ | refine ⟨(), ?_, trivial⟩ | skip)
end Go.AM.E

