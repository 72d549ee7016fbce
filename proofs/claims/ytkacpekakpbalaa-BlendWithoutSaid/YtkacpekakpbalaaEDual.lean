/-
The prices of a basis (blend).
-/
import Derived.Test.YtkacpekakpbalaaEPrs
import Derived.Test.YtkacpekakpbalaaEBases
set_option linter.unusedVariables false
set_option linter.unusedSimpArgs false
set_option maxRecDepth 20000

namespace Go.AM.E
open Go Go.AM Go.Proofs

theorem c89' {b : Blend} (hb : Valid b) {x : Bs} (hx : IsBase b x) {s t : Nat} (hs : s < x.k) (ht : t < x.k) : (orcω E XS).call 89 [.sl false ((matB b x).map encI), .int .i64 (s : Nat), .int .i64 (t : Nat)] = some (.int .i64 (inv b x s t)) := by
  have hk := k_le hb hx
  obtain ⟨n, hn⟩ : ∃ n, x.k = n + 1 := ⟨x.k - 1, by omega⟩
  have hrow : ∀ l ∈ matB b x, l.length = n + 1 := by
    intro l hl
    obtain ⟨r, _, rfl⟩ := List.mem_map.1 hl
    rw [List.length_map, show x.C.length = x.k from hx.2.2.1, hn]
  have hin : ∀ l ∈ matB b x, ∀ v ∈ l, -20 ≤ v ∧ v ≤ 20 := by
    intro l hl v hv
    obtain ⟨r, _, rfl⟩ := List.mem_map.1 hl
    obtain ⟨c, hc, rfl⟩ := List.mem_map.1 hv
    have := coef_in hb (r := r) (cols_lt hx hc)
    omega
  have h := c89 n (matB b x) s t (by omega) (by unfold matB matRC; rw [List.length_map]; exact hn) hrow hin (by omega) (by omega)
  unfold encM at h
  rw [h]
  unfold inv
  rw [hn]
def encBasisA (b : Blend) (x : Bs) : V :=
  .agg [.int .i64 b.tot, .sl false (b.cs.map encCem), .sl false (b.lo.map vI), .sl false (b.hi.map vI), .sl false ((memI x.rs).map vI), .sl false ((memI x.cs).map vI), .int .i64 (detB b x), .clo 89 [.sl false ((matB b x).map encI)] []]
theorem okT56 : okCode (Try.f56.body.getD .skip) = true := by decide +kernel
set_option maxRecDepth 20000 in
set_option maxHeartbeats 16000000 in
theorem c56 (b : Blend) (hb : Valid b) (x : Bs) (hx : IsBase b x) : (orcω E XS).call 56 [encBasisA b x] = some (encPrT (dualM b x)) := by
  refine call_of rfl fn56 rfl ?_
  have hok := okT56
  simp only [Try.f56, Option.getD_some, okCode, Bool.and_eq_true, Bool.and_true, Bool.true_and] at hok
  have hm := hb.2.2.1
  have k1 := fun s t hs ht => c89' hb hx (s := s) (t := t) hs ht
  have hk4 := k_le hb hx
  have hd := denB_small hb hx
  have hd2 := detB_small hb hx
  have k2 := c90 b hb (wD b x) (denB b x) true (by omega) (fun r => by have := wD_small hb hx r; omega)
  have hR : ∀ t, t < x.k → (memI x.rs)[t]? = some ((x.row t : Nat) : Int) := fun t ht => memI_get ht
  have hC : ∀ s, s < x.k → (memI x.cs)[s]? = some ((x.col s : Nat) : Int) := fun s hs => memI_get (by have := hx.2.2.1; unfold Bs.C at this; unfold Bs.k at hs; omega)
  have lR : (memI x.rs).length = x.k := memI_len _
  have lC : (memI x.cs).length = x.k := by rw [memI_len]; exact hx.2.2.1
  have hrow := fun t ht => row_lt hx (t := t) ht
  have hcol := fun s hs => col_lt' hx (s := s) hs
  have hco : ∀ s, s < x.k → ∃ c, b.cs[x.col s]? = some c ∧ c.co = coAt b (x.col s) ∧ 0 ≤ c.co ∧ c.co ≤ 1000 := fun s hs => by
    have h := hcol s hs
    have g := List.getElem?_eq_getElem h
    have e := coAt_some g
    exact ⟨b.cs[x.col s], g, e.symm, by rw [← e]; exact (cem_at hb h).2.1.1, by rw [← e]; exact (cem_at hb h).2.1.2⟩
  have hacc := fun t s ht hs hts i => wAcc_in hb hx (t := t) (s := s) ht hs hts i
  have hG := fun t s ht hs => costG_in hb hx (t := t) (s := s) ht hs
  have hup := wAcc_upd b x
  have h0 := wAcc_zero b x
  have hnx := wAcc_next b x
  have hall := wAcc_all b x
  have hGe : ∀ t s, costG b x t s = sgD (detB b x) * coAt b (x.col s) * inv b x s t := fun _ _ => rfl
  have hinv := fun s t hs ht => inv_small hb hx (s := s) (t := t) hs ht
  have hdn : denB b x = sgD (detB b x) * detB b x := rfl
  have hsg : (detB b x < 0 ∧ sgD (detB b x) = -1) ∨ (¬ detB b x < 0 ∧ sgD (detB b x) = 1) := by
    unfold sgD
    by_cases h : detB b x < 0
    · exact .inl ⟨h, if_pos h⟩
    · exact .inr ⟨h, if_neg h⟩
  unfold dualM
  generalize hdD : denB b x = dn at *
  generalize wAcc b x = ac at *
  generalize costG b x = cg at *
  generalize inv b x = iv at *
  generalize wD b x = wd at *
  generalize coAt b = cA at *
  generalize pricesM b wd dn true = pr at *
  unfold encBasisA
  generalize matB b x = mt at *
  generalize detB b x = d at *
  generalize sgD d = sg at *
  generalize x.k = k at *
  generalize x.row = row at *
  generalize x.col = col at *
  generalize memI x.rs = Rs at *
  generalize memI x.cs = Cs at *
  clear hx hb
  obtain ⟨tot, cs, lo, up⟩ := b
  unfold encBlend at k2
  dsimp only at *
  have hroom : roomy (lo.length + 1) 8 = true := by simp [roomy]; omega
  have w0 : IntKind.i64.wrap ((lo.length : Int) + 1) = ((lo.length + 1 : Nat) : Int) := by rw [wrap_in (by omega)]; omega
  have w3 : IntKind.i64.wrap (sg * d) = dn := by rw [← hdn]; exact wrap_in (by omega)
  have lu : ∀ (f : Nat → Int) (n : Nat), (fnL f n).length = n := fun f n => fn_len f n
  have p1 : ((lo.length + 1 : Nat) : Int) ≤ 4294967296 := by omega
  generalize hN : lo.length + 1 = N at *
  have lu' : ∀ f, (fnL f N).length = N := fun f => fn_len f N
  rcases hsg with ⟨hneg, hsg⟩ | ⟨hneg, hsg⟩ <;> subst hsg
  all_goals
    simp (maxSteps := 1000000) (implicitDefEqProofs := false) only [Try.ntmps56, Try.results56, efc56, fc56, w0, hneg, hroom, p1, fn_zero, Int.natCast_nonneg, Int.toNat_natCast, List.length_map, ss, sd, zI, qG, zG, zH, St.get, qE, qF, qB, zD, norm, look, zF, qA, qI, St.alloc, St.drop, zA, part, zC, depth, qD, ↓reduceIte, Nat.reduceBEq, Nat.reduceAdd, Nat.reduceSub, Nat.reduceMul, Nat.reduceEqDiff, Nat.reduceLeDiff, Nat.reduceLT, qJ, qK, qL, qM, qN, qO, qP, qQ, qR, zJ, qS, qC, qT, evSlice0, qV, qW, qX, qY, qZ, zK, fixed, zL, wit, Option.isSome_some, qH, evSliceP, evPre, St.with, zE, Array.size, te, einl, inls, efr]
    generalize hr : loopAt _ _ _ _ _ _ = r; revert r
    refine loop_nat k (fun t _ => [(21, .int .i64 (t : Nat))]) (fun t _ => [(3, arrO (ac t 0) N)]) (fun _ (_ : Unit) => True) () (by omega) (by simp (maxSteps := 1000000) (implicitDefEqProofs := false) only [h0, arrO, lR, Int.natCast_zero, ss, sd, zI, qG, zG, zH, St.get, qE, qF, qB, zD, norm, look, zF, qA, qI, St.alloc, St.drop, zA, part, zC, depth, qD, ↓reduceIte, Nat.reduceBEq, Nat.reduceAdd, Nat.reduceSub, Nat.reduceMul, Nat.reduceEqDiff, Nat.reduceLeDiff, Nat.reduceLT, qJ, qK, qL, qM, qN, qO, qP, qQ, qR, zJ, qS, qC, qT, evSlice0, qV, qW, qX, qY, qZ, zK, fixed, zL, wit, Option.isSome_some, qH, evSliceP, evPre, St.with, zE, Array.size, te, einl, inls, efr]) trivial (fun _ _ => ?_) (fun t _ _ b1 b2 b3 => ?_)
    · simp (maxSteps := 1000000) (implicitDefEqProofs := false) only [Int.lt_irrefl, encPrT, arrO, lR, hall, w3, k2, lu, fn_take, List.length_map, Try.ntmps56, Try.results56, efc56, fc56, ss, sd, zI, qG, zG, zH, St.get, qE, qF, qB, zD, norm, look, zF, qA, qI, St.alloc, St.drop, zA, part, zC, depth, qD, ↓reduceIte, Nat.reduceBEq, Nat.reduceAdd, Nat.reduceSub, Nat.reduceMul, Nat.reduceEqDiff, Nat.reduceLeDiff, Nat.reduceLT, qJ, qK, qL, qM, qN, qO, qP, qQ, qR, zJ, qS, qC, qT, evSlice0, qV, qW, qX, qY, qZ, zK, fixed, zL, wit, Option.isSome_some, qH, evSliceP, evPre, St.with, zE, Array.size, te, einl, inls, efr]
    · have gR := hR t b1
      have hrt : row t < N := by have := hrow t b1; omega
      have hrt' : ((row t : Nat) : Int) < (N : Int) := by omega
      simp (maxSteps := 1000000) (implicitDefEqProofs := false) only [b1, b2, b3, gR, lR, vI, arrO, Int.natCast_nonneg, Int.toNat_natCast, List.getElem?_map, List.length_map, ss, sd, zI, qG, zG, zH, St.get, qE, qF, qB, zD, norm, look, zF, qA, qI, St.alloc, St.drop, zA, part, zC, depth, qD, ↓reduceIte, Nat.reduceBEq, Nat.reduceAdd, Nat.reduceSub, Nat.reduceMul, Nat.reduceEqDiff, Nat.reduceLeDiff, Nat.reduceLT, qJ, qK, qL, qM, qN, qO, qP, qQ, qR, zJ, qS, qC, qT, evSlice0, qV, qW, qX, qY, qZ, zK, fixed, zL, wit, Option.isSome_some, qH, evSliceP, evPre, St.with, zE, Array.size, te, einl, inls, efr]
      generalize hr : loopAt _ _ _ _ _ _ = r; revert r
      refine loop_nat k (fun s _ => [(29, .int .i64 (s : Nat))]) (fun s _ => [(3, arrO (ac t s) N)]) (fun _ (_ : Unit) => True) () (by omega) (by simp (maxSteps := 1000000) (implicitDefEqProofs := false) only [arrO, lC, Int.natCast_zero, ss, sd, zI, qG, zG, zH, St.get, qE, qF, qB, zD, norm, look, zF, qA, qI, St.alloc, St.drop, zA, part, zC, depth, qD, ↓reduceIte, Nat.reduceBEq, Nat.reduceAdd, Nat.reduceSub, Nat.reduceMul, Nat.reduceEqDiff, Nat.reduceLeDiff, Nat.reduceLT, qJ, qK, qL, qM, qN, qO, qP, qQ, qR, zJ, qS, qC, qT, evSlice0, qV, qW, qX, qY, qZ, zK, fixed, zL, wit, Option.isSome_some, qH, evSliceP, evPre, St.with, zE, Array.size, te, einl, inls, efr]) trivial (fun _ _ => ?_) (fun s _ _ d1 d2 d3 => ?_)
      · have e1 := hnx t
        simp (maxSteps := 1000000) (implicitDefEqProofs := false) only [Int.lt_irrefl, b3, arrO, lC, e1, List.length_map, ss, sd, zI, qG, zG, zH, St.get, qE, qF, qB, zD, norm, look, zF, qA, qI, St.alloc, St.drop, zA, part, zC, depth, qD, ↓reduceIte, Nat.reduceBEq, Nat.reduceAdd, Nat.reduceSub, Nat.reduceMul, Nat.reduceEqDiff, Nat.reduceLeDiff, Nat.reduceLT, qJ, qK, qL, qM, qN, qO, qP, qQ, qR, zJ, qS, qC, qT, evSlice0, qV, qW, qX, qY, qZ, zK, fixed, zL, wit, Option.isSome_some, qH, evSliceP, evPre, St.with, zE, Array.size, te, einl, inls, efr]
        (first | exact ⟨(), trivial⟩ | refine ⟨(), ?_, trivial⟩ | skip)
      · have gC := hC s d1
        obtain ⟨c1, gc1, eco, hco⟩ := hco s d1
        have hct := hcol s d1
        have hct' : ((col s : Nat) : Int) < (cs.length : Int) := by omega
        have k89 := k1 s t d1 b1
        have e1 := hup t s
        have e2 := hGe t s
        have hg := hG t s b1 d1
        have hi1 := hinv s t d1 b1
        have ha1 := hacc t s (by omega) (by omega) (.inl b1) (row t)
        have gw : (fnL (ac t s) N)[row t]? = some (.int .i64 (ac t s (row t))) := fn_get hrt
        have es : (fnL (ac t s) N).set (row t) (.int .i64 (ac t s (row t) + cg t s)) = fnL (ac t (s + 1)) N := by rw [fn_set hrt, e1]
        clear hG hinv hacc hup hGe hR hC
        generalize row t = r at *
        generalize col s = c at *
        generalize iv s t = v at *
        generalize cg t s = g at *
        generalize ac t s r = a at *
        obtain ⟨st, co, ps⟩ := c1
        dsimp only at eco hco
        subst eco
        have z1 : ∀ z : Int, z = -1 ∨ z = 1 → IntKind.i64.wrap (z * cA c) = z * cA c := fun z hz => by rcases hz with h | h <;> subst h <;> exact wrap_in (by omega)
        have z2 : ∀ z : Int, z = -1 ∨ z = 1 → IntKind.i64.wrap (z * cA c * v) = z * cA c * v := fun z hz => by
          have := mul_ab (a := z * cA c) (A := 1000) (b := v) (B := 48000) (by rcases hz with h | h <;> subst h <;> omega) (by omega)
          exact wrap_in (by omega)
        have w5 := z1 (-1) (.inl rfl)
        have w6 := z1 1 (.inr rfl)
        have w7 := z2 (-1) (.inl rfl)
        have w8 := z2 1 (.inr rfl)
        have wg : IntKind.i64.wrap g = g := wrap_in (by omega)
        have w9 : IntKind.i64.wrap (a + g) = a + g := wrap_in (by omega)
        simp (maxSteps := 1000000) (implicitDefEqProofs := false) only [d1, d2, d3, b1, b2, gC, gc1, k89, hrt, hrt', hct, hct', lC, gw, es, w5, w6, w7, w8, w9, wg, ← e2, vI, arrO, lu', encCem, evRegion_st hok, Int.natCast_nonneg, Int.toNat_natCast, List.getElem?_map, List.length_map, ss, sd, zI, qG, zG, zH, St.get, qE, qF, qB, zD, norm, look, zF, qA, qI, St.alloc, St.drop, zA, part, zC, depth, qD, ↓reduceIte, Nat.reduceBEq, Nat.reduceAdd, Nat.reduceSub, Nat.reduceMul, Nat.reduceEqDiff, Nat.reduceLeDiff, Nat.reduceLT, qJ, qK, qL, qM, qN, qO, qP, qQ, qR, zJ, qS, qC, qT, evSlice0, qV, qW, qX, qY, qZ, zK, fixed, zL, wit, Option.isSome_some, qH, evSliceP, evPre, St.with, zE, Array.size, te, einl, inls, efr]
        (first | exact ⟨(), trivial⟩ | refine ⟨(), ?_, trivial⟩ | skip)
end Go.AM.E

