/-
The vertices of the document (plain).
-/
import Derived.Test.YtkacpekakpbalaaEOptQ
set_option linter.unusedVariables false
set_option linter.unusedSimpArgs false
set_option maxRecDepth 20000

namespace Go.AM.E
open LP

theorem cof_row {k : Nat} (hk : k ≤ 4) {t t' : Nat} (ht : t < k) (ht' : t' < k) (A : Nat → Nat → Int) :
    sumI k (fun s => A t s * cofM k (matA k A) s t') = if t = t' then detF k (matA k A) else 0 := by
  match k, t, t' with
  | 0, _, _ => omega
  | 1, 0, 0 => simp [sumI, cofM, matA, range1, detF, lapTo, sgn]
  | 2, 0, 0 | 2, 0, 1 | 2, 1, 0 | 2, 1, 1 | 3, 0, 0 | 3, 0, 1 | 3, 0, 2 | 3, 1, 0 | 3, 1, 1 | 3, 1, 2 | 3, 2, 0 | 3, 2, 1 | 3, 2, 2 | 4, 0, 0 | 4, 0, 1 | 4, 0, 2 | 4, 0, 3 | 4, 1, 0 | 4, 1, 1 | 4, 1, 2 | 4, 1, 3 | 4, 2, 0 | 4, 2, 1 | 4, 2, 2 | 4, 2, 3 | 4, 3, 0 | 4, 3, 1 | 4, 3, 2 | 4, 3, 3 =>
    simp [sumI, cofM, matA, range2, range3, range4, detF, lapTo, sgn]
    grind
  | _ + 5, _, _ => omega
  | 1, _ + 1, _ => omega
  | 2, _ + 2, _ => omega
  | 3, _ + 3, _ => omega
  | 4, _ + 4, _ => omega
  | 1, _, _ + 1 => omega
  | 2, _, _ + 2 => omega
  | 3, _, _ + 3 => omega
  | 4, _, _ + 4 => omega
theorem inv_row {b : Blend} {x : Bs} (hb : Valid b) (hx : IsBase b x) {t t' : Nat} (ht : t < x.k) (ht' : t' < x.k) : sumI x.k (fun s => coefB b (x.row t) (x.col s) * inv b x s t') = if t = t' then detB b x else 0 := by
  unfold inv detB
  rw [matB_eq hx]
  exact cof_row (k_le hb hx) ht ht' (fun t s => coefB b (x.row t) (x.col s))
def zAt (b : Blend) (x : Bs) (high full i : Nat) : Rat := (amtM b x high full i : Rat) / (denB b x : Rat)
theorem denQ_pos {b : Blend} {x : Bs} (hx : IsBase b x) : (0 : Rat) < (denB b x : Rat) := by
  have := denB_pos hx
  simpa using cast_lt.2 (show (0 : Int) < denB b x by omega)
theorem amt_out {b : Blend} (hb : Valid b) {x : Bs} (hx : IsBase b x) {high full i : Nat} (hi : i < b.cs.length) (hc : bit x.cs i = false) : amtM b x high full i = if bit full i = true then stAt b i * denB b x else 0 := by
  have h5 : i < 5 := by have := hb.2.1.2; omega
  unfold amtM
  have e0 : (sumI x.k fun t => sumI x.k fun s => if x.col s = i then sgD (detB b x) * inv b x s t * restM b x high full t else 0) = 0 := by
    rw [sumI_congr (g := fun _ => 0) (fun t _ => ?_), sumI_zero]
    rw [sumI_congr (g := fun _ => 0) (fun s hs => ?_), sumI_zero]
    refine if_neg fun e => ?_
    have := (mem_C h5).1 (e ▸ col_mem hx hs)
    rw [hc] at this; cases this
  rw [e0, Int.add_zero]
  unfold fixM
  rw [if_neg (by rw [hc]; decide)]
theorem amt_in {b : Blend} {x : Bs} (hx : IsBase b x) {high full s0 : Nat} (hs0 : s0 < x.k) : amtM b x high full (x.col s0) = sgD (detB b x) * sumI x.k fun t => inv b x s0 t * restM b x high full t := by
  have hc : bit x.cs (x.col s0) = true := (mem_memM.1 (col_mem hx hs0)).2
  have hk : x.C.length = x.k := hx.2.2.1
  have inj : ∀ s, s < x.k → x.col s = x.col s0 → s = s0 := by
    intro s hs h1
    unfold Bs.col at h1
    rw [getD_in (by omega), getD_in (by omega)] at h1
    exact memM_inj (by show s < x.C.length; omega) (by show s0 < x.C.length; omega) h1
  unfold amtM
  have e1 : ∀ t, (sumI x.k fun s => if x.col s = x.col s0 then sgD (detB b x) * inv b x s t * restM b x high full t else 0) = sgD (detB b x) * (inv b x s0 t * restM b x high full t) := by
    intro t
    rw [sumI_congr (g := fun s => if s = s0 then sgD (detB b x) * (inv b x s0 t * restM b x high full t) else 0), sumI_one _ hs0]
    intro s hs
    by_cases es : s = s0
    · rw [if_pos es, es, if_pos rfl]; grind
    · rw [if_neg es, if_neg fun e2 => es (inj s hs e2)]
  rw [sumI_congr fun t _ => e1 t, sumI_mul]
  have f0 : fixM b x full (x.col s0) = 0 := by unfold fixM; rw [if_pos hc]
  rw [f0, Int.zero_add]
theorem at_basis {b : Blend} (hb : Valid b) {x : Bs} (hx : IsBase b x) (high full : Nat) : At b x high full (zAt b x high full) := by
  have hd := denQ_pos hx
  constructor
  · intro i hi hc
    unfold zAt
    rw [amt_out hb hx hi hc]
    split
    · rw [Rat.intCast_mul]; grind
    · simp; grind
  · intro r hr
    obtain ⟨t, ht, rfl⟩ := row_of hr
    -- the part of the basis
    have e1 : S x.k (fun s => (coefB b (x.row t) (x.col s) : Rat) * zAt b x high full (x.col s)) = (restM b x high full t : Rat) := by
      have e2 : ∀ s, s < x.k → (coefB b (x.row t) (x.col s) : Rat) * zAt b x high full (x.col s) = (1 / (denB b x : Rat)) * ((coefB b (x.row t) (x.col s) * amtM b x high full (x.col s) : Int) : Rat) := by
        intro s _
        unfold zAt
        rw [Rat.intCast_mul]; grind
      rw [S_congr e2, S_mul, ← cast_sumI]
      have e3 : sumI x.k (fun s => coefB b (x.row t) (x.col s) * amtM b x high full (x.col s)) = denB b x * restM b x high full t := by
        have e4 : ∀ s, s < x.k → coefB b (x.row t) (x.col s) * amtM b x high full (x.col s) = sumI x.k fun t' => sgD (detB b x) * restM b x high full t' * (coefB b (x.row t) (x.col s) * inv b x s t') := by
          intro s hs
          rw [amt_in hx hs]
          have : ∀ a : Int, coefB b (x.row t) (x.col s) * (sgD (detB b x) * a) = (coefB b (x.row t) (x.col s) * sgD (detB b x)) * a := fun a => by grind
          rw [this, ← sumI_mul]
          exact sumI_congr fun t' _ => by grind
        rw [sumI_congr e4, sumI_swap]
        rw [sumI_congr (g := fun t' => if t' = t then denB b x * restM b x high full t else 0), sumI_one _ ht]
        intro t' ht'
        rw [sumI_mul, inv_row hb hx ht ht']
        by_cases e : t = t'
        · rw [if_pos e, if_pos e.symm, e]; unfold denB; grind
        · rw [if_neg e, if_neg fun e' => e e'.symm]; simp
      rw [e3, Rat.intCast_mul]; grind
    have e5 : rowQ b (zAt b x high full) (x.row t) = S b.cs.length (fun i => if bit x.cs i = true then (coefB b (x.row t) i : Rat) * zAt b x high full i else 0) + S b.cs.length fun i => if bit x.cs i = true then 0 else (coefB b (x.row t) i : Rat) * zAt b x high full i := by
      rw [← S_add]
      unfold rowQ
      refine S_congr fun i _ => ?_
      cases bit x.cs i <;> simp <;> grind
    rw [e5, S_cols hb hx (fun i => (coefB b (x.row t) i : Rat) * zAt b x high full i), e1]
    unfold restM
    rw [Rat.intCast_sub, cast_sumI]
    have e6 : S b.cs.length (fun i => (((if bit x.cs i = true then 0 else (coefB b (x.row t) i * fixM b x full i).tdiv (denB b x) : Int)) : Rat)) = S b.cs.length fun i => if bit x.cs i = true then 0 else (coefB b (x.row t) i : Rat) * zAt b x high full i := by
      refine S_congr fun i hi => ?_
      cases hc : bit x.cs i with
      | true => rfl
      | false =>
        rw [if_neg (by decide), if_neg (by decide)]
        unfold zAt fixM
        rw [amt_out hb hx hi hc, if_neg (by rw [hc]; decide)]
        have hd1 := denB_pos hx
        split
        · rw [← Int.mul_assoc, Int.mul_tdiv_cancel _ (by omega), Rat.intCast_mul, Rat.intCast_mul]; grind
        · simp; grind
    rw [e6]; grind
structure Vx (b : Blend) (x : Bs) (high full : Nat) : Prop where
  base : IsBase b x
  sum : bit x.rs 0 = true
  high : ∀ i, i < 5 → bit high i = true → bit x.rs i = true ∧ i ≠ 0
  full : ∀ i, i < 5 → bit full i = true → bit x.cs i = false
def accM (b : Blend) (x : Bs) (high full : Nat) : Bool := ((List.range b.cs.length).all fun i => inB (amtM b x high full i) 0 (stAt b i * denB b x)) && keptB b (amtsM b x high full).x (denB b x)
theorem vx_feas {b : Blend} (hb : Valid b) {x : Bs} {high full : Nat} (hv : Vx b x high full) : accM b x high full = true ↔ FeasR b (zAt b x high full) := by
  have hA := at_basis hb hv.base high full
  have ht := amts_times hb hv.base hA
  have hd := denQ_pos hv.base
  have h1 : ((List.range b.cs.length).all fun i => inB (amtM b x high full i) 0 (stAt b i * denB b x)) = true ↔ ∀ i, i < b.cs.length → 0 ≤ zAt b x high full i ∧ zAt b x high full i ≤ (stAt b i : Rat) := by
    rw [List.all_eq_true]
    constructor
    · intro h i hi
      obtain ⟨h1, h2⟩ := inB_iff.1 (h i (by simpa using hi))
      have e := amt_cast hb hv.base hA hi
      rw [← cast_le0, e] at h1
      rw [← cast_le, e, Rat.intCast_mul, Rat.mul_comm (stAt b i : Rat), mul_le_pos hd] at h2
      refine ⟨?_, h2⟩
      have e0 : (denB b x : Rat) * 0 = 0 := by grind
      exact (mul_le_pos hd).1 (by rw [e0]; exact h1)
    · intro h i hi
      have hi : i < b.cs.length := by simpa using hi
      obtain ⟨h1, h2⟩ := h i hi
      have e := amt_cast hb hv.base hA hi
      refine inB_iff.2 ⟨?_, ?_⟩
      · rw [← cast_le0, e]; exact Rat.mul_nonneg (by grind) h1
      · rw [← cast_le, e, Rat.intCast_mul, Rat.mul_comm (stAt b i : Rat), mul_le_pos hd]; exact h2
  have h2 : S b.cs.length (zAt b x high full) = (b.tot : Rat) := by
    have := hA.edge 0 ((mem_R (by decide)).2 hv.sum)
    have e : rowQ b (zAt b x high full) 0 = S b.cs.length (zAt b x high full) := S_congr fun i _ => by rw [coef_zero]; simp
    rw [e] at this
    exact this
  have h3 : keptB b (amtsM b x high full).x (denB b x) = true ↔ ∀ k, k < b.lo.length → ((b.tot * b.lo.getD k 0 : Int) : Rat) ≤ rowQ b (zAt b x high full) (k + 1) ∧ rowQ b (zAt b x high full) (k + 1) ≤ ((b.tot * b.hi.getD k 0 : Int) : Rat) := by
    rw [kept_iff]
    refine forall_congr' fun k => forall_congr' fun hk => ?_
    rw [inBounds_iff, ← cast_le, ← cast_le, prop_cast ht]
    have e1 : ((b.lo.getD k 0 * (b.tot * denB b x) : Int) : Rat) = (denB b x : Rat) * ((b.tot * b.lo.getD k 0 : Int) : Rat) := by
      rw [← Rat.intCast_mul, cast_eq']; grind
    have e2 : ((b.hi.getD k 0 * (b.tot * denB b x) : Int) : Rat) = (denB b x : Rat) * ((b.tot * b.hi.getD k 0 : Int) : Rat) := by
      rw [← Rat.intCast_mul, cast_eq']; grind
    rw [e1, e2]
    show (denB b x : Rat) * _ ≤ (denB b x : Rat) * _ ∧ (denB b x : Rat) * _ ≤ (denB b x : Rat) * _ ↔ _
    rw [mul_le_pos hd, mul_le_pos hd]
  unfold accM
  rw [Bool.and_eq_true, h1, h3]
  exact ⟨fun h => ⟨h.1, h2, h.2⟩, fun h => ⟨h.1, h.2.2⟩⟩
theorem vx_cost {b : Blend} (hb : Valid b) {x : Bs} {high full : Nat} (hv : Vx b x high full) : ((costM b (amtsM b x high full).x : Int) : Rat) = (denB b x : Rat) * costQ b (zAt b x high full) :=
  cost_cast (amts_times hb hv.base (at_basis hb hv.base high full))
theorem exch {b : Blend} (hb : Valid b) {q : B4} (hq : q.below 9) (hD : DB (vK (KB b)) q ≠ 0) {z : Nat → Rat} (h1 : ∀ j, j < 9 → loR b j ≤ z j ∧ z j ≤ hiR b j) (h3 : ∀ j, j < 9 → ¬ q.has j → z j = loR b j ∨ z j = hiR b j) :
    ∃ q' : B4, q'.below 9 ∧ DB (vK (KB b)) q' ≠ 0 ∧ ¬ q'.has 5 ∧ ∀ j, j < 9 → ¬ q'.has j → z j = loR b j ∨ z j = hiR b j := by
  by_cases h5 : q.has 5
  rotate_left
  · exact ⟨q, hq, hD, h5, h3⟩
  obtain ⟨s, hs, es⟩ := B4.has_iff.1 h5
  have hat : ∀ j, q.has j → dot (rho (vK (KB b)) q s) (vK (KB b) j) = if j = 5 then 1 else 0 := by
    intro j hj
    obtain ⟨t, ht, e⟩ := B4.has_iff.1 hj
    rw [← e, rho_at hD hs ht]
    by_cases e2 : t = s
    · rw [if_pos e2, if_pos (by rw [e2, es])]
    · rw [if_neg e2, if_neg]
      intro e3
      have h1 := rho_at hD hs ht
      rw [e3, ← es, rho_at hD hs hs, if_pos rfl, if_neg e2] at h1
      grind
  have hex : ∃ j, j < 9 ∧ ¬ q.has j ∧ dot (rho (vK (KB b)) q s) (vK (KB b) j) ≠ 0 := by
    apply Classical.byContradiction
    intro hno
    have hz : ∀ j, j < 9 → j ≠ 5 → dot (rho (vK (KB b)) q s) (vK (KB b) j) = 0 := by
      intro j hj hj5
      by_cases hh : q.has j
      · rw [hat j hh, if_neg hj5]
      · exact Classical.byContradiction fun hn => hno ⟨j, hj, hh, hn⟩
    have hr : ∀ r, r < 4 → dot (rho (vK (KB b)) q s) (vK (KB b) (5 + r)) = -rho (vK (KB b)) q s r := by
      intro r hr
      unfold dot
      rw [vK_row, vK_row, vK_row, vK_row]
      match r with
      | 0 | 1 | 2 | 3 => simp; try grind
      | _ + 4 => omega
    have g1 := hz 6 (by decide) (by decide)
    have g2 := hz 7 (by decide) (by decide)
    have g3 := hz 8 (by decide) (by decide)
    have f1 := hr 1 (by decide)
    have f2 := hr 2 (by decide)
    have f3 := hr 3 (by decide)
    have f0 := hr 0 (by decide)
    rw [show 5 + 1 = 6 from rfl, g1] at f1
    rw [show 5 + 2 = 7 from rfl, g2] at f2
    rw [show 5 + 3 = 8 from rfl, g3] at f3
    rw [show 5 + 0 = 5 from rfl, hat 5 h5, if_pos rfl] at f0
    have g0 := hz 0 (by decide) (by decide)
    have e0 : vK (KB b) 0 0 = 1 := by
      rw [vK_lt (by decide)]
      unfold KB
      rw [if_pos (by have := hb.2.1.1; omega)]
      rfl
    unfold dot at g0
    rw [e0] at g0
    have r1 : rho (vK (KB b)) q s 1 = 0 := by grind
    have r2 : rho (vK (KB b)) q s 2 = 0 := by grind
    have r3 : rho (vK (KB b)) q s 3 = 0 := by grind
    rw [r1, r2, r3] at g0
    grind
  obtain ⟨j, hj, hnj, hne⟩ := hex
  have hj5 : j ≠ 5 := fun e => hnj (e ▸ h5)
  have inj : ∀ t, t < 4 → q.at t = 5 → t = s := by
    intro t ht e
    have h1 := rho_at hD hs ht
    rw [e, ← es, rho_at hD hs hs, if_pos rfl] at h1
    by_cases e2 : t = s
    · exact e2
    · rw [if_neg e2] at h1; grind
  refine ⟨q.set s j, B4.below_set hq hj, ?_, ?_, ?_⟩
  · rw [DB_set]
    have := rho_dot (vK (KB b)) q s (vK (KB b) j)
    intro e
    rw [e] at this
    apply hne
    rw [this]; grind
  · intro hh
    obtain ⟨t, ht, e⟩ := B4.has_iff.1 hh
    rw [B4.set_at q j hs ht] at e
    by_cases e2 : t = s
    · rw [if_pos e2] at e; exact hj5 e
    · rw [if_neg e2] at e; exact e2 (inj t ht e)
  · intro i hi hh
    by_cases hqi : q.has i
    · obtain ⟨t, ht, e⟩ := B4.has_iff.1 hqi
      by_cases e2 : t = s
      · have e5 : i = 5 := by rw [← e, e2, es]
        subst e5
        have := h1 5 (by decide)
        have el : loR b 5 = hiR b 5 := rfl
        rw [el] at this
        right; grind
      · exfalso
        apply hh
        refine B4.has_iff.2 ⟨t, ht, ?_⟩
        rw [B4.set_at q j hs ht, if_neg e2]
        exact e
    · exact h3 i hi hqi
theorem vx_least {b : Blend} (hb : Valid b) (hf : ∃ z, FeasR b z) : ∃ x high full, Vx b x high full ∧ high < 2 ^ (b.lo.length + 1) ∧ full < 2 ^ b.cs.length ∧ accM b x high full = true ∧ ∀ z, FeasR b z → costQ b (zAt b x high full) ≤ costQ b z := by
  obtain ⟨q, hq, hD, hc⟩ := solved (N := 9) (v := vK (KB b)) (l := loR b) (h := hiR b) (c := cR b) (lo_le hb) ⟨⟨5, 6, 7, 8⟩, by unfold B4.below; decide, by
    unfold DB D
    simp only [show vK (KB b) 5 = fun k => if k = 0 then -1 else 0 from funext fun k => vK_row 0 k, show vK (KB b) 6 = fun k => if k = 1 then -1 else 0 from funext fun k => vK_row 1 k, show vK (KB b) 7 = fun k => if k = 2 then -1 else 0 from funext fun k => vK_row 2 k, show vK (KB b) 8 = fun k => if k = 3 then -1 else 0 from funext fun k => vK_row 3 k]
    simp
    grind⟩
  rcases hc with ⟨z, h1, h2, h3, h4⟩ | ⟨s, hs, σ, hσ, h⟩
  rotate_left
  · obtain ⟨x, hl⟩ := linked hb hq hD
    exact absurd hf (found_proof hb hl hs hσ h).2
  obtain ⟨q', hq', hD', h5, h3'⟩ := exch hb hq hD h1 h3
  obtain ⟨x, hl⟩ := linked hb hq' hD'
  obtain ⟨high, full, g1, g2, g3, g4, hA⟩ := found_best hb hl h1 h2 h3'
  have hR0 : bit x.rs 0 = true := (mem_R (by decide)).1 ((hl.rows 0 (by decide)).2 h5)
  have hv : Vx b x high full := by
    refine ⟨hl.base, hR0, fun i hi hh => ?_, fun i hi hh => ?_⟩
    · unfold okHigh at g3
      have h4 : i < 4 := by have := bit_lt g1 hh; have := hb.2.2.1; omega
      have := List.all_eq_true.1 g3 i (by simpa using h4)
      rw [hh] at this
      simpa using this
    · unfold okFull at g4
      have := List.all_eq_true.1 g4 i (by simpa using hi)
      rw [hh] at this
      simpa using this
  have hd := denQ_pos hl.base
  have hz : ∀ i, i < b.cs.length → zAt b x high full i = z i := by
    intro i hi
    unfold zAt
    rw [amt_cast hb hl.base hA hi]; grind
  have hcost : costQ b (zAt b x high full) = costQ b z := S_congr fun i hi => by rw [hz i hi]
  have hfz := feas_of hb h1 h2
  refine ⟨x, high, full, hv, g1, g2, ?_, fun z' hz' => ?_⟩
  · rw [vx_feas hb hv]
    refine ⟨fun i hi => by rw [hz i hi]; exact hfz.1 i hi, by rw [S_congr hz]; exact hfz.2.1, fun k hk => ?_⟩
    rw [S_congr (g := fun i => (coefB b (k + 1) i : Rat) * z i) fun i hi => by rw [hz i hi]]
    exact hfz.2.2 k hk
  · rw [hcost, comp_val hb h2 h4]
    exact weakQ hb hz' _
end Go.AM.E

