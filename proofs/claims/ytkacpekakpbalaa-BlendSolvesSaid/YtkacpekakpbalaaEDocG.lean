/- A part of the proof: the texts EDocP, EDocQ, EDocS, EDocT, EDocU, one after another. No condition. -/
import Derived.Test.YtkacpekakpbalaaEAmtQ
import Derived.Test.YtkacpekakpbalaaEOptO
import Derived.Test.YtkacpekakpbalaaEPrimP
set_option linter.unusedVariables false
set_option linter.unusedSimpArgs false
set_option maxRecDepth 20000

section
/-
Choices as sets (plain).
-/
namespace Go.AM.E
open Go LP

def bits5 (f : Nat → Bool) : Nat := (f 0).toNat + 2 * (f 1).toNat + 4 * (f 2).toNat + 8 * (f 3).toNat + 16 * (f 4).toNat
theorem bits_at : ∀ (a b c d e : Bool), (memM (a.toNat + 2 * b.toNat + 4 * c.toNat + 8 * d.toNat + 16 * e.toNat) = (if a then [0] else []) ++ (if b then [1] else []) ++ (if c then [2] else []) ++ (if d then [3] else []) ++ (if e then [4] else [])) := by decide
theorem memM_bits (f : Nat → Bool) : memM (bits5 f) = (List.range 5).filter f := by
  unfold bits5
  rw [bits_at]
  have : List.range 5 = [0, 1, 2, 3, 4] := rfl
  rw [this]
  simp only [List.filter_cons, List.filter_nil]
  cases f 0 <;> cases f 1 <;> cases f 2 <;> cases f 3 <;> cases f 4 <;> rfl
theorem range_filter (f : Nat → Bool) : ∀ (m k : Nat), (∀ i, m ≤ i → f i = false) → m ≤ k → (List.range k).filter f = (List.range m).filter f
  | m, 0, _, h => by have : m = 0 := by omega
                     rw [this]
  | m, k + 1, hf, h => by
    rcases Nat.lt_or_ge k m with h1 | h1
    · have : m = k + 1 := by omega
      rw [this]
    · rw [List.range_succ, List.filter_append, range_filter f m k hf h1]
      simp [hf k h1]
theorem filt1 (p : Nat → Bool) (m : Nat) : [m].filter p = if p m = true then [m] else [] := by
  rw [List.filter_cons, List.filter_nil]
theorem ones_eq (vc : List Int) : ∀ m, eqOnes vc m = ((List.range m).filter fun i => decide (vc.getD i 0 = 2)).map fun _ => 1
  | 0 => rfl
  | m + 1 => by
    unfold eqOnes
    rw [ones_eq vc m, List.range_succ, List.filter_append, List.map_append, filt1]
    split
    · rename_i h; rw [if_pos (decide_eq_true h)]; rfl
    · rename_i h; rw [if_neg (by rw [decide_eq_false h]; decide), List.map_nil, List.append_nil]
theorem row_eq (cs : List Cem) (vc : List Int) (k : Nat) : ∀ m, eqRow cs vc k m = ((List.range m).filter fun i => decide (vc.getD i 0 = 2)).map fun i => (cs.getD i cem0).ps.getD k 0
  | 0 => rfl
  | m + 1 => by
    unfold eqRow
    rw [row_eq cs vc k m, List.range_succ, List.filter_append, List.map_append, filt1]
    split
    · rename_i h; rw [if_pos (decide_eq_true h)]; rfl
    · rename_i h; rw [if_neg (by rw [decide_eq_false h]; decide), List.map_nil, List.append_nil]
def rowsOf (vp : List Int) (k : Nat) : List Nat := 0 :: ((List.range k).filter fun i => decide (vp.getD i 0 ≠ 0)).map (· + 1)
theorem rowsOf_succ (vp : List Int) (k : Nat) : rowsOf vp (k + 1) = if vp.getD k 0 = 0 then rowsOf vp k else rowsOf vp k ++ [k + 1] := by
  unfold rowsOf
  rw [List.range_succ, List.filter_append, List.map_append, filt1]
  by_cases h : vp.getD k 0 = 0
  · rw [if_pos h, if_neg (by rw [decide_eq_false (not_not_intro h)]; decide), List.map_nil, List.append_nil]
  · rw [if_neg h, if_pos (decide_eq_true h)]; rfl
def freeOf (vc : List Int) (m : Nat) : List Nat := (List.range m).filter fun i => decide (vc.getD i 0 = 2)
theorem rows_eq (b : Blend) (vc vp : List Int) : ∀ k, eqRows b vc vp k = matRC (coefB b) (rowsOf vp k) (freeOf vc b.cs.length)
  | 0 => by
    show [eqOnes vc b.cs.length] = _
    rw [ones_eq]
    unfold matRC rowsOf freeOf
    simp only [List.range_zero, List.filter_nil, List.map_nil, List.map_cons, coef_zero]
  | k + 1 => by
    unfold eqRows
    rw [rows_eq b vc vp k, rowsOf_succ, row_eq]
    split
    · rfl
    · unfold matRC freeOf
      simp only [List.map_append, List.map_cons, List.map_nil, coef_succ]
      rfl
theorem bit_bits {f : Nat → Bool} {i : Nat} (hi : i < 5) : bit (bits5 f) i = f i := by
  have h := @mem_memM (bits5 f) i
  rw [memM_bits, List.mem_filter, List.mem_range] at h
  cases hb : bit (bits5 f) i <;> cases hf : f i <;> simp_all
theorem bits_lt {f : Nat → Bool} {m : Nat} (hm : m ≤ 5) (h : ∀ i, m ≤ i → f i = false) : bits5 f < 2 ^ m := by
  unfold bits5
  match m, hm with
  | 0, _ => rw [h 0 (by omega), h 1 (by omega), h 2 (by omega), h 3 (by omega), h 4 (by omega)]; decide
  | 1, _ => rw [h 1 (by omega), h 2 (by omega), h 3 (by omega), h 4 (by omega)]; cases f 0 <;> decide
  | 2, _ => rw [h 2 (by omega), h 3 (by omega), h 4 (by omega)]; cases f 0 <;> cases f 1 <;> decide
  | 3, _ => rw [h 3 (by omega), h 4 (by omega)]; cases f 0 <;> cases f 1 <;> cases f 2 <;> decide
  | 4, _ => rw [h 4 (by omega)]; cases f 0 <;> cases f 1 <;> cases f 2 <;> cases f 3 <;> decide
  | 5, _ => cases f 0 <;> cases f 1 <;> cases f 2 <;> cases f 3 <;> cases f 4 <;> decide
def fR (vp : List Int) (nl : Nat) : Nat → Bool
  | 0 => true
  | k + 1 => decide (k < nl) && decide (vp.getD k 0 ≠ 0)
def fH (vp : List Int) (nl : Nat) : Nat → Bool
  | 0 => false
  | k + 1 => decide (k < nl) && decide (vp.getD k 0 = 2)
def fC (vc : List Int) (nc i : Nat) : Bool := decide (i < nc) && decide (vc.getD i 0 = 2)
def fF (vc : List Int) (nc i : Nat) : Bool := decide (i < nc) && decide (vc.getD i 0 = 1)
def chX (b : Blend) (vc vp : List Int) : Bs := ⟨bits5 (fR vp b.lo.length), bits5 (fC vc b.cs.length)⟩
def chH (b : Blend) (vp : List Int) : Nat := bits5 (fH vp b.lo.length)
def chF (b : Blend) (vc : List Int) : Nat := bits5 (fF vc b.cs.length)
theorem chX_C {b : Blend} (hb : Valid b) (vc vp : List Int) : (chX b vc vp).C = freeOf vc b.cs.length := by
  have h5 := hb.2.1
  show memM (bits5 (fC vc b.cs.length)) = _
  rw [memM_bits, range_filter _ b.cs.length 5 (fun i h => by unfold fC; rw [decide_eq_false (by omega)]; rfl) (by omega)]
  unfold freeOf
  refine List.filter_congr fun i hi => ?_
  have := List.mem_range.1 hi
  unfold fC
  rw [decide_eq_true this, Bool.true_and]
theorem chX_R {b : Blend} (hb : Valid b) (vc vp : List Int) : (chX b vc vp).R = rowsOf vp b.lo.length := by
  have h3 := hb.2.2.1
  show memM (bits5 (fR vp b.lo.length)) = _
  have e : List.range 5 = 0 :: (List.range 4).map (· + 1) := rfl
  rw [memM_bits, e, List.filter_cons, if_pos (show fR vp b.lo.length 0 = true from rfl), List.filter_map]
  unfold rowsOf
  congr 2
  rw [range_filter _ b.lo.length 4 (fun i h => by show (decide (i < b.lo.length) && _) = false; rw [decide_eq_false (by omega)]; rfl) (by omega)]
  refine List.filter_congr fun i hi => ?_
  have := List.mem_range.1 hi
  show (decide (i < b.lo.length) && _) = _
  rw [decide_eq_true this, Bool.true_and]
theorem chX_rows {b : Blend} (hb : Valid b) (vc vp : List Int) : eqRows b vc vp b.lo.length = matB b (chX b vc vp) := by
  rw [rows_eq]
  unfold matB
  rw [chX_R hb, chX_C hb]
theorem chX_k {b : Blend} (hb : Valid b) (vc vp : List Int) : (eqRows b vc vp b.lo.length).length = (chX b vc vp).k := by
  rw [chX_rows hb]
  unfold matB matRC Bs.k
  rw [List.length_map]
theorem free_len (vc : List Int) (m : Nat) : (eqOnes vc m).length = (freeOf vc m).length := by
  rw [ones_eq, List.length_map]; rfl
theorem chX_det {b : Blend} (hb : Valid b) (vc vp : List Int) : detF (eqRows b vc vp b.lo.length).length (eqRows b vc vp b.lo.length) = detB b (chX b vc vp) := by
  rw [chX_k hb, chX_rows hb]; rfl
theorem chX_base {b : Blend} (hb : Valid b) (vc vp : List Int) : IsBase b (chX b vc vp) ↔ (eqRows b vc vp b.lo.length).length = (eqOnes vc b.cs.length).length ∧ detF (eqRows b vc vp b.lo.length).length (eqRows b vc vp b.lo.length) ≠ 0 := by
  have h3 := hb.2.2.1
  have h5 := hb.2.1
  rw [chX_det hb]
  unfold IsBase
  have e1 : (chX b vc vp).rs < 2 ^ (b.lo.length + 1) := bits_lt (by omega) fun i h => by
    cases i with
    | zero => omega
    | succ k => show (decide (k < b.lo.length) && _) = false; rw [decide_eq_false (by omega)]; rfl
  have e2 : (chX b vc vp).cs < 2 ^ b.cs.length := bits_lt (by omega) fun i h => by unfold fC; rw [decide_eq_false (by omega)]; rfl
  rw [chX_k hb, free_len, ← chX_C hb vc vp]
  constructor
  · rintro ⟨_, _, h, hd⟩; exact ⟨h.symm, hd⟩
  · rintro ⟨h, hd⟩; exact ⟨e1, e2, h.symm, hd⟩
end Go.AM.E
end

section
/-
The right sides of a choice (plain).
-/
namespace Go.AM.E
open Go LP

theorem chX_vx {b : Blend} {vc vp : List Int} (hx : IsBase b (chX b vc vp)) : Vx b (chX b vc vp) (chH b vp) (chF b vc) where
  base := hx
  sum := by show bit (bits5 (fR vp b.lo.length)) 0 = true; rw [bit_bits (by omega)]; rfl
  high := fun i hi h => by
    rw [show chH b vp = bits5 (fH vp b.lo.length) from rfl, bit_bits hi] at h
    show bit (bits5 (fR vp b.lo.length)) i = true ∧ _
    rw [bit_bits hi]
    cases i with
    | zero => cases h
    | succ k =>
      refine ⟨?_, by omega⟩
      simp only [fH, fR, Bool.and_eq_true, decide_eq_true_eq] at h ⊢
      exact ⟨h.1, by omega⟩
  full := fun i hi h => by
    rw [show chF b vc = bits5 (fF vc b.cs.length) from rfl, bit_bits hi] at h
    show bit (bits5 (fC vc b.cs.length)) i = false
    rw [bit_bits hi]
    simp only [fF, fC, Bool.and_eq_true, decide_eq_true_eq, Bool.and_eq_false_iff, decide_eq_false_iff_not] at h ⊢
    right
    omega
theorem tot_eq (b : Blend) (vc : List Int) : ∀ m, eqTot b.tot b.cs vc m = b.tot - sumI m fun i => if vc.getD i 0 = 1 then stAt b i else 0
  | 0 => by show b.tot = b.tot - 0; omega
  | m + 1 => by
    show (if vc.getD m 0 = 1 then eqTot b.tot b.cs vc m - (b.cs.getD m cem0).st else eqTot b.tot b.cs vc m) = b.tot - (sumI m _ + if vc.getD m 0 = 1 then stAt b m else 0)
    rw [tot_eq b vc m]
    split
    · show _ - stAt b m = _
      omega
    · omega
theorem want_eq (b : Blend) (vc : List Int) (w : Int) (k : Nat) : ∀ m, eqWant w b.cs vc k m = w - sumI m fun i => if vc.getD i 0 = 1 then coefB b (k + 1) i * stAt b i else 0
  | 0 => by show w = w - 0; omega
  | m + 1 => by
    show (if vc.getD m 0 = 1 then eqWant w b.cs vc k m - (b.cs.getD m cem0).ps.getD k 0 * (b.cs.getD m cem0).st else eqWant w b.cs vc k m) = w - (sumI m _ + if vc.getD m 0 = 1 then coefB b (k + 1) m * stAt b m else 0)
    rw [want_eq b vc w k m, coef_succ]
    split
    · show _ - (psAt b m).getD k 0 * stAt b m = _
      omega
    · omega
def rgt (b : Blend) (vc vp : List Int) (r : Nat) : Int := edgeM b (chH b vp) r - sumI b.cs.length fun i => if vc.getD i 0 = 1 then coefB b r i * stAt b i else 0
theorem right_eq {b : Blend} (hb : Valid b) (vc vp : List Int) : ∀ k, k ≤ b.lo.length → eqRight b vc vp k = (rowsOf vp k).map (rgt b vc vp)
  | 0, _ => by
    show [eqTot b.tot b.cs vc b.cs.length] = [rgt b vc vp 0]
    rw [tot_eq]
    unfold rgt
    have : edgeM b (chH b vp) 0 = b.tot := by unfold edgeM; rw [if_pos rfl]
    rw [this]
    simp only [coef_zero, Int.one_mul]
  | k + 1, h => by
    have ih := right_eq hb vc vp k (by omega)
    have h3 := hb.2.2.1
    unfold eqRight
    rw [ih, rowsOf_succ]
    split
    · rfl
    · rename_i h0
      rw [List.map_append]
      show _ ++ [eqWant (eqEdge b vp k) b.cs vc k b.cs.length] = _ ++ [rgt b vc vp (k + 1)]
      rw [want_eq]
      unfold rgt
      have : edgeM b (chH b vp) (k + 1) = eqEdge b vp k := by
        unfold edgeM eqEdge
        rw [if_neg (by omega), show chH b vp = bits5 (fH vp b.lo.length) from rfl, bit_bits (by omega)]
        have hk : decide (k < b.lo.length) = true := decide_eq_true (by omega)
        simp only [fH, hk, Bool.true_and, decide_eq_true_eq, Nat.add_sub_cancel]
        split <;> exact Int.mul_comm _ _
      rw [this]
theorem rest_eq {b : Blend} (hb : Valid b) {vc vp : List Int} (hx : IsBase b (chX b vc vp)) {t : Nat} : restM b (chX b vc vp) (chH b vp) (chF b vc) t = rgt b vc vp ((chX b vc vp).row t) := by
  have h5 := hb.2.1
  have hd := denB_pos hx
  unfold restM rgt
  congr 1
  refine sumI_congr fun i hi => ?_
  have hi5 : i < 5 := by omega
  have e1 : bit (chX b vc vp).cs i = fC vc b.cs.length i := bit_bits hi5
  have e2 : bit (chF b vc) i = fF vc b.cs.length i := bit_bits hi5
  have hi' : decide (i < b.cs.length) = true := decide_eq_true hi
  unfold fixM
  rw [e1, e2]
  simp only [fC, fF, hi', Bool.true_and, decide_eq_true_eq]
  by_cases h2 : vc.getD i 0 = 2
  · rw [if_pos h2, if_neg (by omega)]
  · rw [if_neg h2, if_neg h2]
    by_cases h1 : vc.getD i 0 = 1
    · rw [if_pos h1, if_pos h1, ← Int.mul_assoc, Int.mul_tdiv_cancel _ (by omega)]
    · rw [if_neg h1, if_neg h1, Int.mul_zero]; exact Int.zero_tdiv _
end Go.AM.E
end

section
/-
The amounts of a choice are the amounts at its basis (plain).
-/
namespace Go.AM.E
open Go LP

theorem free_at (vc : List Int) {i : Nat} (h : vc.getD i 0 = 2) : ∀ m, i < m → (freeOf vc m)[(freeOf vc i).length]? = some i
  | 0, hm => by omega
  | m + 1, hm => by
    have e : freeOf vc (m + 1) = freeOf vc m ++ [m].filter fun i => decide (vc.getD i 0 = 2) := by unfold freeOf; rw [List.range_succ, List.filter_append]
    rw [e]
    rcases Nat.lt_or_ge i m with h1 | h1
    · have ih := free_at vc h m h1
      rw [List.getElem?_append_left (List.getElem?_eq_some_iff.1 ih).1]
      exact ih
    · have : i = m := by omega
      subst this
      rw [filt1, if_pos (decide_eq_true h), List.getElem?_append_right (Nat.le_refl _), Nat.sub_self]
      rfl
theorem repl_eq (k s : Nat) (A : Nat → Nat → Int) (x : Nat → Int) : replM ((matA k A).map fun l => (true, l)) s ((List.range k).map x) = matA k (colA A s x) := by
  have hA : ∀ B : Nat → Nat → Int, matA k B = (List.range k).map fun t => (List.range k).map fun s => B t s := fun _ => rfl
  unfold replM
  rw [hA, hA]
  apply List.ext_getElem
  · simp
  · intro t h1 h2
    have ht : t < k := by simpa using h2
    rw [List.getElem_map, List.getElem_zip]
    simp only [List.getElem_map, List.getElem_range]
    apply List.ext_getElem
    · simp
    · intro j h3 h4
      have hj : j < k := by simpa using h4
      rw [List.getElem_set]
      simp only [List.getElem_map, List.getElem_range]
      unfold colA
      by_cases h : s = j
      · rw [if_pos h, if_pos h.symm]
      · rw [if_neg h, if_neg fun e => h e.symm]
theorem right_list {b : Blend} (hb : Valid b) (vc vp : List Int) : eqRight b vc vp b.lo.length = (List.range (chX b vc vp).k).map fun t => rgt b vc vp ((chX b vc vp).row t) := by
  rw [right_eq hb vc vp _ (Nat.le_refl _), ← chX_R hb vc vp]
  exact map_getD _
theorem xRef_eq {b : Blend} (hb : Valid b) {vc vp : List Int} (hv : ∀ i, vc.getD i 0 = 0 ∨ vc.getD i 0 = 1 ∨ vc.getD i 0 = 2) (hx : IsBase b (chX b vc vp)) {i : Nat} (hi : i < b.cs.length) :
    xRef b.cs (eqRows b vc vp b.lo.length).length (eqRows b vc vp b.lo.length) (eqRight b vc vp b.lo.length) (sgD (detB b (chX b vc vp))) (denB b (chX b vc vp)) vc i = amtM b (chX b vc vp) (chH b vp) (chF b vc) i := by
  have h5 := hb.2.1
  have hi5 : i < 5 := by omega
  have e1 : bit (chX b vc vp).cs i = fC vc b.cs.length i := bit_bits hi5
  have e2 : bit (chF b vc) i = fF vc b.cs.length i := bit_bits hi5
  have hi' : decide (i < b.cs.length) = true := decide_eq_true hi
  unfold xRef
  rcases hv i with h | h | h
  · rw [if_pos h, amt_out hb hx hi (by rw [e1]; unfold fC; rw [decide_eq_false (p := vc.getD i 0 = 2) (by omega), Bool.and_false]), e2]
    unfold fF
    rw [decide_eq_false (p := vc.getD i 0 = 1) (by omega), Bool.and_false, if_neg (by decide)]
  · rw [if_neg (by omega), if_pos h, amt_out hb hx hi (by rw [e1]; unfold fC; rw [decide_eq_false (p := vc.getD i 0 = 2) (by omega), Bool.and_false]), e2]
    unfold fF
    rw [hi', decide_eq_true h, if_pos (by decide)]
    rfl
  · rw [if_neg (by omega), if_neg (by omega)]
    have hfr := free_at vc h b.cs.length hi
    rw [← chX_C hb vc vp] at hfr
    have hlt := (List.getElem?_eq_some_iff.1 hfr).1
    have hck : (chX b vc vp).C.length = (chX b vc vp).k := hx.2.2.1
    have hcol : (chX b vc vp).col (freeOf vc i).length = i := by unfold Bs.col; rw [List.getD_eq_getElem?_getD, hfr]; rfl
    have ham := amt_in hx (high := chH b vp) (full := chF b vc) (s0 := (freeOf vc i).length) (by omega)
    rw [hcol] at ham
    have hin := xAcc_in hb hx (chH b vp) (chF b vc) (t := (chX b vc vp).k) (s := 0) (i := i) (Nat.le_refl _) (Nat.zero_le _) (.inr rfl) hi
    rw [xAcc_all] at hin
    have hk4 := k_le hb hx
    have hdet : detF (eqRows b vc vp b.lo.length).length (replM ((eqRows b vc vp b.lo.length).map fun l => (true, l)) (eqOnes vc i).length (eqRight b vc vp b.lo.length)) = sumI (chX b vc vp).k fun t => inv b (chX b vc vp) (freeOf vc i).length t * restM b (chX b vc vp) (chH b vp) (chF b vc) t := by
      rw [chX_k hb, right_list hb, free_len, chX_rows hb, matB_eq hx, repl_eq, ← cof_col hk4 (by omega)]
      refine sumI_congr fun t ht => ?_
      unfold inv
      rw [matB_eq hx, rest_eq hb hx]
    rw [hdet, wrap_mul', ← ham]
    exact wrap_in (by omega)
end Go.AM.E
end

section
/-
What the document accepts (plain).
-/
namespace Go.AM.E
open Go LP

theorem amRef_no {b : Blend} (hb : Valid b) {vc vp : List Int} (hx : ¬ IsBase b (chX b vc vp)) : amRef b vc vp = none := by
  rw [chX_base hb] at hx
  unfold amRef
  dsimp only
  by_cases h1 : (eqRows b vc vp b.lo.length).length = (eqOnes vc b.cs.length).length
  · rw [if_neg (by simpa using h1)]
    by_cases h2 : detF (eqRows b vc vp b.lo.length).length (eqRows b vc vp b.lo.length) = 0
    · rw [if_pos h2]
    · exact absurd ⟨h1, h2⟩ hx
  · rw [if_pos h1]
def stocked (b : Blend) (x : Bs) (high full : Nat) : Bool := (List.range b.cs.length).all fun i => inB (amtM b x high full i) 0 (stAt b i * denB b x)
theorem amRef_yes {b : Blend} (hb : Valid b) {vc vp : List Int} (hv : ∀ i, vc.getD i 0 = 0 ∨ vc.getD i 0 = 1 ∨ vc.getD i 0 = 2) (hx : IsBase b (chX b vc vp)) :
    amRef b vc vp = if stocked b (chX b vc vp) (chH b vp) (chF b vc) = true then some ((amtsM b (chX b vc vp) (chH b vp) (chF b vc)).x, denB b (chX b vc vp)) else none := by
  obtain ⟨h1, h2⟩ := (chX_base hb vc vp).1 hx
  have e := fun i (hi : i < b.cs.length) => xRef_eq hb hv hx hi
  unfold amRef
  dsimp only
  rw [if_neg (by simpa using h1), if_neg h2, chX_det hb]
  show (if okRef b.cs (denB b (chX b vc vp)) (xRef b.cs (eqRows b vc vp b.lo.length).length (eqRows b vc vp b.lo.length) (eqRight b vc vp b.lo.length) (sgD (detB b (chX b vc vp))) (denB b (chX b vc vp)) vc) b.cs.length = true then some (xsRef (xRef b.cs (eqRows b vc vp b.lo.length).length (eqRows b vc vp b.lo.length) (eqRight b vc vp b.lo.length) (sgD (detB b (chX b vc vp))) (denB b (chX b vc vp)) vc) b.cs.length, denB b (chX b vc vp)) else none) = _
  generalize xRef b.cs (eqRows b vc vp b.lo.length).length (eqRows b vc vp b.lo.length) (eqRight b vc vp b.lo.length) (sgD (detB b (chX b vc vp))) (denB b (chX b vc vp)) vc = f at *
  have e1 : okRef b.cs (denB b (chX b vc vp)) f b.cs.length = stocked b (chX b vc vp) (chH b vp) (chF b vc) := by
    unfold okRef stocked
    rw [Bool.eq_iff_iff, List.all_eq_true, List.all_eq_true]
    constructor
    · intro h i hi
      have := h i hi
      rw [e i (List.mem_range.1 hi)] at this
      exact this
    · intro h i hi
      have := h i hi
      rw [e i (List.mem_range.1 hi)]
      exact this
  have e2 : xsRef f b.cs.length = (amtsM b (chX b vc vp) (chH b vp) (chF b vc)).x := List.map_congr_left fun i hi => e i (List.mem_range.1 hi)
  rw [e1, e2]
theorem digs_at {n m i : Nat} (hi : i < m) : (digs n m).getD i 0 = ((n / 3 ^ i % 3 : Nat) : Int) := by
  unfold digs
  rw [List.getD_eq_getElem?_getD, List.getElem?_map, List.getElem?_range hi]; rfl
theorem digs_in (n m i : Nat) : (digs n m).getD i 0 = 0 ∨ (digs n m).getD i 0 = 1 ∨ (digs n m).getD i 0 = 2 := by
  rcases Nat.lt_or_ge i m with h | h
  · rw [digs_at h]; omega
  · left
    rw [List.getD_eq_getElem?_getD, List.getElem?_eq_none (by rw [digs_len]; exact h)]; rfl
def nX (b : Blend) (n : Nat) : Bs := chX b (digs n b.cs.length) (digs (n / 3 ^ b.cs.length) b.lo.length)
def nH (b : Blend) (n : Nat) : Nat := chH b (digs (n / 3 ^ b.cs.length) b.lo.length)
def nF (b : Blend) (n : Nat) : Nat := chF b (digs n b.cs.length)
theorem accR_yes {b : Blend} (hb : Valid b) {n : Nat} {c d : Int} (h : accR b n = some (c, d)) : Vx b (nX b n) (nH b n) (nF b n) ∧ accM b (nX b n) (nH b n) (nF b n) = true ∧ c = costM b (amtsM b (nX b n) (nH b n) (nF b n)).x ∧ d = denB b (nX b n) := by
  unfold accR amN at h
  by_cases hx : IsBase b (nX b n)
  · rw [amRef_yes hb (digs_in n b.cs.length) hx] at h
    show Vx b _ _ _ ∧ _
    by_cases h1 : stocked b (nX b n) (nH b n) (nF b n) = true
    · have h1' : stocked b (chX b (digs n b.cs.length) (digs (n / 3 ^ b.cs.length) b.lo.length)) (chH b (digs (n / 3 ^ b.cs.length) b.lo.length)) (chF b (digs n b.cs.length)) = true := h1
      rw [if_pos h1'] at h
      dsimp only at h
      split at h
      case isFalse => cases h
      rename_i h2
      cases h
      refine ⟨chX_vx hx, ?_, rfl, rfl⟩
      unfold accM
      rw [Bool.and_eq_true]
      exact ⟨h1, h2⟩
    · have h1' : ¬ stocked b (chX b (digs n b.cs.length) (digs (n / 3 ^ b.cs.length) b.lo.length)) (chH b (digs (n / 3 ^ b.cs.length) b.lo.length)) (chF b (digs n b.cs.length)) = true := h1
      rw [if_neg h1'] at h
      cases h
  · rw [amRef_no hb hx] at h
    cases h
theorem accR_some {b : Blend} (hb : Valid b) {n : Nat} (hx : IsBase b (nX b n)) (h : accM b (nX b n) (nH b n) (nF b n) = true) : accR b n = some (costM b (amtsM b (nX b n) (nH b n) (nF b n)).x, denB b (nX b n)) := by
  unfold accM at h
  rw [Bool.and_eq_true] at h
  unfold accR amN
  rw [amRef_yes hb (digs_in n b.cs.length) hx]
  have h1' : stocked b (chX b (digs n b.cs.length) (digs (n / 3 ^ b.cs.length) b.lo.length)) (chH b (digs (n / 3 ^ b.cs.length) b.lo.length)) (chF b (digs n b.cs.length)) = true := h.1
  rw [if_pos h1']
  exact if_pos h.2
end Go.AM.E
end

section
/-
Every basis with what lies high and full beside it is a choice (plain).
-/
namespace Go.AM.E
open Go LP

def numD (f : Nat → Nat) : Nat → Nat
  | 0 => 0
  | m + 1 => numD f m + f m * 3 ^ m
theorem numD_lt {f : Nat → Nat} (h : ∀ i, f i < 3) : ∀ m, numD f m < 3 ^ m
  | 0 => by show 0 < 1; omega
  | m + 1 => by
    have ih := numD_lt h m
    have h1 : f m * 3 ^ m ≤ 2 * 3 ^ m := Nat.mul_le_mul_right _ (by have := h m; omega)
    show numD f m + f m * 3 ^ m < 3 ^ (m + 1)
    rw [Nat.pow_succ]
    omega
theorem numD_at {f : Nat → Nat} (h : ∀ i, f i < 3) : ∀ (m r : Nat) {i : Nat}, i < m → (numD f m + 3 ^ m * r) / 3 ^ i % 3 = f i
  | 0, _, _, hi => by omega
  | m + 1, r, i, hi => by
    have e : numD f (m + 1) + 3 ^ (m + 1) * r = numD f m + 3 ^ m * (f m + 3 * r) := by
      show numD f m + f m * 3 ^ m + _ = _
      rw [Nat.pow_succ, Nat.mul_add, Nat.mul_comm (f m), Nat.mul_assoc]
      omega
    rw [e]
    rcases Nat.lt_or_ge i m with h1 | h1
    · exact numD_at h m _ h1
    · have : i = m := by omega
      subst this
      have hp : 0 < 3 ^ i := Nat.pow_pos (by decide)
      rw [Nat.add_mul_div_left _ _ hp, Nat.div_eq_of_lt (numD_lt h i)]
      have := h i
      omega
theorem bits_self : ∀ s, s < 32 → bits5 (bit s) = s := by decide +kernel
theorem bits_congr {f g : Nat → Bool} (h : ∀ i, i < 5 → f i = g i) : bits5 f = bits5 g := by
  unfold bits5
  rw [h 0 (by omega), h 1 (by omega), h 2 (by omega), h 3 (by omega), h 4 (by omega)]
theorem bit_out {s m i : Nat} (h : s < 2 ^ m) (hi : m ≤ i) : bit s i = false := by
  unfold bit
  have : s < 2 ^ i := Nat.lt_of_lt_of_le h (Nat.pow_le_pow_right (by decide) hi)
  rw [Nat.div_eq_of_lt this]; rfl
def dC (x : Bs) (full i : Nat) : Nat := if bit x.cs i = true then 2 else if bit full i = true then 1 else 0
def dP (x : Bs) (high k : Nat) : Nat := if bit x.rs (k + 1) = true then (if bit high (k + 1) = true then 2 else 1) else 0
theorem dC_lt (x : Bs) (full i : Nat) : dC x full i < 3 := by unfold dC; split; omega; split <;> omega
theorem dP_lt (x : Bs) (high k : Nat) : dP x high k < 3 := by unfold dP; split; split <;> omega; omega
def numX (b : Blend) (x : Bs) (high full : Nat) : Nat := numD (dC x full) b.cs.length + 3 ^ b.cs.length * numD (dP x high) b.lo.length
theorem numX_lt (b : Blend) (x : Bs) (high full : Nat) : numX b x high full < 3 ^ (b.cs.length + b.lo.length) := by
  have h1 := numD_lt (dC_lt x full) b.cs.length
  have h2 := numD_lt (dP_lt x high) b.lo.length
  unfold numX
  rw [Nat.pow_add]
  have h3 : 3 ^ b.cs.length * (numD (dP x high) b.lo.length + 1) ≤ 3 ^ b.cs.length * 3 ^ b.lo.length := Nat.mul_le_mul_left _ h2
  rw [Nat.mul_add, Nat.mul_one] at h3
  omega
theorem numX_c {b : Blend} {x : Bs} {high full i : Nat} (hi : i < b.cs.length) : (digs (numX b x high full) b.cs.length).getD i 0 = (dC x full i : Int) := by
  rw [digs_at hi]
  unfold numX
  rw [numD_at (dC_lt x full) _ _ hi]
theorem numX_p {b : Blend} {x : Bs} {high full k : Nat} (hk : k < b.lo.length) : (digs (numX b x high full / 3 ^ b.cs.length) b.lo.length).getD k 0 = (dP x high k : Int) := by
  rw [digs_at hk]
  have hp : 0 < 3 ^ b.cs.length := Nat.pow_pos (by decide)
  have e : numX b x high full / 3 ^ b.cs.length = numD (dP x high) b.lo.length + 3 ^ b.lo.length * 0 := by
    unfold numX
    rw [Nat.add_mul_div_left _ _ hp, Nat.div_eq_of_lt (numD_lt (dC_lt x full) _)]
    omega
  rw [e, numD_at (dP_lt x high) _ _ hk]
theorem numX_ok {b : Blend} (hb : Valid b) {x : Bs} {high full : Nat} (hv : Vx b x high full) (hh : high < 2 ^ (b.lo.length + 1)) (hf : full < 2 ^ b.cs.length) :
    nX b (numX b x high full) = x ∧ nH b (numX b x high full) = high ∧ nF b (numX b x high full) = full := by
  have h3 := hb.2.2.1
  have h5 := hb.2.1
  obtain ⟨hr, hc, _, _⟩ := hv.base
  have p1 : 2 ^ (b.lo.length + 1) ≤ 2 ^ 5 := Nat.pow_le_pow_right (by decide) (by omega)
  have p2 : 2 ^ b.cs.length ≤ 2 ^ 5 := Nat.pow_le_pow_right (by decide) (by omega)
  have eC : bits5 (fC (digs (numX b x high full) b.cs.length) b.cs.length) = x.cs := by
    refine Eq.trans (bits_congr (g := bit x.cs) fun i hi => ?_) (bits_self x.cs (by omega))
    unfold fC
    rcases Nat.lt_or_ge i b.cs.length with h | h
    · rw [decide_eq_true h, Bool.true_and, numX_c h]
      unfold dC
      cases bit x.cs i with
      | true => rfl
      | false => cases bit full i <;> rfl
    · rw [decide_eq_false (by omega), Bool.false_and, bit_out hc h]
  have eF : bits5 (fF (digs (numX b x high full) b.cs.length) b.cs.length) = full := by
    refine Eq.trans (bits_congr (g := bit full) fun i hi => ?_) (bits_self full (by omega))
    unfold fF
    rcases Nat.lt_or_ge i b.cs.length with h | h
    · rw [decide_eq_true h, Bool.true_and, numX_c h]
      unfold dC
      have := hv.full i hi
      cases hc1 : bit x.cs i with
      | true =>
        cases hf1 : bit full i with
        | true => rw [this hf1] at hc1; cases hc1
        | false => rfl
      | false => cases bit full i <;> rfl
    · rw [decide_eq_false (by omega), Bool.false_and, bit_out hf h]
  have eR : bits5 (fR (digs (numX b x high full / 3 ^ b.cs.length) b.lo.length) b.lo.length) = x.rs := by
    refine Eq.trans (bits_congr (g := bit x.rs) fun i hi => ?_) (bits_self x.rs (by omega))
    cases i with
    | zero => rw [hv.sum]; rfl
    | succ k =>
      show (decide (k < b.lo.length) && decide (_ ≠ _)) = _
      rcases Nat.lt_or_ge k b.lo.length with h | h
      · rw [decide_eq_true h, Bool.true_and, numX_p h]
        unfold dP
        cases bit x.rs (k + 1) with
        | true => cases bit high (k + 1) <;> rfl
        | false => rfl
      · rw [decide_eq_false (by omega), Bool.false_and, bit_out hr (by omega)]
  have eH : bits5 (fH (digs (numX b x high full / 3 ^ b.cs.length) b.lo.length) b.lo.length) = high := by
    refine Eq.trans (bits_congr (g := bit high) fun i hi => ?_) (bits_self high (by omega))
    have h0 := hv.high i hi
    cases i with
    | zero =>
      cases hb1 : bit high 0 with
      | true => exact absurd rfl (h0 hb1).2
      | false => rfl
    | succ k =>
      show (decide (k < b.lo.length) && decide (_ = _)) = _
      rcases Nat.lt_or_ge k b.lo.length with h | h
      · rw [decide_eq_true h, Bool.true_and, numX_p h]
        unfold dP
        cases hr1 : bit x.rs (k + 1) with
        | true => cases bit high (k + 1) <;> rfl
        | false =>
          cases hh1 : bit high (k + 1) with
          | true => rw [(h0 hh1).1] at hr1; cases hr1
          | false => rfl
      · rw [decide_eq_false (by omega), Bool.false_and, bit_out hh (by omega)]
  refine ⟨?_, eH, eF⟩
  show (⟨_, _⟩ : Bs) = x
  rw [eR, eC]
end Go.AM.E
end

