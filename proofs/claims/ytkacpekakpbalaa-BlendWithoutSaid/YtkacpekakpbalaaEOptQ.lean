/- A part of the proof: the texts EOptH, EOptI, EOptJ, EOptK, EOptL, EOptM, EOptN, one after another. No condition. -/
import Derived.Test.YtkacpekakpbalaaEOptG
set_option linter.unusedVariables false
set_option linter.unusedSimpArgs false
set_option maxRecDepth 20000

section
/-
The prices that weights of rows give, and their value (plain).
-/
namespace Go.AM.E
open LP

def pricesM (b : Blend) (w : Nat → Int) (den : Int) (costs : Bool) : Pr where
  den := den
  y := w 0
  u := (List.range b.lo.length).map fun k => max 0 (w (k + 1))
  v := (List.range b.lo.length).map fun k => max 0 (-w (k + 1))
  w := (List.range b.cs.length).map fun i => max 0 (dotI w b i - if costs = true then den * coAt b i else 0)
theorem range_getD {f : Nat → Int} {n k : Nat} (h : k < n) : ((List.range n).map f).getD k 0 = f k := by
  rw [getD_in (by simpa using h)]; simp
theorem coef_succ (b : Blend) (k i : Nat) : coefB b (k + 1) i = (psAt b i).getD k 0 := by unfold coefB; rw [if_neg (by omega)]; rfl
theorem coef_zero (b : Blend) (i : Nat) : coefB b 0 i = 1 := rfl
theorem gain_pr {b : Blend} (hb : Valid b) (w : Nat → Int) (den : Int) (c : Bool) {i : Nat} (hi : i < b.cs.length) : gainM (psAt b i) (pricesM b w den c) = dotI w b i := by
  have hl := (cem_at hb hi).2.2.1
  have h3 := hb.2.2.1
  unfold gainM dotI
  have e : ∀ k, k < b.lo.length → (pricesM b w den c).u.getD k 0 - (pricesM b w den c).v.getD k 0 = w (k + 1) := by
    intro k hk
    show (List.map _ _).getD k 0 - (List.map _ _).getD k 0 = _
    rw [range_getD hk, range_getD hk]
    omega
  have hy : (pricesM b w den c).y = w 0 := rfl
  rw [hl, hy, coef_zero, coef_succ b 0, coef_succ b 1, coef_succ b 2]
  generalize (pricesM b w den c).u = u at *
  generalize (pricesM b w den c).v = v at *
  have o : ∀ k, b.lo.length ≤ k → (psAt b i).getD k 0 = 0 := fun k hk => getD_out (by omega)
  match hm : b.lo.length with
  | 0 =>
    rw [hm] at e o
    rw [o 0 (by omega), o 1 (by omega), o 2 (by omega)]; simp [gainTo]
  | 1 =>
    rw [hm] at e o
    rw [o 1 (by omega), o 2 (by omega)]
    simp only [gainTo]
    rw [e 0 (by omega)]; grind
  | 2 =>
    rw [hm] at e o
    rw [o 2 (by omega)]
    simp only [gainTo]
    rw [e 0 (by omega), e 1 (by omega)]; grind
  | 3 =>
    rw [hm] at e o
    simp only [gainTo]
    rw [e 0 (by omega), e 1 (by omega), e 2 (by omega)]; grind
  | _ + 4 => omega

def wQ (w : Nat → Int) : V4 := fun k => (w k : Rat)
theorem wQ_cem (w : Nat → Int) (b : Blend) {i : Nat} (hi : i < 5) (hn : i < b.cs.length) : dot (wQ w) (vK (KB b) i) = (dotI w b i : Rat) := by
  unfold dot wQ dotI
  rw [vK_lt hi, vK_lt hi, vK_lt hi, vK_lt hi]
  unfold KB
  rw [if_pos hn, if_pos hn, if_pos hn, if_pos hn]
  simp only [Rat.intCast_add, Rat.intCast_mul]
theorem wQ_row (w : Nat → Int) (b : Blend) {r : Nat} (hr : r < 4) : dot (wQ w) (vK (KB b) (5 + r)) = -(w r : Rat) := by
  unfold dot wQ
  rw [vK_row, vK_row, vK_row, vK_row]
  match r with
  | 0 | 1 | 2 | 3 => simp; try grind
  | _ + 4 => omega
theorem cast_max (a : Int) : ((max 0 a : Int) : Rat) = if 0 ≤ a then (a : Rat) else 0 := by
  by_cases h : 0 ≤ a
  · rw [if_pos h, Int.max_eq_right h]
  · rw [if_neg h, Int.max_eq_left (by omega)]; rfl
theorem cast_le0 (a : Int) : (0 : Rat) ≤ (a : Rat) ↔ 0 ≤ a := by
  have := Rat.intCast_le_intCast (a := 0) (b := a)
  simpa using this
theorem less_S (b : Blend) (p : Pr) (v0 : Int) : ∀ n : Nat, ((lessTo b p v0 n : Int) : Rat) = (v0 : Rat) - S n fun i => (stAt b i : Rat) * ((p.w.getD i 0 : Int) : Rat)
  | 0 => by show (v0 : Rat) = (v0 : Rat) - 0; grind
  | n + 1 => by
    show ((lessTo b p v0 n - stAt b n * p.w.getD n 0 : Int) : Rat) = (v0 : Rat) - (S n _ + _)
    rw [Rat.intCast_sub, Rat.intCast_mul, less_S b p v0 n]
    grind
theorem ph_row {T l h : Int} {a : Int} : -ph ((T * l : Int) : Rat) ((T * h : Int) : Rat) (-(a : Rat)) = ((T * (l * max 0 a - h * max 0 (-a)) : Int) : Rat) := by
  unfold ph
  rcases Int.lt_trichotomy a 0 with ha | ha | ha
  · have h1 : (0 : Rat) ≤ -(a : Rat) := by
      have := (cast_le0 (-a)).2 (by omega)
      rwa [Rat.intCast_neg] at this
    rw [if_pos h1, Int.max_eq_left (show a ≤ 0 by omega), Int.max_eq_right (show 0 ≤ -a by omega)]
    simp only [Rat.intCast_mul, Rat.intCast_sub, Rat.intCast_neg]
    grind
  · subst ha; simp
  · have h1 : ¬ (0 : Rat) ≤ -(a : Rat) := by
      intro h
      rw [← Rat.intCast_neg] at h
      have := (cast_le0 (-a)).1 h
      omega
    rw [if_neg h1, Int.max_eq_right (show 0 ≤ a by omega), Int.max_eq_left (show -a ≤ 0 by omega)]
    simp only [Rat.intCast_mul, Rat.intCast_sub]
    grind
theorem value_cast {b : Blend} (hb : Valid b) (w : Nat → Int) (den : Int) (c : Bool) : ((valueM b (pricesM b w den c) : Int) : Rat) = valQ b (wQ w) (fun j => if c = true then (den : Rat) * cR b j else 0) := by
  have hn := hb.2.1.2
  have h3 := hb.2.2.1
  have hh := hb.2.2.2.1
  unfold valueM valQ
  rw [less_S, S_nine]
  -- the cements
  have ec : S b.cs.length (fun i => (stAt b i : Rat) * (((pricesM b w den c).w.getD i 0 : Int) : Rat)) = S 5 (fun j => ph (loR b j) (hiR b j) (dot (wQ w) (vK (KB b) j) - if c = true then (den : Rat) * cR b j else 0)) := by
    rw [S_tail (n := b.cs.length) (k := 5) (fun i h1 h2 => ?_) hn]
    · refine S_congr fun i hi => ?_
      rw [wQ_cem w b (by omega) hi]
      show _ * (((List.map _ _).getD i 0 : Int) : Rat) = _
      rw [range_getD hi, cast_max]
      have el : loR b i = 0 := by unfold loR loB; rw [if_pos (by omega)]; rfl
      have eh : hiR b i = (stAt b i : Rat) := by unfold hiR hiB; rw [if_pos (by omega)]
      have ek : cR b i = (coAt b i : Rat) := by unfold cR cB; rw [if_pos (by omega)]
      have ee : ((dotI w b i : Int) : Rat) - (if c = true then (den : Rat) * cR b i else 0) = ((dotI w b i - (if c = true then den * coAt b i else 0) : Int) : Rat) := by
        rw [ek]
        cases c with
        | true => simp only [if_true, Rat.intCast_sub, Rat.intCast_mul]
        | false => simp; grind
      rw [ee, el, eh]
      unfold ph
      generalize dotI w b i - (if c = true then den * coAt b i else 0) = g
      by_cases hg : 0 ≤ g
      · rw [if_pos hg, if_pos ((cast_le0 g).2 hg)]
      · rw [if_neg hg, if_neg (fun h => hg ((cast_le0 g).1 h))]; grind
    · have el : loR b i = 0 := by unfold loR loB; rw [if_pos (by omega)]; rfl
      have eh : hiR b i = 0 := by unfold hiR hiB; rw [if_pos (by omega), st_out h1]; rfl
      rw [el, eh]
      unfold ph
      split <;> grind
  have ck : ∀ r, cR b (5 + r) = 0 := fun r => by unfold cR cB; rw [if_neg (by omega)]; rfl
  have r0 : ∀ r, r < 4 → dot (wQ w) (vK (KB b) (5 + r)) - (if c = true then (den : Rat) * cR b (5 + r) else 0) = -(w r : Rat) := by
    intro r hr
    rw [wQ_row w b hr, ck]
    split <;> grind
  have g0 := r0 0 (by decide)
  have g1 := r0 1 (by decide)
  have g2 := r0 2 (by decide)
  have g3 := r0 3 (by decide)
  rw [show 5 + 0 = 5 from rfl] at g0
  rw [show 5 + 1 = 6 from rfl] at g1
  rw [show 5 + 2 = 7 from rfl] at g2
  rw [show 5 + 3 = 8 from rfl] at g3
  rw [g0, g1, g2, g3, ec]
  generalize S 5 (fun j => ph (loR b j) (hiR b j) (dot (wQ w) (vK (KB b) j) - if c = true then (den : Rat) * cR b j else 0)) = Z
  have f0 : -ph (loR b 5) (hiR b 5) (-(w 0 : Rat)) = ((w 0 * b.tot : Int) : Rat) := by
    show -ph (b.tot : Rat) (b.tot : Rat) _ = _
    unfold ph
    rw [Rat.intCast_mul]
    split <;> grind
  have fr : ∀ k, -ph (loR b (6 + k)) (hiR b (6 + k)) (-(w (k + 1) : Rat)) = ((b.tot * (b.lo.getD k 0 * max 0 (w (k + 1)) - b.hi.getD k 0 * max 0 (-w (k + 1))) : Int) : Rat) := by
    intro k
    rw [← ph_row]
    unfold loR hiR loB hiB
    rw [if_neg (by omega), if_neg (by omega), if_neg (by omega), if_neg (by omega), show 6 + k - 6 = k by omega]
  have fz : ∀ k, b.lo.length ≤ k → -ph (loR b (6 + k)) (hiR b (6 + k)) (-(w (k + 1) : Rat)) = 0 := by
    intro k hk
    rw [fr, getD_out hk, getD_out (by omega)]
    simp
  have fu : ∀ k, k < b.lo.length → (pricesM b w den c).u.getD k 0 = max 0 (w (k + 1)) := fun k hk => range_getD hk
  have fv : ∀ k, k < b.lo.length → (pricesM b w den c).v.getD k 0 = max 0 (-w (k + 1)) := fun k hk => range_getD hk
  have fy : (pricesM b w den c).y = w 0 := rfl
  have q0 := fr 0
  have q1 := fr 1
  have q2 := fr 2
  have z0 := fz 0
  have z1 := fz 1
  have z2 := fz 2
  simp only [Nat.add_zero, Nat.zero_add, Nat.reduceAdd] at q0 q1 q2 z0 z1 z2
  generalize hw : pricesM b w den c = p at *
  match hm : b.lo.length with
  | 0 =>
    rw [hm] at z0 z1 z2
    have := z0 (by omega)
    have := z1 (by omega)
    have := z2 (by omega)
    simp only [valTo]
    rw [fy]
    grind
  | 1 =>
    rw [hm] at z1 z2 fu fv
    have := z1 (by omega)
    have := z2 (by omega)
    simp only [valTo]
    rw [fy, fu 0 (by omega), fv 0 (by omega), Rat.intCast_add]
    grind
  | 2 =>
    rw [hm] at z2 fu fv
    have := z2 (by omega)
    simp only [valTo]
    rw [fy, fu 0 (by omega), fv 0 (by omega), fu 1 (by omega), fv 1 (by omega), Rat.intCast_add, Rat.intCast_add]
    grind
  | 3 =>
    rw [hm] at fu fv
    simp only [valTo]
    rw [fy, fu 0 (by omega), fv 0 (by omega), fu 1 (by omega), fv 1 (by omega), fu 2 (by omega), fv 2 (by omega), Rat.intCast_add, Rat.intCast_add, Rat.intCast_add]
    grind
  | _ + 4 => omega
theorem valQ_scale {b : Blend} {y y' : Nat → Rat} {c c' : Nat → Rat} {t : Rat} (ht : 0 ≤ t) (h : ∀ j, j < 9 → dot y' (vK (KB b) j) - c' j = t * (dot y (vK (KB b) j) - c j)) : valQ b y' c' = t * valQ b y c := by
  unfold valQ
  rw [S_congr (g := fun j => t * ph (loR b j) (hiR b j) (dot y (vK (KB b) j) - c j)) (fun j hj => by rw [h j hj, ph_pos ht]), S_mul]
  grind
end Go.AM.E
end

section
/-
What the search of the program finds: amounts of the least cost with prices, or a proof (plain).
-/
namespace Go.AM.E
open LP

def dualM (b : Blend) (x : Bs) : Pr := pricesM b (wD b x) (denB b x) true
def fixM (b : Blend) (x : Bs) (full i : Nat) : Int := if bit x.cs i = true then 0 else if bit full i = true then stAt b i * denB b x else 0
def edgeM (b : Blend) (high r : Nat) : Int := if r = 0 then b.tot else if bit high r = true then b.tot * b.hi.getD (r - 1) 0 else b.tot * b.lo.getD (r - 1) 0
def restM (b : Blend) (x : Bs) (high full t : Nat) : Int :=
  edgeM b high (x.row t) - sumI b.cs.length fun i => if bit x.cs i = true then 0 else (coefB b (x.row t) i * fixM b x full i).tdiv (denB b x)
def amtM (b : Blend) (x : Bs) (high full i : Nat) : Int :=
  fixM b x full i + sumI x.k fun t => sumI x.k fun s => if x.col s = i then sgD (detB b x) * inv b x s t * restM b x high full t else 0
def amtsM (b : Blend) (x : Bs) (high full : Nat) : Amts := ⟨denB b x, (List.range b.cs.length).map (amtM b x high full)⟩
def fitM (a : Amts) : Bool := a.x.all fun n => decide (0 ≤ n) && decide (n ≤ 1073741824)
def okHigh (x : Bs) (high : Nat) : Bool := (List.range 4).all fun i => !bit high i || (bit x.rs i && i != 0)
def okFull (x : Bs) (full : Nat) : Bool := (List.range 5).all fun i => !(bit full i && bit x.cs i)
def goodM (b : Blend) (x : Bs) (v : Int) (a : Amts) : Bool := fitM a && decide (brokenE b a = 0) && decide (costM b a.x = v)
def bestM (b : Blend) (x : Bs) (v : Int) : Option Amts :=
  (List.range (2 ^ (b.lo.length + 1))).findSome? fun high => if okHigh x high = true then
    (List.range (2 ^ b.cs.length)).findSome? fun full => if okFull x full = true ∧ goodM b x v (amtsM b x high full) = true then some (amtsM b x high full) else none
  else none
def rayS (b : Blend) (x : Bs) (s : Nat) : Nat → Int := onRows x fun t => inv b x s t
def rayR (b : Blend) (x : Bs) (r row : Nat) : Int := (if row = r then detB b x else 0) + onRows x (fun t => -(sumI x.k fun s => coefB b r (x.col s) * inv b x s t)) row
def raysM (b : Blend) (x : Bs) : List (Nat → Int) := (List.range x.k).map (rayS b x) ++ ((List.range (b.lo.length + 1)).filter fun r => !bit x.rs r).map (rayR b x)
def tryM (b : Blend) (w : Nat → Int) : Option Pr := if 0 < valueM b (pricesM b w 1 false) then some (pricesM b w 1 false) else none
def proofM (b : Blend) (x : Bs) : Option Pr := (raysM b x).findSome? fun ray => (tryM b ray).or (tryM b fun i => -ray i)

theorem detF_neg_ne {d : Int} (h : d ≠ 0) : 1 ≤ sgD d * d := by rw [sgD_mul]; omega
theorem denB_pos {b : Blend} {x : Bs} (hx : IsBase b x) : 1 ≤ denB b x := detF_neg_ne hx.2.2.2

theorem bits_of (P : Nat → Bool) (n : Nat) (hn : n ≤ 5) : ∃ s, s < 2 ^ n ∧ ∀ i, i < 5 → (bit s i = true ↔ i < n ∧ P i = true) := by
  have h : ∀ n, n ≤ 5 → ∀ p0 p1 p2 p3 p4 : Bool, ∃ s, s < 32 ∧ s < 2 ^ n ∧ ∀ i, i < 5 → (bit s i = true ↔ i < n ∧ ([p0, p1, p2, p3, p4].getD i false) = true) := by decide
  obtain ⟨s, _, h1, h2⟩ := h n hn (P 0) (P 1) (P 2) (P 3) (P 4)
  refine ⟨s, h1, fun i hi => ?_⟩
  rw [h2 i hi]
  match i with
  | 0 | 1 | 2 | 3 | 4 => rfl
  | _ + 5 => omega
end Go.AM.E
end

section
/-
Amounts as fractions and as numbers with a denominator (plain).
-/
namespace Go.AM.E
open LP

theorem cast_sumX (xs : List Int) (n : Nat) : ((sumX xs n : Int) : Rat) = S n fun i => ((xs.getD i 0 : Int) : Rat) := by
  induction n with
  | zero => rfl
  | succ n ih => show ((sumX xs n + xs.getD n 0 : Int) : Rat) = S n _ + _; rw [Rat.intCast_add, ih]
theorem cast_dot (f : Cem → Int) (cs : List Cem) (xs : List Int) (n : Nat) : ((dotTo f cs xs n : Int) : Rat) = S n fun i => ((f (cs.getD i cem0) : Int) : Rat) * ((xs.getD i 0 : Int) : Rat) := by
  induction n with
  | zero => rfl
  | succ n ih => show ((dotTo f cs xs n + f (cs.getD n cem0) * xs.getD n 0 : Int) : Rat) = S n _ + _; rw [Rat.intCast_add, Rat.intCast_mul, ih]
theorem cast_lt {a c : Int} : ((a : Int) : Rat) < (c : Rat) ↔ a < c := Rat.intCast_lt_intCast
theorem cast_le {a c : Int} : ((a : Int) : Rat) ≤ (c : Rat) ↔ a ≤ c := Rat.intCast_le_intCast
theorem cast_eq' {a c : Int} : ((a : Int) : Rat) = (c : Rat) ↔ a = c := Rat.intCast_inj
def Times (b : Blend) (a : Amts) (z : Nat → Rat) : Prop := 1 ≤ a.den ∧ ∀ i, i < b.cs.length → ((a.x.getD i 0 : Int) : Rat) = (a.den : Rat) * z i
theorem mul_le_pos {d x y : Rat} (hd : 0 < d) : d * x ≤ d * y ↔ x ≤ y := by
  constructor
  · intro h
    apply Classical.byContradiction
    intro hn
    have := Rat.mul_lt_mul_of_pos_left (a := y) (b := x) (by grind) hd
    grind
  · intro h
    exact Rat.mul_le_mul_of_nonneg_left h (by grind)
theorem S_times {n : Nat} {d : Rat} {f g h : Nat → Rat} (hf : ∀ i, i < n → f i = d * g i) : S n (fun i => h i * f i) = d * S n fun i => h i * g i := by
  rw [← S_mul]
  exact S_congr fun i hi => by rw [hf i hi]; grind
theorem prop_cast {b : Blend} {a : Amts} {z : Nat → Rat} (ht : Times b a z) (k : Nat) : ((propM b a.x k : Int) : Rat) = (a.den : Rat) * rowQ b z (k + 1) := by
  unfold propM
  rw [cast_dot]
  unfold rowQ
  rw [← S_times (f := fun i => ((a.x.getD i 0 : Int) : Rat)) ht.2]
  refine S_congr fun i _ => ?_
  rw [coef_succ]
  rfl
theorem cost_cast {b : Blend} {a : Amts} {z : Nat → Rat} (ht : Times b a z) : ((costM b a.x : Int) : Rat) = (a.den : Rat) * costQ b z := by
  unfold costM
  rw [cast_dot]
  unfold costQ
  rw [← S_times (f := fun i => ((a.x.getD i 0 : Int) : Rat)) ht.2]
  rfl
theorem sum_cast {b : Blend} {a : Amts} {z : Nat → Rat} (ht : Times b a z) : ((sumX a.x b.cs.length : Int) : Rat) = (a.den : Rat) * S b.cs.length z := by
  rw [cast_sumX, ← S_mul]
  exact S_congr ht.2
theorem den_pos {a : Amts} (h : 1 ≤ a.den) : (0 : Rat) < (a.den : Rat) := by
  have := cast_lt.2 (show (0 : Int) < a.den by omega)
  simpa using this
theorem broken_iff {b : Blend} {a : Amts} {z : Nat → Rat} (hp : ∀ i, i < b.cs.length → 0 ≤ a.x.getD i 0) (ht : Times b a z) : brokenE b a = 0 ↔ FeasR b z := by
  have hd := den_pos ht.1
  have h1 : shortB b a = false ↔ ∀ i, i < b.cs.length → z i ≤ (stAt b i : Rat) := by
    rw [short_iff]
    unfold Stocked
    refine forall_congr' fun i => forall_congr' fun hi => ?_
    rw [Int.not_lt, ← cast_le, ht.2 i hi, Rat.intCast_mul, Rat.mul_comm (stAt b i : Rat), mul_le_pos hd]
  have h0 : ∀ i, i < b.cs.length → 0 ≤ z i := by
    intro i hi
    have := (cast_le0 _).2 (hp i hi)
    rw [ht.2 i hi] at this
    have e : (a.den : Rat) * 0 = 0 := by grind
    exact (mul_le_pos hd).1 (by rw [e]; exact this)
  have h2 : sumX a.x b.cs.length = b.tot * a.den ↔ S b.cs.length z = (b.tot : Rat) := by
    rw [← cast_eq', sum_cast ht, Rat.intCast_mul]
    constructor
    · intro h
      have : (a.den : Rat) * S b.cs.length z = (a.den : Rat) * (b.tot : Rat) := by grind
      grind
    · intro h; rw [h]; grind
  have h3 : keptB b a.x a.den = true ↔ ∀ k, k < b.lo.length → ((b.tot * b.lo.getD k 0 : Int) : Rat) ≤ rowQ b z (k + 1) ∧ rowQ b z (k + 1) ≤ ((b.tot * b.hi.getD k 0 : Int) : Rat) := by
    rw [kept_iff]
    refine forall_congr' fun k => forall_congr' fun hk => ?_
    rw [inBounds_iff, ← cast_le, ← cast_le, prop_cast ht]
    have e1 : ((b.lo.getD k 0 * (b.tot * a.den) : Int) : Rat) = (a.den : Rat) * ((b.tot * b.lo.getD k 0 : Int) : Rat) := by
      rw [← Rat.intCast_mul, cast_eq']; grind
    have e2 : ((b.hi.getD k 0 * (b.tot * a.den) : Int) : Rat) = (a.den : Rat) * ((b.tot * b.hi.getD k 0 : Int) : Rat) := by
      rw [← Rat.intCast_mul, cast_eq']; grind
    rw [e1, e2, mul_le_pos hd, mul_le_pos hd]
  unfold brokenE
  constructor
  · intro h
    split at h
    · cases h
    · rename_i g1
      split at h
      · cases h
      · rename_i g2
        split at h
        · rename_i g3
          have g1' : shortB b a = false := by simpa using g1
          exact ⟨fun i hi => ⟨h0 i hi, h1.1 g1' i hi⟩, h2.1 (Classical.not_not.1 g2), h3.1 g3⟩
        · cases h
  · rintro ⟨f1, f2, f3⟩
    rw [if_neg (by rw [h1.2 fun i hi => (f1 i hi).2]; decide), if_neg (fun hn => hn (h2.2 f2)), if_pos (h3.2 f3)]
theorem times_self {b : Blend} {a : Amts} (h : 1 ≤ a.den) : Times b a fun i => ((a.x.getD i 0 : Int) : Rat) / (a.den : Rat) := by
  refine ⟨h, fun i _ => ?_⟩
  have := den_pos h
  grind
end Go.AM.E
end

section
/-
A basis that solves the program gives amounts with prices of their cost; one that proves that there are none gives a proof (plain).
-/
namespace Go.AM.E
open LP

theorem agree {v : Nat → V4} {q : B4} (hD : DB v q ≠ 0) {w w' : V4} (h : ∀ j, q.has j → dot w (v j) = dot w' (v j)) (x : V4) : dot w x = dot w' x := by
  rw [yB_uniq (c := fun j => dot w' (v j)) hD (fun t ht => h _ (B4.has_iff.2 ⟨t, ht, rfl⟩)) x, ← yB_uniq (c := fun j => dot w' (v j)) (w := w') hD (fun t _ => rfl) x]
structure Linked (b : Blend) (q : B4) (x : Bs) : Prop where
  base : IsBase b x
  det : DB (vK (KB b)) q ≠ 0
  below : q.below 9
  rows : ∀ r, r < 4 → (r ∈ x.R ↔ ¬ q.has (5 + r))
  cols : ∀ c, c < 5 → (c ∈ x.C ↔ q.has c)
theorem linked {b : Blend} (hb : Valid b) {q : B4} (hq : q.below 9) (hD : DB (vK (KB b)) q ≠ 0) : ∃ x, Linked b q x := by
  obtain ⟨rs, cs, h1, h2, h3, h4, h5, h6⟩ := pick hb.2.1.2 (KB_col b) (KB_row hb) hq hD
  refine ⟨⟨rs, cs⟩, ⟨⟨h1, h2, h3.symm, ?_⟩, hD, hq, h5, h6⟩⟩
  have e : matRC (KB b) (memM rs) (memM cs) = matRC (coefB b) (memM rs) (memM cs) := by
    unfold matRC
    refine List.map_congr_left fun r _ => List.map_congr_left fun c hc => ?_
    unfold KB
    rw [if_pos (memM_bound h2 hc)]
  rw [e] at h4
  exact h4
theorem has_cases {q : B4} (hq : q.below 9) {j : Nat} (h : q.has j) : j < 5 ∨ ∃ r, r < 4 ∧ j = 5 + r := by
  have : j < 9 := by
    obtain ⟨s, hs, e⟩ := B4.has_iff.1 h
    rw [← e]; exact B4.below_at hq s
  by_cases h5 : j < 5
  · exact .inl h5
  · exact .inr ⟨j - 5, by omega, by omega⟩
theorem agree' {b : Blend} {q : B4} {x : Bs} (hl : Linked b q x) {w w' : V4} (h1 : ∀ c, c ∈ x.C → dot w (vK (KB b) c) = dot w' (vK (KB b) c)) (h2 : ∀ r, r < 4 → r ∉ x.R → dot w (vK (KB b) (5 + r)) = dot w' (vK (KB b) (5 + r))) (y : V4) : dot w y = dot w' y := by
  refine agree hl.det (fun j hj => ?_) y
  rcases has_cases hl.below hj with h | ⟨r, hr, e⟩
  · exact h1 j ((hl.cols j h).2 hj)
  · subst e
    exact h2 r hr fun hR => ((hl.rows r hr).1 hR) hj
theorem dot_smul (t : Rat) (w y : V4) : dot (fun k => t * w k) y = t * dot w y := by simp only [dot]; grind
theorem cols_lt {b : Blend} {x : Bs} (hx : IsBase b x) {c : Nat} (h : c ∈ x.C) : c < b.cs.length := memM_bound hx.2.1 h
theorem rows_lt {b : Blend} {x : Bs} (hx : IsBase b x) {r : Nat} (h : r ∈ x.R) : r ≤ b.lo.length := by have := memM_bound hx.1 h; omega
theorem wD_eq {b : Blend} (hb : Valid b) {q : B4} {x : Bs} (hl : Linked b q x) (y : V4) : dot (wQ (wD b x)) y = (denB b x : Rat) * dot (yB (vK (KB b)) (cR b) q) y := by
  rw [← dot_smul]
  refine agree' hl (fun c hc => ?_) (fun r hr hR => ?_) y
  · have h5 : c < 5 := memM_lt hc
    have hn := cols_lt hl.base hc
    rw [wQ_cem _ b h5 hn, wD_col hb hl.base hc, dot_smul]
    obtain ⟨t, ht, e⟩ := B4.has_iff.1 ((hl.cols c h5).1 hc)
    rw [← e, yB_at hl.det ht, e, Rat.intCast_mul]
    unfold cR cB
    rw [if_pos h5]
  · rw [wQ_row _ b hr, dot_smul, show wD b x r = 0 from onRows_out hR]
    have hh : q.has (5 + r) := Classical.not_not.1 fun hn => hR ((hl.rows r hr).2 hn)
    obtain ⟨t, ht, e⟩ := B4.has_iff.1 hh
    rw [← e, yB_at hl.det ht, e]
    have : cR b (5 + r) = 0 := by unfold cR cB; rw [if_neg (by omega)]; rfl
    rw [this]; simp
theorem dual_val {b : Blend} (hb : Valid b) {q : B4} {x : Bs} (hl : Linked b q x) : ((valueM b (dualM b x) : Int) : Rat) = (denB b x : Rat) * valQ b (yB (vK (KB b)) (cR b) q) (cR b) := by
  unfold dualM
  rw [value_cast hb]
  have hd := denB_pos hl.base
  have hd0 : (0 : Rat) ≤ (denB b x : Rat) := (cast_le0 _).2 (by omega)
  refine valQ_scale hd0 fun j _ => ?_
  rw [wD_eq hb hl, if_pos rfl]
  grind
theorem comp_val {b : Blend} (hb : Valid b) {q : B4} {z : Nat → Rat} (h2 : ∀ k, k < 4 → S 9 (fun j => z j * vK (KB b) j k) = 0)
    (h4 : ∀ j, j < 9 → (0 < red (vK (KB b)) (cR b) q j → z j = hiR b j) ∧ (red (vK (KB b)) (cR b) q j < 0 → z j = loR b j)) : costQ b z = valQ b (yB (vK (KB b)) (cR b) q) (cR b) := by
  unfold valQ
  have e : S 9 (fun j => ph (loR b j) (hiR b j) (dot (yB (vK (KB b)) (cR b) q) (vK (KB b) j) - cR b j)) = S 9 fun j => z j * (dot (yB (vK (KB b)) (cR b) q) (vK (KB b) j) - cR b j) := by
    refine S_congr fun j hj => ?_
    obtain ⟨h5, h6⟩ := h4 j hj
    unfold red at h5 h6
    generalize dot (yB (vK (KB b)) (cR b) q) (vK (KB b) j) - cR b j = r at *
    unfold ph
    by_cases h7 : 0 < r
    · rw [if_pos (by grind), h5 h7]
    · by_cases h8 : r < 0
      · rw [if_neg (by grind), h6 h8]
      · have : r = 0 := by grind
        rw [this]; simp
  rw [e, S_dot h2, cost_S hb.2.1.2]
  grind
theorem S_cols {b : Blend} {x : Bs} (hb : Valid b) (hx : IsBase b x) (g : Nat → Rat) : S b.cs.length (fun i => if bit x.cs i = true then g i else 0) = S x.k fun s => g (x.col s) := by
  have e : ∀ s, s < x.k → g (x.col s) = S b.cs.length fun i => if i = x.col s then g (x.col s) else 0 := fun s hs => (S_one _ (col_lt' hx hs)).symm
  rw [S_congr e]
  have sw : ∀ n m : Nat, ∀ f : Nat → Nat → Rat, S n (fun i => S m (f i)) = S m fun j => S n fun i => f i j := by
    intro n m f
    induction n with
    | zero => show 0 = S m (fun _ => 0); rw [S_zero]
    | succ n ih => show S n _ + S m (f n) = S m (fun j => S n (fun i => f i j) + f n j); rw [ih, S_add]
  rw [sw]
  refine S_congr fun i hi => ?_
  by_cases hc : bit x.cs i = true
  · have hi5 : i < 5 := by have := hb.2.1.2; omega
    obtain ⟨s, hs, e⟩ := col_of hx (show i ∈ x.C from mem_memM.2 ⟨hi5, hc⟩)
    rw [if_pos hc, S_congr (g := fun s' => if s' = s then g i else 0), S_one _ hs]
    intro s' hs'
    by_cases es : s' = s
    · rw [if_pos es, es, if_pos e.symm, e]
    · rw [if_neg es, if_neg]
      intro e2
      apply es
      have h1 : x.col s' = x.col s := by rw [e, e2]
      unfold Bs.col at h1
      have hk : x.C.length = x.k := hx.2.2.1
      rw [getD_in (by omega), getD_in (by omega)] at h1
      exact memM_inj (by show s' < x.C.length; omega) (by show s < x.C.length; omega) h1
  · rw [if_neg hc, S_congr (g := fun _ => 0), S_zero]
    intro s hs
    refine if_neg fun e => hc ?_
    rw [e]
    exact (mem_memM.1 (col_mem hx hs)).2
end Go.AM.E
end

section
/-
The search finds amounts, or a proof (plain).
-/
namespace Go.AM.E
open LP

theorem mem_C {x : Bs} {i : Nat} (h : i < 5) : i ∈ x.C ↔ bit x.cs i = true := by
  unfold Bs.C; rw [mem_memM]; exact ⟨fun h => h.2, fun h' => ⟨h, h'⟩⟩
theorem mem_R {x : Bs} {i : Nat} (h : i < 5) : i ∈ x.R ↔ bit x.rs i = true := by
  unfold Bs.R; rw [mem_memM]; exact ⟨fun h => h.2, fun h' => ⟨h, h'⟩⟩
structure At (b : Blend) (x : Bs) (high full : Nat) (z : Nat → Rat) : Prop where
  fixed : ∀ i, i < b.cs.length → bit x.cs i = false → z i = if bit full i = true then (stAt b i : Rat) else 0
  edge : ∀ r, r ∈ x.R → rowQ b z r = (edgeM b high r : Rat)
theorem fix_cast {b : Blend} {x : Bs} {high full : Nat} {z : Nat → Rat} (hA : At b x high full z) {i : Nat} (hi : i < b.cs.length) (hc : bit x.cs i = false) : ((fixM b x full i : Int) : Rat) = (denB b x : Rat) * z i := by
  unfold fixM
  rw [if_neg (by rw [hc]; decide), hA.fixed i hi hc]
  split
  · rw [Rat.intCast_mul]; grind
  · simp
theorem fix_div {b : Blend} {x : Bs} (hx : IsBase b x) {high full : Nat} {z : Nat → Rat} (hA : At b x high full z) {i : Nat} (hi : i < b.cs.length) (hc : bit x.cs i = false) (c : Int) : (((c * fixM b x full i).tdiv (denB b x) : Int) : Rat) = (c : Rat) * z i := by
  have hd := denB_pos hx
  unfold fixM
  rw [if_neg (by rw [hc]; decide), hA.fixed i hi hc]
  split
  · rw [← Int.mul_assoc, Int.mul_tdiv_cancel _ (by omega), Rat.intCast_mul]
  · simp
theorem rest_cast {b : Blend} (hb : Valid b) {x : Bs} (hx : IsBase b x) {high full : Nat} {z : Nat → Rat} (hA : At b x high full z) {t : Nat} (ht : t < x.k) :
    ((restM b x high full t : Int) : Rat) = S x.k fun s => (coefB b (x.row t) (x.col s) : Rat) * z (x.col s) := by
  rw [← S_cols hb hx (fun i => (coefB b (x.row t) i : Rat) * z i)]
  unfold restM
  rw [Rat.intCast_sub, ← hA.edge _ (row_mem ht), cast_sumI]
  have e : rowQ b z (x.row t) = S b.cs.length (fun i => if bit x.cs i = true then (coefB b (x.row t) i : Rat) * z i else 0) + S b.cs.length fun i => if bit x.cs i = true then 0 else (coefB b (x.row t) i : Rat) * z i := by
    rw [← S_add]
    unfold rowQ
    refine S_congr fun i _ => ?_
    cases bit x.cs i <;> simp <;> grind
  rw [e]
  have e2 : S b.cs.length (fun i => (((if bit x.cs i = true then 0 else (coefB b (x.row t) i * fixM b x full i).tdiv (denB b x) : Int)) : Rat)) = S b.cs.length fun i => if bit x.cs i = true then 0 else (coefB b (x.row t) i : Rat) * z i := by
    refine S_congr fun i hi => ?_
    cases hc : bit x.cs i with
    | true => rfl
    | false =>
      rw [if_neg (by decide), if_neg (by decide)]
      exact fix_div hx hA hi hc _
  rw [e2]
  grind
theorem cast_crm (b : Blend) (x : Bs) (s c : Nat) : ((crm b x s c : Int) : Rat) = S x.k fun t => (inv b x s t : Rat) * (coefB b (x.row t) c : Rat) := by
  unfold crm
  rw [cast_sumI]
  exact S_congr fun t _ => Rat.intCast_mul _ _
theorem S_swap (n m : Nat) (f : Nat → Nat → Rat) : S n (fun i => S m (f i)) = S m fun j => S n fun i => f i j := by
  induction n with
  | zero => show 0 = S m (fun _ => 0); rw [S_zero]
  | succ n ih => show S n _ + S m (f n) = S m (fun j => S n (fun i => f i j) + f n j); rw [ih, S_add]
theorem amt_cast {b : Blend} (hb : Valid b) {x : Bs} (hx : IsBase b x) {high full : Nat} {z : Nat → Rat} (hA : At b x high full z) {i : Nat} (hi : i < b.cs.length) : ((amtM b x high full i : Int) : Rat) = (denB b x : Rat) * z i := by
  have h5 : i < 5 := by have := hb.2.1.2; omega
  unfold amtM
  cases hc : bit x.cs i with
  | false =>
    have e0 : (sumI x.k fun t => sumI x.k fun s => if x.col s = i then sgD (detB b x) * inv b x s t * restM b x high full t else 0) = 0 := by
      rw [sumI_congr (g := fun _ => 0) (fun t _ => ?_), sumI_zero]
      rw [sumI_congr (g := fun _ => 0) (fun s hs => ?_), sumI_zero]
      refine if_neg fun e => ?_
      have := (mem_C h5).1 (e ▸ col_mem hx hs)
      rw [hc] at this; cases this
    rw [e0, Int.add_zero]
    exact fix_cast hA hi hc
  | true =>
    obtain ⟨s0, hs0, e⟩ := col_of hx ((mem_C (x := x) h5).2 hc)
    have hk : x.C.length = x.k := hx.2.2.1
    have inj : ∀ s, s < x.k → x.col s = i → s = s0 := by
      intro s hs e2
      have h1 : x.col s = x.col s0 := by rw [e, e2]
      unfold Bs.col at h1
      rw [getD_in (by omega), getD_in (by omega)] at h1
      exact memM_inj (by show s < x.C.length; omega) (by show s0 < x.C.length; omega) h1
    have e1 : ∀ t, (sumI x.k fun s => if x.col s = i then sgD (detB b x) * inv b x s t * restM b x high full t else 0) = sgD (detB b x) * (inv b x s0 t * restM b x high full t) := by
      intro t
      rw [sumI_congr (g := fun s => if s = s0 then sgD (detB b x) * (inv b x s0 t * restM b x high full t) else 0), sumI_one _ hs0]
      intro s hs
      by_cases es : s = s0
      · rw [if_pos es, es, if_pos e]; grind
      · rw [if_neg es, if_neg fun e2 => es (inj s hs e2)]
    rw [sumI_congr fun t _ => e1 t, sumI_mul]
    have f0 : fixM b x full i = 0 := by unfold fixM; rw [if_pos hc]
    rw [f0, Int.zero_add, Rat.intCast_mul, cast_sumI]
    have e3 : S x.k (fun t => ((inv b x s0 t * restM b x high full t : Int) : Rat)) = (detB b x : Rat) * z i := by
      have e4 : ∀ t, t < x.k → ((inv b x s0 t * restM b x high full t : Int) : Rat) = S x.k fun s => z (x.col s) * ((inv b x s0 t : Rat) * (coefB b (x.row t) (x.col s) : Rat)) := by
        intro t ht
        rw [Rat.intCast_mul, rest_cast hb hx hA ht, ← S_mul]
        exact S_congr fun s _ => by grind
      rw [S_congr e4, S_swap]
      have e5 : ∀ s, s < x.k → S x.k (fun t => z (x.col s) * ((inv b x s0 t : Rat) * (coefB b (x.row t) (x.col s) : Rat))) = if s = s0 then (detB b x : Rat) * z i else 0 := by
        intro s hs
        rw [S_mul, ← cast_crm, crm_col hb hx hs0 hs]
        by_cases es : s = s0
        · rw [if_pos es, if_pos es, es, e]; grind
        · rw [if_neg es, if_neg es]; simp
      rw [S_congr e5, S_one _ hs0]
    rw [e3]
    unfold denB
    rw [Rat.intCast_mul]
    grind
theorem amts_get {b : Blend} {x : Bs} {high full i : Nat} (hi : i < b.cs.length) : (amtsM b x high full).x.getD i 0 = amtM b x high full i := range_getD hi
theorem amts_times {b : Blend} (hb : Valid b) {x : Bs} (hx : IsBase b x) {high full : Nat} {z : Nat → Rat} (hA : At b x high full z) : Times b (amtsM b x high full) z :=
  ⟨denB_pos hx, fun i hi => by rw [amts_get hi]; exact amt_cast hb hx hA hi⟩

theorem det_small {b : Blend} (hb : Valid b) {x : Bs} (hx : IsBase b x) (A : Nat → Nat → Int) (hA : ∀ t s, t < x.k → s < x.k → 0 ≤ A t s ∧ A t s ≤ 20) (h0 : ∀ t s, t < x.k → s < x.k → x.row t = 0 → A t s = 1) : -192000 ≤ detF x.k (matA x.k A) ∧ detF x.k (matA x.k A) ≤ 192000 := by
  have hk := k_le hb hx
  have hin : ∀ l ∈ matA x.k A, ∀ v ∈ l, -20 ≤ v ∧ v ≤ 20 := by
    intro l hl v hv
    obtain ⟨t, ht, rfl⟩ := List.mem_map.1 hl
    obtain ⟨s, hs, rfl⟩ := List.mem_map.1 hv
    have := hA t s (by simpa using ht) (by simpa using hs)
    omega
  have hlen : ∀ l ∈ matA x.k A, l.length ≤ x.k := by
    intro l hl
    obtain ⟨t, ht, rfl⟩ := List.mem_map.1 hl
    simp
  by_cases h4 : x.k = 4
  · -- the first row is that of the sum
    have hr : x.row 0 = 0 := by
      have h : ∀ rs, rs < 16 → (memM rs).length = 4 → (memM rs).getD 0 0 = 0 := by decide
      have h1 := hx.1
      have : 2 ^ (b.lo.length + 1) ≤ 2 ^ 4 := Nat.pow_le_pow_right (by decide) (by have := hb.2.2.1; omega)
      exact h x.rs (by omega) h4
    rw [h4] at hin hlen ⊢
    rw [h4] at hA h0
    have e : matA 4 A = (List.range 4).map (fun s => A 0 s) :: ((List.range 3).map fun t => (List.range 4).map fun s => A (t + 1) s) := by simp [matA, range4, range3]
    rw [e] at hin hlen ⊢
    show -192000 ≤ lapTo (fun k => detF 3 (((List.range 3).map fun t => (List.range 4).map fun s => A (t + 1) s).map fun l => l.eraseIdx k)) ((List.range 4).map fun s => A 0 s) ((List.range 4).map fun s => A 0 s).length ∧ lapTo (fun k => detF 3 (((List.range 3).map fun t => (List.range 4).map fun s => A (t + 1) s).map fun l => l.eraseIdx k)) ((List.range 4).map fun s => A 0 s) ((List.range 4).map fun s => A 0 s).length ≤ 192000
    have h1 := lap_in (f := fun k => detF 3 (List.map (fun l => l.eraseIdx k) ((List.range 3).map fun t => (List.range 4).map fun s => A (t + 1) s))) (r := (List.range 4).map (fun s => A 0 s)) (a := 1) (B := 48000) (fun v hv => by
      obtain ⟨s, hs, rfl⟩ := List.mem_map.1 hv
      rw [h0 0 s (by decide) (by simpa using hs) hr]; decide) (by decide) (fun k hk => by
        have := det_in 3 (List.map (fun l => l.eraseIdx k) ((List.range 3).map fun t => (List.range 4).map fun s => A (t + 1) s)) (fun l hl => by
          obtain ⟨l0, hl0, rfl⟩ := List.mem_map.1 hl
          obtain ⟨t, ht, rfl⟩ := List.mem_map.1 hl0
          rw [List.length_eraseIdx]; simp at hk ⊢; rw [if_pos hk]; omega) (fun l hl v hv => by
          obtain ⟨l0, hl0, rfl⟩ := List.mem_map.1 hl
          exact hin l0 (List.mem_cons_of_mem _ hl0) v (List.mem_of_mem_eraseIdx hv))
        exact this) ((List.range 4).map (fun s => A 0 s)).length (Nat.le_refl _)
    simp only [List.length_map, List.length_range] at h1 ⊢
    omega
  · have h1 := det_in x.k (matA x.k A) hlen hin
    have h2 : ∀ k, k ≤ 3 → detBound k ≤ 48000 := by decide
    have := h2 x.k (by omega)
    omega
theorem coef_small {b : Blend} (hb : Valid b) {x : Bs} (hx : IsBase b x) : ∀ t s, t < x.k → s < x.k → (0 ≤ coefB b (x.row t) (x.col s) ∧ coefB b (x.row t) (x.col s) ≤ 20) ∧ (x.row t = 0 → coefB b (x.row t) (x.col s) = 1) :=
  fun t s _ hs => ⟨coef_in hb (col_lt' hx hs), fun h => by rw [h]; rfl⟩
theorem detB_small {b : Blend} (hb : Valid b) {x : Bs} (hx : IsBase b x) : -192000 ≤ detB b x ∧ detB b x ≤ 192000 := by
  unfold detB
  rw [matB_eq hx]
  exact det_small hb hx _ (fun t s ht hs => (coef_small hb hx t s ht hs).1) (fun t s ht hs => (coef_small hb hx t s ht hs).2)
theorem denB_small {b : Blend} (hb : Valid b) {x : Bs} (hx : IsBase b x) : 1 ≤ denB b x ∧ denB b x ≤ 192000 := by
  have h1 := denB_pos hx
  have h2 := detB_small hb hx
  refine ⟨h1, ?_⟩
  unfold denB at *
  rw [sgD_mul] at *
  omega
theorem crm_small {b : Blend} (hb : Valid b) {x : Bs} (hx : IsBase b x) {s c : Nat} (hs : s < x.k) (hc : c < b.cs.length) : -192000 ≤ crm b x s c ∧ crm b x s c ≤ 192000 := by
  rw [crm_det hb hx hs]
  refine det_small hb hx _ (fun t s' ht hs' => ?_) (fun t s' ht hs' h0 => ?_)
  · unfold colA
    split
    · exact coef_in hb hc
    · exact (coef_small hb hx t s' ht hs').1
  · unfold colA
    split
    · show coefB b (x.row t) c = 1
      rw [h0]; rfl
    · exact (coef_small hb hx t s' ht hs').2 h0
end Go.AM.E
end

section
/-
The search finds amounts at the least cost, or a proof (plain).
-/
namespace Go.AM.E
open LP

theorem stAt_le {b : Blend} (hb : Valid b) {i : Nat} (hi : i < b.cs.length) : stAt b i ≤ 1000 := (cem_at hb hi).1.2
theorem good_at {b : Blend} (hb : Valid b) {x : Bs} (hx : IsBase b x) {high full : Nat} {z : Nat → Rat} (hA : At b x high full z) (hf : FeasR b z) {v : Int} (hv : (v : Rat) = (denB b x : Rat) * costQ b z) : goodM b x v (amtsM b x high full) = true := by
  have ht := amts_times hb hx hA
  have hd := denB_small hb hx
  have hd0 : (0 : Rat) ≤ (denB b x : Rat) := (cast_le0 _).2 (by omega)
  have hin : ∀ i, i < b.cs.length → 0 ≤ amtM b x high full i ∧ amtM b x high full i ≤ 1073741824 := by
    intro i hi
    have e := amt_cast hb hx hA hi
    obtain ⟨z0, z1⟩ := hf.1 i hi
    constructor
    · rw [← cast_le0, e]; exact Rat.mul_nonneg hd0 z0
    · have h1 : ((amtM b x high full i : Int) : Rat) ≤ ((denB b x * stAt b i : Int) : Rat) := by
        rw [e, Rat.intCast_mul]
        exact Rat.mul_le_mul_of_nonneg_left z1 hd0
      have h2 := cast_le.1 h1
      have h3 := Int.mul_le_mul hd.2 (stAt_le hb hi) (cem_at hb hi).1.1 (by decide)
      omega
  unfold goodM
  rw [Bool.and_eq_true, Bool.and_eq_true, decide_eq_true_eq, decide_eq_true_eq]
  refine ⟨⟨?_, ?_⟩, ?_⟩
  · unfold fitM
    rw [List.all_eq_true]
    intro n hn
    obtain ⟨i, hi, rfl⟩ := List.mem_map.1 hn
    have := hin i (by simpa using hi)
    simp; omega
  · rw [broken_iff (z := z) (fun i hi => by rw [amts_get hi]; exact (hin i hi).1) ht]
    exact hf
  · rw [← cast_eq', cost_cast ht, hv]
    rfl
theorem best_some {b : Blend} {x : Bs} {v : Int} {high full : Nat} (h1 : high < 2 ^ (b.lo.length + 1)) (h2 : full < 2 ^ b.cs.length) (h3 : okHigh x high = true) (h4 : okFull x full = true) (h5 : goodM b x v (amtsM b x high full) = true) : (bestM b x v).isSome = true := by
  unfold bestM
  rw [List.findSome?_isSome_iff]
  refine ⟨high, by simpa using h1, ?_⟩
  rw [if_pos h3, List.findSome?_isSome_iff]
  exact ⟨full, by simpa using h2, by rw [if_pos ⟨h4, h5⟩]; rfl⟩
theorem okHigh_of {x : Bs} {high : Nat} (h : ∀ i, i < 5 → bit high i = true → bit x.rs i = true ∧ i ≠ 0) : okHigh x high = true := by
  unfold okHigh
  rw [List.all_eq_true]
  intro i hi
  have hi : i < 4 := by simpa using hi
  cases hb : bit high i with
  | false => rfl
  | true =>
    obtain ⟨h1, h2⟩ := h i (by omega) hb
    simp [h1, h2]
theorem okFull_of {x : Bs} {full : Nat} (h : ∀ i, i < 5 → bit full i = true → bit x.cs i = false) : okFull x full = true := by
  unfold okFull
  rw [List.all_eq_true]
  intro i hi
  have hi : i < 5 := by simpa using hi
  cases hb : bit full i with
  | false => rfl
  | true => simp [h i hi hb]
theorem found_best {b : Blend} (hb : Valid b) {q : B4} {x : Bs} (hl : Linked b q x) {z : Nat → Rat} (h1 : ∀ j, j < 9 → loR b j ≤ z j ∧ z j ≤ hiR b j) (h2 : ∀ k, k < 4 → S 9 (fun j => z j * vK (KB b) j k) = 0)
    (h3 : ∀ j, j < 9 → ¬ q.has j → z j = loR b j ∨ z j = hiR b j) : ∃ high full, high < 2 ^ (b.lo.length + 1) ∧ full < 2 ^ b.cs.length ∧ okHigh x high = true ∧ okFull x full = true ∧ At b x high full z := by
  have hn := hb.2.1.2
  have hm := hb.2.2.1
  have hf := feas_of hb h1 h2
  have hs := fun k (hk : k < 4) => slack hn hk (h2 k hk)
  obtain ⟨full, f1, f2⟩ := bits_of (fun i => !bit x.cs i && decide (z i ≠ 0)) b.cs.length hn
  obtain ⟨high, g1, g2⟩ := bits_of (fun r => bit x.rs r && r != 0 && decide (rowQ b z r ≠ loR b (5 + r))) (b.lo.length + 1) (by omega)
  refine ⟨high, full, g1, f1, okHigh_of fun i hi hh => ?_, okFull_of fun i hi hh => ?_, ⟨fun i hi hc => ?_, fun r hr => ?_⟩⟩
  · have := ((g2 i hi).1 hh).2
    simp at this
    exact ⟨this.1.1, this.1.2⟩
  · have := ((f2 i hi).1 hh).2
    simp at this
    exact this.1
  · have h5 : i < 5 := by omega
    have hnot : ¬ q.has i := fun hh => by
      have := (mem_C h5).1 ((hl.cols i h5).2 hh)
      rw [hc] at this; cases this
    have el : loR b i = 0 := by unfold loR loB; rw [if_pos h5]; rfl
    have eh : hiR b i = (stAt b i : Rat) := by unfold hiR hiB; rw [if_pos h5]
    have h6 := h3 i (by omega) hnot
    rw [el, eh] at h6
    by_cases hz : z i = 0
    · have : ¬ bit full i = true := fun hh => by
        have := ((f2 i h5).1 hh).2
        simp [hz] at this
      rw [if_neg this]; exact hz
    · have : bit full i = true := (f2 i h5).2 ⟨hi, by simp [hc, hz]⟩
      rw [if_pos this]
      rcases h6 with h | h
      · exact absurd h hz
      · exact h
  · have hr5 := memM_lt hr
    have hrm := rows_lt hl.base hr
    have hnot := (hl.rows r (by omega)).1 hr
    have h6 := h3 (5 + r) (by omega) hnot
    rw [hs r (by omega)] at h6
    unfold edgeM
    by_cases h0 : r = 0
    · rw [if_pos h0]
      subst h0
      have el : loR b 5 = (b.tot : Rat) := rfl
      have eh : hiR b 5 = (b.tot : Rat) := rfl
      rw [show 5 + 0 = 5 from rfl, el, eh] at h6
      rcases h6 with h | h <;> exact h
    · rw [if_neg h0]
      have el : loR b (5 + r) = ((b.tot * b.lo.getD (r - 1) 0 : Int) : Rat) := by
        unfold loR loB
        rw [if_neg (by omega), if_neg (by omega), show 5 + r - 6 = r - 1 by omega]
      have eh : hiR b (5 + r) = ((b.tot * b.hi.getD (r - 1) 0 : Int) : Rat) := by
        unfold hiR hiB
        rw [if_neg (by omega), if_neg (by omega), show 5 + r - 6 = r - 1 by omega]
      by_cases hz : rowQ b z r = loR b (5 + r)
      · have : ¬ bit high r = true := fun hh => by
          have := ((g2 r hr5).1 hh).2
          simp [hz] at this
        rw [if_neg this, hz, el]
      · have hbit := (mem_R hr5).1 hr
        have : bit high r = true := (g2 r hr5).2 ⟨by omega, by simp [hbit, h0, hz]⟩
        rw [if_pos this, ← eh]
        rcases h6 with h | h
        · exact absurd h hz
        · exact h

theorem ray_list {b : Blend} {x : Bs} {ray : Nat → Int} (hr : ray ∈ raysM b x) (h : 0 < valueM b (pricesM b ray 1 false) ∨ 0 < valueM b (pricesM b (fun i => -ray i) 1 false)) : (proofM b x).isSome = true := by
  unfold proofM
  rw [List.findSome?_isSome_iff]
  refine ⟨ray, hr, ?_⟩
  unfold tryM
  rcases h with h | h
  · rw [if_pos h]; rfl
  · rw [if_pos h]
    split <;> rfl
theorem valQ_zero {b : Blend} (hb : Valid b) (w : Nat → Int) : ((valueM b (pricesM b w 1 false) : Int) : Rat) = valQ b (wQ w) fun _ => 0 := by
  rw [value_cast hb]
  rfl
theorem rayS_dot {b : Blend} (hb : Valid b) {x : Bs} (hx : IsBase b x) (s c : Nat) : dotI (rayS b x s) b c = crm b x s c := onRows_dot hb hx _ c
theorem rayR_dot {b : Blend} (hb : Valid b) {x : Bs} (hx : IsBase b x) {r : Nat} (hr : r < 4) (c : Nat) : dotI (rayR b x r) b c = detB b x * coefB b r c - sumI x.k fun s => coefB b r (x.col s) * crm b x s c := by
  have e : dotI (rayR b x r) b c = ((if 0 = r then detB b x else 0) * coefB b 0 c + (if 1 = r then detB b x else 0) * coefB b 1 c + (if 2 = r then detB b x else 0) * coefB b 2 c + (if 3 = r then detB b x else 0) * coefB b 3 c) + dotI (onRows x (fun t => -(sumI x.k fun s => coefB b r (x.col s) * inv b x s t))) b c := by
    unfold dotI rayR; grind
  have e1 : (if 0 = r then detB b x else 0) * coefB b 0 c + (if 1 = r then detB b x else 0) * coefB b 1 c + (if 2 = r then detB b x else 0) * coefB b 2 c + (if 3 = r then detB b x else 0) * coefB b 3 c = detB b x * coefB b r c := by
    match r with
    | 0 | 1 | 2 | 3 => simp
    | _ + 4 => omega
  rw [e, e1, onRows_dot hb hx]
  have e2 : (sumI x.k fun t => -(sumI x.k fun s => coefB b r (x.col s) * inv b x s t) * coefB b (x.row t) c) = -1 * sumI x.k fun t => sumI x.k fun s => coefB b r (x.col s) * (inv b x s t * coefB b (x.row t) c) := by
    rw [← sumI_mul]
    refine sumI_congr fun t _ => ?_
    have : ∀ a : Int, -a * coefB b (x.row t) c = -1 * (coefB b (x.row t) c * a) := fun a => by grind
    rw [this, ← sumI_mul]
    congr 1
    exact sumI_congr fun s _ => by grind
  rw [e2, sumI_swap, sumI_congr (g := fun s => coefB b r (x.col s) * crm b x s c) fun s _ => by rw [sumI_mul]; rfl]
  grind
theorem rayR_col {b : Blend} (hb : Valid b) {x : Bs} (hx : IsBase b x) {r : Nat} (hr : r < 4) {c : Nat} (hc : c ∈ x.C) : dotI (rayR b x r) b c = 0 := by
  obtain ⟨s0, hs0, e⟩ := col_of hx hc
  rw [rayR_dot hb hx hr, ← e, sumI_congr (g := fun s => if s = s0 then coefB b r (x.col s0) * detB b x else 0), sumI_one _ hs0]
  · grind
  · intro s hs
    rw [crm_col hb hx hs hs0]
    by_cases h : s = s0
    · rw [if_pos h, if_pos h.symm, h]
    · rw [if_neg h, if_neg fun h' => h h'.symm]; simp
theorem found_proof {b : Blend} (hb : Valid b) {q : B4} {x : Bs} (hl : Linked b q x) {s : Nat} (hs : s < 4) {σ : Rat} (hσ : σ = 1 ∨ σ = -1)
    (h : S 9 (fun j => ph (loR b j) (hiR b j) (σ * dot (rho (vK (KB b)) q s) (vK (KB b) j))) < 0) : (proofM b x).isSome = true ∧ ¬ ∃ z, FeasR b z := by
  have hx := hl.base
  have hm := hb.2.2.1
  have hrho := fun t (ht : t < 4) => rho_at (v := vK (KB b)) hl.det hs ht
  have hval : 0 < valQ b (fun k => σ * rho (vK (KB b)) q s k) (fun _ => 0) := by
    unfold valQ
    rw [S_congr (g := fun j => ph (loR b j) (hiR b j) (σ * dot (rho (vK (KB b)) q s) (vK (KB b) j))) fun j _ => by rw [dot_smul]; congr 1; grind]
    grind
  have hno : ¬ ∃ z, FeasR b z := by
    rintro ⟨z, hz⟩
    have := weak0 hb hz fun k => σ * rho (vK (KB b)) q s k
    grind
  refine ⟨?_, hno⟩
  have hd0 : detB b x ≠ 0 := hx.2.2.2
  have hsg := detF_neg_ne hd0
  -- the products of the row with the basis
  have hat : ∀ j, q.has j → dot (rho (vK (KB b)) q s) (vK (KB b) j) = if j = q.at s then 1 else 0 := by
    intro j hj
    obtain ⟨t, ht, e⟩ := B4.has_iff.1 hj
    rw [← e, hrho t ht]
    by_cases e2 : t = s
    · rw [if_pos e2, if_pos (by rw [e2])]
    · rw [if_neg e2]
      by_cases e3 : q.at t = q.at s
      · have h1 := hrho t ht
        rw [e3, hrho s hs, if_pos rfl, if_neg e2] at h1
        grind
      · rw [if_neg e3]
  -- it is enough that a ray is a multiple of it
  have key : ∀ ray ∈ raysM b x, ∀ δ : Int, δ ≠ 0 → (∀ y, dot (wQ ray) y = (δ : Rat) * dot (rho (vK (KB b)) q s) y) → (proofM b x).isSome = true := by
    intro ray hray δ hδ hm'
    refine ray_list hray ?_
    have hneg : ∀ y, dot (wQ fun i => -ray i) y = -(δ : Rat) * dot (rho (vK (KB b)) q s) y := by
      intro y
      have e : dot (wQ fun i => -ray i) y = -dot (wQ ray) y := by
        unfold dot wQ
        simp only [Rat.intCast_neg]
        grind
      rw [e, hm']; grind
    have hval2 : ∀ (w : Nat → Int) (t : Rat), 0 < t → (∀ y, dot (wQ w) y = t * (σ * dot (rho (vK (KB b)) q s) y)) → 0 < valueM b (pricesM b w 1 false) := by
      intro w t ht hw
      rw [← cast_lt, valQ_zero hb, valQ_scale (y := fun k => σ * rho (vK (KB b)) q s k) (c := fun _ => 0) (t := t) (by grind) (fun j _ => by rw [hw, dot_smul]; grind)]
      exact Rat.mul_pos ht hval
    have hpos : ∀ a : Int, 0 < a → (0 : Rat) < (a : Rat) := fun a ha => by simpa using cast_lt.2 ha
    rcases Int.lt_trichotomy δ 0 with hc | hc | hc
    · have hp := hpos (-δ) (by omega)
      rw [Rat.intCast_neg] at hp
      rcases hσ with e | e
      · right; exact hval2 _ (-(δ : Rat)) hp fun y => by rw [hneg, e]; grind
      · left; exact hval2 _ (-(δ : Rat)) hp fun y => by rw [hm', e]; grind
    · exact absurd hc hδ
    · have hp := hpos δ hc
      rcases hσ with e | e
      · left; exact hval2 _ (δ : Rat) hp fun y => by rw [hm', e]; grind
      · right; exact hval2 _ (δ : Rat) hp fun y => by rw [hneg, e]; grind
  have hasq : q.has (q.at s) := B4.has_iff.2 ⟨s, hs, rfl⟩
  rcases has_cases hl.below hasq with h5 | ⟨r, hr, er⟩
  · -- a cement leaves
    obtain ⟨s0, hs0, e0⟩ := col_of hx ((hl.cols _ h5).2 hasq)
    refine key (rayS b x s0) (List.mem_append_left _ (List.mem_map.2 ⟨s0, by simpa using hs0, rfl⟩)) (detB b x) hd0 fun y => ?_
    rw [← dot_smul]
    refine agree' hl (fun c hc => ?_) (fun r hr hR => ?_) y
    · have hc5 := memM_lt hc
      rw [wQ_cem _ b hc5 (cols_lt hx hc), rayS_dot hb hx, dot_smul, hat c ((hl.cols c hc5).1 hc)]
      obtain ⟨s1, hs1, e1⟩ := col_of hx hc
      rw [← e1, crm_col hb hx hs0 hs1, ← e0]
      by_cases e : s1 = s0
      · rw [if_pos e, if_pos (by rw [e])]; grind
      · rw [if_neg e]
        by_cases e' : x.col s1 = x.col s0
        · exfalso
          apply e
          have hk : x.C.length = x.k := hx.2.2.1
          unfold Bs.col at e'
          rw [getD_in (by omega), getD_in (by omega)] at e'
          exact memM_inj (by show s1 < x.C.length; omega) (by show s0 < x.C.length; omega) e'
        · rw [if_neg e']; simp
    · have hh : q.has (5 + r) := Classical.not_not.1 fun hn => hR ((hl.rows r hr).2 hn)
      rw [wQ_row _ b hr, dot_smul, hat _ hh, if_neg (by omega), show rayS b x s0 r = 0 from onRows_out hR]
      simp
  · -- the slack of a row leaves
    have hR : r ∉ x.R := fun hR => ((hl.rows r hr).1 hR) (er ▸ hasq)
    by_cases hrm : r ≤ b.lo.length
    · refine key (rayR b x r) (List.mem_append_right _ (List.mem_map.2 ⟨r, List.mem_filter.2 ⟨by simp; omega, ?_⟩, rfl⟩)) (-detB b x) (by omega) fun y => ?_
      · cases hbr : bit x.rs r with
        | false => rfl
        | true => exact absurd ((mem_R (by omega)).2 hbr) hR
      · rw [← dot_smul]
        refine agree' hl (fun c hc => ?_) (fun r' hr' hR' => ?_) y
        · have hc5 := memM_lt hc
          rw [wQ_cem _ b hc5 (cols_lt hx hc), rayR_col hb hx hr hc, dot_smul, hat c ((hl.cols c hc5).1 hc), if_neg (by omega)]
          simp
        · have hh : q.has (5 + r') := Classical.not_not.1 fun hn => hR' ((hl.rows r' hr').2 hn)
          rw [wQ_row _ b hr', dot_smul, hat _ hh, er]
          have e1 : rayR b x r r' = if r' = r then detB b x else 0 := by
            unfold rayR
            rw [onRows_out hR']; omega
          rw [e1]
          by_cases e : r' = r
          · rw [if_pos e, if_pos (by omega), Rat.intCast_neg]; grind
          · rw [if_neg e, if_neg (by omega)]; simp
    · exfalso
      have he : ∀ y, dot (rho (vK (KB b)) q s) y = dot (fun k => if k = r then -1 else 0) y := by
        intro y
        refine agree' hl (fun c hc => ?_) (fun r' hr' hR' => ?_) y
        · have hc5 := memM_lt hc
          rw [hat c ((hl.cols c hc5).1 hc), if_neg (by omega)]
          unfold dot
          rw [vK_lt hc5, vK_lt hc5, vK_lt hc5, vK_lt hc5]
          have z : KB b r c = 0 := KB_row hb r c (by omega)
          rcases (show r = 0 ∨ r = 1 ∨ r = 2 ∨ r = 3 by omega) with e | e | e | e <;> rw [e] at z ⊢ <;> simp [z] <;> grind
        · have hh : q.has (5 + r') := Classical.not_not.1 fun hn => hR' ((hl.rows r' hr').2 hn)
          rw [hat _ hh, er]
          unfold dot
          rw [vK_row, vK_row, vK_row, vK_row]
          match r, hr, r', hr' with
          | 0, _, 0, _ | 0, _, 1, _ | 0, _, 2, _ | 0, _, 3, _ | 1, _, 0, _ | 1, _, 1, _ | 1, _, 2, _ | 1, _, 3, _ | 2, _, 0, _ | 2, _, 1, _ | 2, _, 2, _ | 2, _, 3, _ | 3, _, 0, _ | 3, _, 1, _ | 3, _, 2, _ | 3, _, 3, _ => simp; try grind
      have e0 : S 9 (fun j => ph (loR b j) (hiR b j) (σ * dot (rho (vK (KB b)) q s) (vK (KB b) j))) = 0 := by
        rw [S_congr (g := fun _ => 0) fun j hj => ?_, S_zero]
        rw [he]
        have hz : j ≠ 5 + r → vK (KB b) j r = 0 := fun hne => row_zero (KB_row hb) (show b.lo.length < r by omega) (by omega)
        have hdot : dot (fun k => if k = r then (-1 : Rat) else 0) (vK (KB b) j) = -vK (KB b) j r := by
          unfold dot
          match r, hr with
          | 0, _ | 1, _ | 2, _ | 3, _ => simp; try grind
        rw [hdot]
        by_cases e : j = 5 + r
        · have el : loR b j = 0 := by unfold loR loB; rw [if_neg (by omega), if_neg (by omega), getD_out (by omega)]; simp
          have eh : hiR b j = 0 := by unfold hiR hiB; rw [if_neg (by omega), if_neg (by omega), getD_out (by have := hb.2.2.2.1; omega)]; simp
          rw [el, eh]
          unfold ph
          split <;> grind
        · rw [hz e]
          have : σ * -(0 : Rat) = 0 := by grind
          rw [this, ph_zero]
      grind
theorem search {b : Blend} (hb : Valid b) : ∃ x, IsBase b x ∧ ((bestM b x (valueM b (dualM b x))).isSome = true ∨ ((proofM b x).isSome = true ∧ ¬ ∃ z, FeasR b z)) := by
  obtain ⟨q, hq, hD, hc⟩ := solved (N := 9) (v := vK (KB b)) (l := loR b) (h := hiR b) (c := cR b) (lo_le hb) ⟨⟨5, 6, 7, 8⟩, by unfold B4.below; decide, by
    unfold DB D
    simp only [show vK (KB b) 5 = fun k => if k = 0 then -1 else 0 from funext fun k => vK_row 0 k, show vK (KB b) 6 = fun k => if k = 1 then -1 else 0 from funext fun k => vK_row 1 k, show vK (KB b) 7 = fun k => if k = 2 then -1 else 0 from funext fun k => vK_row 2 k, show vK (KB b) 8 = fun k => if k = 3 then -1 else 0 from funext fun k => vK_row 3 k]
    simp
    grind⟩
  obtain ⟨x, hl⟩ := linked hb hq hD
  refine ⟨x, hl.base, ?_⟩
  rcases hc with ⟨z, h1, h2, h3, h4⟩ | ⟨s, hs, σ, hσ, h⟩
  · left
    obtain ⟨high, full, g1, g2, g3, g4, hA⟩ := found_best hb hl h1 h2 h3
    refine best_some g1 g2 g3 g4 (good_at hb hl.base hA (feas_of hb h1 h2) ?_)
    rw [dual_val hb hl, comp_val hb h2 h4]
  · right
    exact found_proof hb hl hs hσ h
end Go.AM.E
end

section
/-
What the search finds is right (plain).
-/
namespace Go.AM.E
open LP

theorem inv_small {b : Blend} (hb : Valid b) {x : Bs} (hx : IsBase b x) {s t : Nat} (hs : s < x.k) (ht : t < x.k) : -48000 ≤ inv b x s t ∧ inv b x s t ≤ 48000 := by
  have hk := k_le hb hx
  have h1 : -detBound (x.k - 1) ≤ detF (x.k - 1) (((matB b x).eraseIdx t).map fun l => l.eraseIdx s) ∧ detF (x.k - 1) (((matB b x).eraseIdx t).map fun l => l.eraseIdx s) ≤ detBound (x.k - 1) := by
    refine det_in _ _ (fun l hl => ?_) (fun l hl v hv => ?_)
    · obtain ⟨l0, h0, rfl⟩ := List.mem_map.1 hl
      have hm := List.mem_of_mem_eraseIdx h0
      obtain ⟨r, hr, rfl⟩ := List.mem_map.1 hm
      rw [List.length_eraseIdx, List.length_map, show x.C.length = x.k from hx.2.2.1, if_pos hs]
      omega
    · obtain ⟨l0, h0, rfl⟩ := List.mem_map.1 hl
      have hm := List.mem_of_mem_eraseIdx h0
      obtain ⟨r, hr, rfl⟩ := List.mem_map.1 hm
      have hv := List.mem_of_mem_eraseIdx hv
      obtain ⟨c, hc, rfl⟩ := List.mem_map.1 hv
      have := coef_in hb (r := r) (cols_lt hx hc)
      omega
  have h2 : ∀ k, k ≤ 3 → detBound k ≤ 48000 := by decide
  have h3 := h2 (x.k - 1) (by omega)
  unfold inv cofM sgn
  split <;> omega
theorem sumI_in {n : Nat} {f : Nat → Int} {B : Int} (h : ∀ i, i < n → -B ≤ f i ∧ f i ≤ B) : -((n : Int) * B) ≤ sumI n f ∧ sumI n f ≤ (n : Int) * B := by
  induction n with
  | zero => show -(0 * B) ≤ (0 : Int) ∧ (0 : Int) ≤ 0 * B; omega
  | succ n ih =>
    have h1 := ih fun i hi => h i (by omega)
    have h2 := h n (by omega)
    have e : ((n + 1 : Nat) : Int) * B = (n : Int) * B + B := by rw [Int.natCast_add, Int.add_mul]; simp
    rw [e]
    show _ ≤ sumI n f + f n ∧ sumI n f + f n ≤ _
    omega
theorem onRows_in {x : Bs} {f : Nat → Int} {B : Int} (hB : 0 ≤ B) (h : ∀ t, t < x.k → -B ≤ f t ∧ f t ≤ B) (r : Nat) : -B ≤ onRows x f r ∧ onRows x f r ≤ B := by
  by_cases hr : r ∈ x.R
  · obtain ⟨t, ht, e⟩ := row_of hr
    have : onRows x f r = f t := by
      unfold onRows
      rw [sumI_congr (g := fun t' => if t' = t then f t else 0), sumI_one _ ht]
      intro t' ht'
      by_cases e' : t' = t
      · rw [if_pos e', e', if_pos e]
      · rw [if_neg e', if_neg]
        intro e2
        apply e'
        have e3 : x.row t' = x.row t := by rw [e2, e]
        unfold Bs.row at e3
        rw [getD_in ht', getD_in ht] at e3
        exact memM_inj ht' ht e3
    rw [this]
    exact h t ht
  · rw [onRows_out hr]; omega
theorem sg_mul {d a B : Int} (h : -B ≤ a ∧ a ≤ B) : -B ≤ sgD d * a ∧ sgD d * a ≤ B := by unfold sgD; split <;> omega
theorem mul_both {a c A C : Int} (h1 : 0 ≤ a ∧ a ≤ A) (h2 : -C ≤ c ∧ c ≤ C) : -(A * C) ≤ a * c ∧ a * c ≤ A * C := by
  have e1 := Int.mul_le_mul_of_nonneg_left h2.2 h1.1
  have e2 := Int.mul_le_mul_of_nonneg_left h2.1 h1.1
  have e3 := Int.mul_le_mul_of_nonneg_right h1.2 (show 0 ≤ C by omega)
  rw [Int.mul_neg] at e2
  omega
theorem wD_small {b : Blend} (hb : Valid b) {x : Bs} (hx : IsBase b x) (r : Nat) : -192000000 ≤ wD b x r ∧ wD b x r ≤ 192000000 := by
  have hk := k_le hb hx
  unfold wD
  refine onRows_in (by decide) (fun t ht => ?_) r
  have := sumI_in (n := x.k) (f := fun s => sgD (detB b x) * coAt b (x.col s) * inv b x s t) (B := 48000000) fun s hs => by
    have h1 := mul_both (cem_at hb (col_lt' hx hs)).2.1 (inv_small hb hx hs ht)
    have h2 := sg_mul (d := detB b x) h1
    rw [Int.mul_assoc]
    omega
  omega
theorem gain_small {b : Blend} (hb : Valid b) {x : Bs} (hx : IsBase b x) {c : Nat} (hc : c < b.cs.length) : -768000000 ≤ dotI (wD b x) b c ∧ dotI (wD b x) b c ≤ 768000000 := by
  have hk := k_le hb hx
  rw [wD_dot hb hx]
  have := sumI_in (n := x.k) (f := fun s => sgD (detB b x) * coAt b (x.col s) * crm b x s c) (B := 192000000) fun s hs => by
    have h1 := mul_both (cem_at hb (col_lt' hx hs)).2.1 (crm_small hb hx hs hc)
    have h2 := sg_mul (d := detB b x) h1
    rw [Int.mul_assoc]
    omega
  omega
theorem rays_small {b : Blend} (hb : Valid b) {x : Bs} (hx : IsBase b x) {ray : Nat → Int} (h : ray ∈ raysM b x) : (∀ r, -4032000 ≤ ray r ∧ ray r ≤ 4032000) ∧ ∀ c, c < b.cs.length → -19200000 ≤ dotI ray b c ∧ dotI ray b c ≤ 19200000 := by
  have hk := k_le hb hx
  have hd := detB_small hb hx
  rcases List.mem_append.1 h with h | h
  · obtain ⟨s, hs, rfl⟩ := List.mem_map.1 h
    have hs : s < x.k := by simpa using hs
    constructor
    · intro r
      have := onRows_in (x := x) (f := fun t => inv b x s t) (B := 48000) (by decide) (fun t ht => inv_small hb hx hs ht) r
      unfold rayS
      omega
    · intro c hc
      rw [rayS_dot hb hx]
      have := crm_small hb hx hs hc
      omega
  · obtain ⟨r0, hr0, rfl⟩ := List.mem_map.1 h
    have hr0 : r0 < b.lo.length + 1 := by have := (List.mem_filter.1 hr0).1; simpa using this
    have hm := hb.2.2.1
    constructor
    · intro r
      have := onRows_in (x := x) (f := fun t => -(sumI x.k fun s => coefB b r0 (x.col s) * inv b x s t)) (B := 3840000) (by decide) (fun t ht => by
        have := sumI_in (n := x.k) (f := fun s => coefB b r0 (x.col s) * inv b x s t) (B := 960000) fun s hs => by
          have := mul_both (coef_in hb (r := r0) (col_lt' hx hs)) (inv_small hb hx hs ht)
          omega
        omega) r
      unfold rayR
      split <;> omega
    · intro c hc
      rw [rayR_dot hb hx (by omega)]
      have h1 := mul_both (coef_in hb (r := r0) hc) hd
      have h2 := sumI_in (n := x.k) (f := fun s => coefB b r0 (x.col s) * crm b x s c) (B := 3840000) fun s hs => by
        have := mul_both (coef_in hb (r := r0) (col_lt' hx hs)) (crm_small hb hx hs hc)
        omega
      have e := Int.mul_comm (detB b x) (coefB b r0 c)
      omega
theorem prices_right {b : Blend} {w : Nat → Int} {den : Int} {c : Bool} (hd : 1 ≤ den ∧ den ≤ 1048576) (hw : ∀ r, -1073741824 ≤ w r ∧ w r ≤ 1073741824)
    (hg : ∀ i, i < b.cs.length → dotI w b i - (if c = true then den * coAt b i else 0) ≤ 1073741824) : RightP b (pricesM b w den c) := by
  refine ⟨hd, hw 0, by simp [pricesM], by simp [pricesM], by simp [pricesM], fun n hn => ?_, fun n hn => ?_, fun n hn => ?_⟩
  · obtain ⟨k, hk, rfl⟩ := List.mem_map.1 hn
    have := hw (k + 1)
    omega
  · obtain ⟨k, hk, rfl⟩ := List.mem_map.1 hn
    have := hw (k + 1)
    omega
  · obtain ⟨i, hi, rfl⟩ := List.mem_map.1 hn
    have := hg i (by simpa using hi)
    omega
theorem gain_at {b : Blend} (hb : Valid b) (w : Nat → Int) (den : Int) (c : Bool) {i : Nat} (hi : i < b.cs.length) : gainAt b (pricesM b w den c) i = dotI w b i - max 0 (dotI w b i - if c = true then den * coAt b i else 0) := by
  unfold gainAt
  rw [gain_pr hb w den c hi, show (pricesM b w den c).w.getD i 0 = _ from range_getD hi]
theorem dual_right {b : Blend} (hb : Valid b) {x : Bs} (hx : IsBase b x) : RightP b (dualM b x) := by
  have hd := denB_small hb hx
  refine prices_right (by omega) (fun r => by have := wD_small hb hx r; omega) fun i hi => ?_
  have h1 := gain_small hb hx hi
  have h2 := Int.mul_nonneg (show 0 ≤ denB b x by omega) (cem_at hb hi).2.1.1
  rw [if_pos rfl]
  omega
theorem dual_bound {b : Blend} (hb : Valid b) {x : Bs} (hx : IsBase b x) : boundR b (dualM b x) = makeR (valueM b (dualM b x)) (denB b x) := by
  unfold boundR
  rw [if_pos (errV_yes hb), if_pos (rightP_iff.2 (dual_right hb hx)), if_neg]
  · rfl
  · rw [Bool.not_eq_true, dear_iff]
    intro i hi
    unfold dualM
    rw [gain_at hb _ _ _ hi, if_pos rfl]
    show ¬ denB b x * coAt b i < _
    omega
theorem best_ok {b : Blend} (hb : Valid b) {x : Bs} (hx : IsBase b x) {v : Int} {a : Amts} (h : bestM b x v = some a) : checkE b a = 0 ∧ costM b a.x = v ∧ a.den = denB b x := by
  unfold bestM at h
  obtain ⟨high, _, h⟩ := List.exists_of_findSome?_eq_some h
  split at h
  · obtain ⟨full, _, h⟩ := List.exists_of_findSome?_eq_some h
    split at h
    · rename_i hc
      cases h
      obtain ⟨_, hg⟩ := hc
      unfold goodM at hg
      rw [Bool.and_eq_true, Bool.and_eq_true, decide_eq_true_eq, decide_eq_true_eq] at hg
      obtain ⟨⟨g1, g2⟩, g3⟩ := hg
      refine ⟨?_, g3, rfl⟩
      have hd := denB_small hb hx
      unfold checkE
      rw [if_pos (errV_yes hb), if_pos, g2]
      rw [rightM_iff]
      refine ⟨by show 1 ≤ denB b x ∧ denB b x ≤ 1048576; omega, by simp [amtsM], fun n hn => ?_⟩
      unfold fitM at g1
      have := List.all_eq_true.1 g1 n hn
      simpa using this
    · cases h
  · cases h
theorem proof_ok {b : Blend} (hb : Valid b) {x : Bs} (hx : IsBase b x) {p : Pr} (h : proofM b x = some p) : proofB b p = true := by
  unfold proofM at h
  obtain ⟨ray, hr, h⟩ := List.exists_of_findSome?_eq_some h
  obtain ⟨hs1, hs2⟩ := rays_small hb hx hr
  have hneg : ∀ c, dotI (fun i => -ray i) b c = -dotI ray b c := by intro c; unfold dotI; grind
  have key : ∀ w : Nat → Int, (∀ r, -4032000 ≤ w r ∧ w r ≤ 4032000) → (∀ c, c < b.cs.length → -19200000 ≤ dotI w b c ∧ dotI w b c ≤ 19200000) → tryM b w = some p → proofB b p = true := by
    intro w w1 w2 hw
    unfold tryM at hw
    split at hw
    · rename_i hv
      cases hw
      rw [proofB_iff]
      refine ⟨hb, prices_right (by decide) (fun r => by have := w1 r; omega) (fun i hi => by have := w2 i hi; rw [if_neg (by decide)]; omega), fun i hi => ?_, hv⟩
      rw [gain_at hb _ _ _ hi, if_neg (by decide)]
      omega
    · cases hw
  rcases Option.or_eq_some_iff.1 h with h | ⟨_, h⟩
  · exact key ray hs1 hs2 h
  · exact key _ (fun r => by have := hs1 r; omega) (fun c hc => by rw [hneg]; have := hs2 c hc; omega) h

def basesM (b : Blend) : List Bs :=
  (List.range (2 ^ (b.lo.length + 1))).flatMap fun rs => ((List.range (2 ^ b.cs.length)).filter fun cs => decide ((memM cs).length = (memM rs).length) && decide (detB b ⟨rs, cs⟩ ≠ 0)).map fun cs => ⟨rs, cs⟩
theorem mem_bases {b : Blend} {x : Bs} : x ∈ basesM b ↔ IsBase b x := by
  unfold basesM IsBase
  simp only [List.mem_flatMap, List.mem_map, List.mem_filter, List.mem_range, Bool.and_eq_true, decide_eq_true_eq]
  constructor
  · rintro ⟨rs, h1, cs, ⟨h2, h3, h4⟩, rfl⟩; exact ⟨h1, h2, h3, h4⟩
  · rintro ⟨h1, h2, h3, h4⟩; exact ⟨x.rs, h1, x.cs, ⟨h2, h3, h4⟩, rfl⟩
def firstM (b : Blend) : Option (Amts × Pr) := (basesM b).findSome? fun x => (bestM b x (valueM b (dualM b x))).map fun a => (a, dualM b x)
def firstP (b : Blend) : Option Pr := (basesM b).findSome? (proofM b)
theorem firstM_ok {b : Blend} (hb : Valid b) {a : Amts} {p : Pr} (h : firstM b = some (a, p)) : checkE b a = 0 ∧ boundR b p = makeR (costM b a.x) a.den ∧ ∀ z, FeasR b z → ((costM b a.x : Int) : Rat) ≤ (a.den : Rat) * costQ b z := by
  obtain ⟨x, hx, h⟩ := List.exists_of_findSome?_eq_some h
  have hx := mem_bases.1 hx
  obtain ⟨a', ha, e⟩ := Option.map_eq_some_iff.1 h
  cases e
  obtain ⟨h1, h2, h3⟩ := best_ok hb hx ha
  refine ⟨h1, by rw [dual_bound hb hx, h2, h3], fun z hz => ?_⟩
  have hd := denB_pos hx
  have hd0 : (0 : Rat) < (denB b x : Rat) := by simpa using cast_lt.2 (show (0 : Int) < denB b x by omega)
  rw [h2, h3]
  unfold dualM
  rw [value_cast hb, valQ_scale (y := fun k => (1 / (denB b x : Rat)) * wQ (wD b x) k) (c := cR b) (t := (denB b x : Rat)) (by grind) (fun j _ => by rw [dot_smul, if_pos rfl]; grind)]
  exact Rat.mul_le_mul_of_nonneg_left (weakQ hb hz _) (by grind)
theorem firstP_ok {b : Blend} (hb : Valid b) {p : Pr} (h : firstP b = some p) : proofB b p = true := by
  obtain ⟨x, hx, h⟩ := List.exists_of_findSome?_eq_some h
  exact proof_ok hb (mem_bases.1 hx) h
theorem first_some {b : Blend} (hb : Valid b) : (∃ a p, firstM b = some (a, p)) ∨ (firstM b = none ∧ (∃ p, firstP b = some p) ∧ ¬ ∃ z, FeasR b z) := by
  obtain ⟨x, hx, h⟩ := search hb
  have hm := mem_bases.2 hx
  rcases h with h | ⟨h, hno⟩
  · left
    have : (firstM b).isSome = true := by
      unfold firstM
      rw [List.findSome?_isSome_iff]
      exact ⟨x, hm, by simpa using h⟩
    obtain ⟨⟨a, p⟩, e⟩ := Option.isSome_iff_exists.1 this
    exact ⟨a, p, e⟩
  · cases hf : firstM b with
    | some ap => exact .inl ⟨ap.1, ap.2, rfl⟩
    | none =>
      refine .inr ⟨rfl, ?_, hno⟩
      have : (firstP b).isSome = true := by
        unfold firstP
        rw [List.findSome?_isSome_iff]
        exact ⟨x, hm, h⟩
      exact Option.isSome_iff_exists.1 this
end Go.AM.E
end

