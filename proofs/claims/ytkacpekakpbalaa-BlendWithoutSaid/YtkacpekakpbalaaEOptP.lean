/- A part of the proof: the texts EOptA, EOptB, EOptC, EOptD, one after another. No condition. -/

set_option linter.unusedVariables false
set_option linter.unusedSimpArgs false
set_option maxRecDepth 20000

section
/-
Linear programs in boxes over four rows (plain): sums, determinants, bases.
-/
namespace Go.AM.E.LP

def S : Nat → (Nat → Rat) → Rat
  | 0, _ => 0
  | n + 1, f => S n f + f n
theorem S_congr {n : Nat} {f g : Nat → Rat} (h : ∀ i, i < n → f i = g i) : S n f = S n g := by
  induction n with
  | zero => rfl
  | succ n ih => show S n f + f n = S n g + g n; rw [ih (fun i hi => h i (by omega)), h n (by omega)]
theorem S_add (n : Nat) (f g : Nat → Rat) : S n (fun i => f i + g i) = S n f + S n g := by
  induction n with
  | zero => show (0 : Rat) = 0 + 0; grind
  | succ n ih => show S n _ + _ = S n f + f n + (S n g + g n); rw [ih]; grind
theorem S_mul (n : Nat) (a : Rat) (f : Nat → Rat) : S n (fun i => a * f i) = a * S n f := by
  induction n with
  | zero => show (0 : Rat) = a * 0; grind
  | succ n ih => show S n _ + _ = a * (S n f + f n); rw [ih]; grind
theorem S_neg (n : Nat) (f : Nat → Rat) : S n (fun i => -f i) = -S n f := by
  induction n with
  | zero => show (0 : Rat) = -0; grind
  | succ n ih => show S n _ + _ = -(S n f + f n); rw [ih]; grind
theorem S_zero (n : Nat) : S n (fun _ => 0) = 0 := by
  induction n with
  | zero => rfl
  | succ n ih => show S n _ + 0 = 0; rw [ih]; grind
theorem S_le {n : Nat} {f g : Nat → Rat} (h : ∀ i, i < n → f i ≤ g i) : S n f ≤ S n g := by
  induction n with
  | zero => show (0 : Rat) ≤ 0; grind
  | succ n ih =>
    show S n f + f n ≤ S n g + g n
    have h1 := ih (fun i hi => h i (by omega))
    have h2 := h n (by omega)
    grind
theorem S_one {n j : Nat} (a : Rat) (h : j < n) : S n (fun i => if i = j then a else 0) = a := by
  induction n with
  | zero => omega
  | succ n ih =>
    show S n _ + (if n = j then a else 0) = a
    by_cases hj : n = j
    · have : S n (fun i => if i = j then a else 0) = 0 := by
        rw [S_congr (g := fun _ => 0) (fun i hi => if_neg (by omega)), S_zero]
      rw [this, if_pos hj]; grind
    · rw [ih (by omega), if_neg hj]; grind
abbrev V4 := Nat → Rat
def dot (w x : V4) : Rat := w 0 * x 0 + w 1 * x 1 + w 2 * x 2 + w 3 * x 3
def D (a b c d : V4) : Rat :=
  (a 0 * b 1 - a 1 * b 0) * (c 2 * d 3 - c 3 * d 2) - (a 0 * b 2 - a 2 * b 0) * (c 1 * d 3 - c 3 * d 1) + (a 0 * b 3 - a 3 * b 0) * (c 1 * d 2 - c 2 * d 1) +
  (a 1 * b 2 - a 2 * b 1) * (c 0 * d 3 - c 3 * d 0) - (a 1 * b 3 - a 3 * b 1) * (c 0 * d 2 - c 2 * d 0) + (a 2 * b 3 - a 3 * b 2) * (c 0 * d 1 - c 1 * d 0)
def ex (k : Nat) : V4 := fun i => if i = k then 1 else 0

structure B4 where
  a : Nat
  b : Nat
  c : Nat
  d : Nat
def B4.at (b : B4) : Nat → Nat
  | 0 => b.a
  | 1 => b.b
  | 2 => b.c
  | _ => b.d
def B4.set (b : B4) (s j : Nat) : B4 := match s with
  | 0 => ⟨j, b.b, b.c, b.d⟩
  | 1 => ⟨b.a, j, b.c, b.d⟩
  | 2 => ⟨b.a, b.b, j, b.d⟩
  | _ => ⟨b.a, b.b, b.c, j⟩
theorem B4.set_at (b : B4) {s t : Nat} (j : Nat) (hs : s < 4) (ht : t < 4) : (b.set s j).at t = if t = s then j else b.at t := by
  match s, t with
  | 0, 0 | 0, 1 | 0, 2 | 0, 3 | 1, 0 | 1, 1 | 1, 2 | 1, 3 | 2, 0 | 2, 1 | 2, 2 | 2, 3 | 3, 0 | 3, 1 | 3, 2 | 3, 3 => rfl
  | _ + 4, _ => omega
  | _, _ + 4 => omega

variable (v : Nat → V4) (b : B4)
def DB : Rat := D (v b.a) (v b.b) (v b.c) (v b.d)
def cof (s : Nat) (x : V4) : Rat := match s with
  | 0 => D x (v b.b) (v b.c) (v b.d)
  | 1 => D (v b.a) x (v b.c) (v b.d)
  | 2 => D (v b.a) (v b.b) x (v b.d)
  | _ => D (v b.a) (v b.b) (v b.c) x
theorem DB_set (s j : Nat) : DB v (b.set s j) = cof v b s (v j) := by
  match s with
  | 0 | 1 | 2 | _ + 3 => rfl
theorem cof_at {s t : Nat} (hs : s < 4) (ht : t < 4) : cof v b s (v (b.at t)) = if t = s then DB v b else 0 := by
  match s, t with
  | 0, 0 | 1, 1 | 2, 2 | 3, 3 => rfl
  | 0, 1 | 0, 2 | 0, 3 | 1, 0 | 1, 2 | 1, 3 | 2, 0 | 2, 1 | 2, 3 | 3, 0 | 3, 1 | 3, 2 => simp only [cof, B4.at, D]; grind
  | _ + 4, _ => omega
  | _, _ + 4 => omega
def rho (s : Nat) : V4 := fun k => cof v b s (ex k) / DB v b
theorem cof_lin (s : Nat) (x : V4) : cof v b s x = x 0 * cof v b s (ex 0) + x 1 * cof v b s (ex 1) + x 2 * cof v b s (ex 2) + x 3 * cof v b s (ex 3) := by
  match s with
  | 0 | 1 | 2 | _ + 3 =>
    simp only [cof, D, ex, if_true, if_false, Nat.reduceEqDiff, Nat.succ_ne_self, Nat.zero_ne_one]; grind
theorem rho_dot (s : Nat) (x : V4) : dot (rho v b s) x = cof v b s x / DB v b := by
  rw [cof_lin v b s x]
  show cof v b s (ex 0) / DB v b * x 0 + _ + _ + _ = _
  simp only [rho]
  grind
theorem cramer (x : V4) {k : Nat} (hk : k < 4) : DB v b * x k = cof v b 0 x * v b.a k + cof v b 1 x * v b.b k + cof v b 2 x * v b.c k + cof v b 3 x * v b.d k := by
  match k with
  | 0 | 1 | 2 | 3 => simp only [cof, D, DB]; grind
  | _ + 4 => omega
end Go.AM.E.LP
end

section
/-
Linear programs in boxes: one step.
-/
namespace Go.AM.E.LP

theorem dot_add (w z x : V4) (t : Rat) : dot (fun k => w k + t * z k) x = dot w x + t * dot z x := by
  simp only [dot]; grind
def yB (v : Nat → V4) (c : Nat → Rat) (b : B4) : V4 := fun k => c b.a * rho v b 0 k + c b.b * rho v b 1 k + c b.c * rho v b 2 k + c b.d * rho v b 3 k
theorem yB_dot (v : Nat → V4) (c : Nat → Rat) (b : B4) (x : V4) : dot (yB v c b) x = c b.a * dot (rho v b 0) x + c b.b * dot (rho v b 1) x + c b.c * dot (rho v b 2) x + c b.d * dot (rho v b 3) x := by
  simp only [dot, yB]; grind
theorem rho_at {v : Nat → V4} {b : B4} (hD : DB v b ≠ 0) {s t : Nat} (hs : s < 4) (ht : t < 4) : dot (rho v b s) (v (b.at t)) = if t = s then 1 else 0 := by
  rw [rho_dot, cof_at v b hs ht]
  split <;> grind
theorem yB_at {v : Nat → V4} {c : Nat → Rat} {b : B4} (hD : DB v b ≠ 0) {t : Nat} (ht : t < 4) : dot (yB v c b) (v (b.at t)) = c (b.at t) := by
  rw [yB_dot, rho_at hD (by decide) ht, rho_at hD (by decide) ht, rho_at hD (by decide) ht, rho_at hD (by decide) ht]
  match t with
  | 0 => simp [B4.at]; grind
  | 1 => simp [B4.at]; grind
  | 2 => simp [B4.at]; grind
  | 3 => simp [B4.at]; grind
  | _ + 4 => omega
theorem span {v : Nat → V4} {b : B4} (hD : DB v b ≠ 0) (x : V4) {k : Nat} (hk : k < 4) :
    x k = dot (rho v b 0) x * v b.a k + dot (rho v b 1) x * v b.b k + dot (rho v b 2) x * v b.c k + dot (rho v b 3) x * v b.d k := by
  have h := cramer v b x hk
  simp only [rho_dot]
  grind
theorem yB_uniq {v : Nat → V4} {c : Nat → Rat} {b : B4} (hD : DB v b ≠ 0) {w : V4} (h : ∀ t, t < 4 → dot w (v (b.at t)) = c (b.at t)) (x : V4) : dot w x = dot (yB v c b) x := by
  rw [yB_dot]
  have h0 := h 0 (by decide)
  have h1 := h 1 (by decide)
  have h2 := h 2 (by decide)
  have h3 := h 3 (by decide)
  have s0 := span hD x (k := 0) (by decide)
  have s1 := span hD x (k := 1) (by decide)
  have s2 := span hD x (k := 2) (by decide)
  have s3 := span hD x (k := 3) (by decide)
  generalize dot (rho v b 0) x = r0 at *
  generalize dot (rho v b 1) x = r1 at *
  generalize dot (rho v b 2) x = r2 at *
  generalize dot (rho v b 3) x = r3 at *
  simp only [dot, B4.at] at *
  rw [s0, s1, s2, s3]
  grind

theorem least_of {α : Type} (P : α → Prop) (f : α → Rat) : ∀ L : List α, (∀ x ∈ L, ¬ P x) ∨ ∃ x ∈ L, P x ∧ ∀ y ∈ L, P y → f x ≤ f y
  | [] => .inl (by simp)
  | a :: L => by
    rcases least_of P f L with h | ⟨x, hx, px, hm⟩
    · by_cases pa : P a
      · refine .inr ⟨a, by simp, pa, fun y hy py => ?_⟩
        rcases List.mem_cons.1 hy with e | hy
        · subst e; grind
        · exact absurd py (h y hy)
      · refine .inl fun y hy => ?_
        rcases List.mem_cons.1 hy with e | hy
        · subst e; exact pa
        · exact h y hy
    · by_cases pa : P a ∧ f a ≤ f x
      · refine .inr ⟨a, by simp, pa.1, fun y hy py => ?_⟩
        rcases List.mem_cons.1 hy with e | hy
        · subst e; grind
        · have := hm y hy py
          have := pa.2
          grind
      · refine .inr ⟨x, by simp [hx], px, fun y hy py => ?_⟩
        rcases List.mem_cons.1 hy with e | hy
        · subst e
          have : ¬ f y ≤ f x := fun h => pa ⟨py, h⟩
          grind
        · exact hm y hy py

def ph (l h r : Rat) : Rat := if 0 ≤ r then h * r else l * r
theorem ph_zero (l h : Rat) : ph l h 0 = 0 := by unfold ph; rw [if_pos (by grind)]; grind
theorem ph_pos {l h r t : Rat} (ht : 0 ≤ t) : ph l h (t * r) = t * ph l h r := by
  unfold ph
  by_cases hr : 0 ≤ r
  · rw [if_pos (Rat.mul_nonneg ht hr), if_pos hr]; grind
  · rw [if_neg hr]
    by_cases h0 : t = 0
    · subst h0; rw [if_pos (by grind)]; grind
    · have : ¬ 0 ≤ t * r := by
        have h1 : 0 < t := by grind
        have h2 := Rat.mul_lt_mul_of_pos_left (a := r) (b := 0) (by grind) h1
        grind
      rw [if_neg this]; grind

def B4.has (b : B4) (j : Nat) : Prop := b.a = j ∨ b.b = j ∨ b.c = j ∨ b.d = j
instance (b : B4) (j : Nat) : Decidable (b.has j) := by unfold B4.has; infer_instance
theorem B4.has_iff {b : B4} {j : Nat} : b.has j ↔ ∃ s, s < 4 ∧ b.at s = j := by
  constructor
  · rintro (h | h | h | h)
    · exact ⟨0, by decide, h⟩
    · exact ⟨1, by decide, h⟩
    · exact ⟨2, by decide, h⟩
    · exact ⟨3, by decide, h⟩
  · rintro ⟨s, hs, h⟩
    match s with
    | 0 => exact .inl h
    | 1 => exact .inr (.inl h)
    | 2 => exact .inr (.inr (.inl h))
    | 3 => exact .inr (.inr (.inr h))
    | _ + 4 => omega
def B4.below (b : B4) (n : Nat) : Prop := b.a < n ∧ b.b < n ∧ b.c < n ∧ b.d < n
theorem B4.below_at {b : B4} {n : Nat} (h : b.below n) (s : Nat) : b.at s < n := by
  obtain ⟨h0, h1, h2, h3⟩ := h
  match s with
  | 0 => exact h0
  | 1 => exact h1
  | 2 => exact h2
  | _ + 3 => exact h3
theorem B4.below_set {b : B4} {n s j : Nat} (h : b.below n) (hj : j < n) : (b.set s j).below n := by
  obtain ⟨h0, h1, h2, h3⟩ := h
  match s with
  | 0 => exact ⟨hj, h1, h2, h3⟩
  | 1 => exact ⟨h0, hj, h2, h3⟩
  | 2 => exact ⟨h0, h1, hj, h3⟩
  | _ + 3 => exact ⟨h0, h1, h2, hj⟩

section
variable (N : Nat) (v : Nat → V4) (l h c : Nat → Rat)
def red (b : B4) (j : Nat) : Rat := dot (yB v c b) (v j) - c j
def gB (b : B4) : Rat := S N fun j => ph (l j) (h j) (red v c b j)
def zn (b : B4) (j : Nat) : Rat := if b.has j then 0 else if 0 < red v c b j then h j else l j
def zb (b : B4) (s : Nat) : Rat := -S N fun j => zn v l h c b j * dot (rho v b s) (v j)
end

theorem pivot {N : Nat} {v : Nat → V4} {l h c : Nat → Rat} {b : B4} (hb : b.below N) (hD : DB v b ≠ 0)
    (hnd : ∀ j, j < N → ¬ b.has j → red v c b j ≠ 0)
    (hmin : ∀ b' : B4, b'.below N → DB v b' ≠ 0 → gB N v l h c b ≤ gB N v l h c b') {s : Nat} (hs : s < 4) {σ : Rat}
    (hbad : ph (l (b.at s)) (h (b.at s)) σ < σ * zb N v l h c b s) :
    S N (fun j => ph (l j) (h j) (σ * dot (rho v b s) (v j))) < 0 := by
  have red0 : ∀ t, t < 4 → red v c b (b.at t) = 0 := fun t ht => by unfold red; rw [yB_at hD ht]; grind
  have rs := fun t (ht : t < 4) => rho_at (v := v) hD hs ht
  -- the box at the column that leaves
  have inj : ∀ t, t < 4 → b.at t = b.at s → t = s := by
    intro t ht e
    have h1 := rs t ht
    rw [e, rs s hs, if_pos rfl] at h1
    by_cases e2 : t = s
    · exact e2
    · rw [if_neg e2] at h1; grind
  rcases least_of (fun j => ¬ b.has j ∧ red v c b j * (σ * dot (rho v b s) (v j)) < 0) (fun j => -(red v c b j) / (σ * dot (rho v b s) (v j))) (List.range N) with hno | ⟨q, hq, ⟨hq1, hq2⟩, hq3⟩
  · -- nothing stops it
    have e1 : ∀ j, j < N → ph (l j) (h j) (σ * dot (rho v b s) (v j)) = (if j = b.at s then ph (l (b.at s)) (h (b.at s)) σ else 0) + σ * (zn v l h c b j * dot (rho v b s) (v j)) := by
      intro j hj
      by_cases hh : b.has j
      · obtain ⟨t, ht, e⟩ := B4.has_iff.1 hh
        have hz : zn v l h c b j = 0 := by unfold zn; rw [if_pos hh]
        rw [hz, ← e, rs t ht]
        by_cases e2 : t = s
        · subst e2
          rw [if_pos rfl, if_pos rfl]
          have : σ * 1 = σ := by grind
          rw [this]; grind
        · rw [if_neg e2, if_neg (fun e3 => e2 (inj t ht e3))]
          have : σ * 0 = 0 := by grind
          rw [this, ph_zero]; grind
      · rw [if_neg (fun e => hh (B4.has_iff.2 ⟨s, hs, e.symm⟩))]
        have h1 := hno j (by simpa using hj)
        have h2 := hnd j hj hh
        have h3 : ¬ red v c b j * (σ * dot (rho v b s) (v j)) < 0 := fun h => h1 ⟨hh, h⟩
        generalize dot (rho v b s) (v j) = d at *
        unfold zn ph
        rw [if_neg hh]
        by_cases hr : 0 < red v c b j
        · have h4 : 0 ≤ σ * d := by
            by_cases h5 : 0 ≤ σ * d
            · exact h5
            · have := Rat.mul_lt_mul_of_pos_left (a := σ * d) (b := 0) (by grind) hr
              grind
          rw [if_pos hr, if_pos h4]; grind
        · have h4 : σ * d ≤ 0 := by
            by_cases h5 : σ * d ≤ 0
            · exact h5
            · have := Rat.mul_lt_mul_of_pos_right (a := red v c b j) (b := 0) (by grind) (show 0 < σ * d by grind)
              grind
          rw [if_neg hr]
          by_cases h6 : 0 ≤ σ * d
          · rw [if_pos h6]
            have : σ * d = 0 := by grind
            rw [show σ * (l j * d) = l j * (σ * d) by grind, this]; grind
          · rw [if_neg h6]; grind
    rw [S_congr e1, S_add, S_one _ (B4.below_at hb s), S_mul]
    unfold zb at hbad
    grind
  · -- a column enters
    exfalso
    have hqN : q < N := by simpa using hq
    have hr0 := hnd q hqN hq1
    have hd0 : dot (rho v b s) (v q) ≠ 0 := by
      intro e; rw [e] at hq2; grind
    have hsd : σ * dot (rho v b s) (v q) ≠ 0 := by
      intro e; rw [e] at hq2; grind
    generalize hτ : -(red v c b q) / (σ * dot (rho v b s) (v q)) = τ at *
    have hτe : red v c b q + τ * (σ * dot (rho v b s) (v q)) = 0 := by
      rw [← hτ]; grind
    have hτ0 : 0 < τ := by
      by_cases h1 : 0 < τ
      · exact h1
      · exfalso
        have e : red v c b q = -τ * (σ * dot (rho v b s) (v q)) := by grind
        rw [e] at hq2
        have h2 : 0 ≤ (σ * dot (rho v b s) (v q)) * (σ * dot (rho v b s) (v q)) := by
          generalize σ * dot (rho v b s) (v q) = z
          rcases Rat.le_total (a := 0) (b := z) with hz | hz
          · exact Rat.mul_nonneg hz hz
          · have := Rat.mul_nonneg (a := -z) (b := -z) (by grind) (by grind)
            grind
        have h3 := Rat.mul_nonneg (a := -τ) (by grind) h2
        grind
    have hD' : DB v (b.set s q) ≠ 0 := by
      rw [DB_set]
      have := rho_dot v b s (v q)
      intro e
      rw [e] at this
      grind
    have hb' := B4.below_set (s := s) hb hqN
    have hle := hmin _ hb' hD'
    -- the new row vector
    have hy : ∀ x, dot (yB v c (b.set s q)) x = dot (yB v c b) x + τ * (σ * dot (rho v b s) x) := by
      intro x
      rw [← yB_uniq (w := fun k => yB v c b k + (τ * σ) * rho v b s k) hD' (fun t ht => ?_) x, dot_add]
      · grind
      · rw [dot_add, B4.set_at b q hs ht]
        by_cases e : t = s
        · rw [if_pos e]
          unfold red at hτe
          grind
        · rw [if_neg e, yB_at hD ht, rs t ht, if_neg e]; grind
    have hred : ∀ j, red v c (b.set s q) j = red v c b j + τ * (σ * dot (rho v b s) (v j)) := by
      intro j; unfold red; rw [hy]; grind
    have e1 : ∀ j, j < N → ph (l j) (h j) (red v c (b.set s q) j) = (ph (l j) (h j) (red v c b j) + τ * (if j = b.at s then ph (l (b.at s)) (h (b.at s)) σ else 0)) + (τ * σ) * (zn v l h c b j * dot (rho v b s) (v j)) := by
      intro j hj
      rw [hred]
      by_cases hh : b.has j
      · obtain ⟨t, ht, e⟩ := B4.has_iff.1 hh
        have hz : zn v l h c b j = 0 := by unfold zn; rw [if_pos hh]
        rw [hz, ← e, rs t ht, red0 t ht, ph_zero]
        by_cases e2 : t = s
        · subst e2
          rw [if_pos rfl, if_pos rfl]
          have : (0 : Rat) + τ * (σ * 1) = τ * σ := by grind
          rw [this, ph_pos (by grind)]; grind
        · rw [if_neg e2, if_neg (fun e3 => e2 (inj t ht e3))]
          have : (0 : Rat) + τ * (σ * 0) = 0 := by grind
          rw [this, ph_zero]; grind
      · rw [if_neg (fun e => hh (B4.has_iff.2 ⟨s, hs, e.symm⟩))]
        have h2 := hnd j hj hh
        have h3 := fun hx => hq3 j (by simpa using hj) ⟨hh, hx⟩
        generalize dot (rho v b s) (v j) = d at *
        generalize hr : red v c b j = r at *
        have hdiv : ∀ z : Rat, z ≠ 0 → z * (-r / z) = -r := fun z hz => by grind
        have hp : ∀ z : Rat, 0 ≤ z → 0 ≤ τ * z := fun z hz => Rat.mul_nonneg (by grind) hz
        have ezn : zn v l h c b j = if 0 < red v c b j then h j else l j := by unfold zn; rw [if_neg hh]
        rw [ezn]
        rw [hr]
        have ez : τ * σ * ((if 0 < r then h j else l j) * d) = τ * ((if 0 < r then h j else l j) * (σ * d)) := by grind
        rw [ez]
        generalize σ * d = z at *
        by_cases hr1 : 0 < r
        · have h4 : 0 ≤ r + τ * z := by
            by_cases h5 : 0 ≤ z
            · have := hp z h5; grind
            · have h6 := Rat.mul_lt_mul_of_pos_left (a := z) (b := 0) (by grind) hr1
              have h7 := h3 (by grind)
              have h8 := Rat.mul_nonneg (a := -r / z - τ) (b := -z) (by grind) (by grind)
              have h9 := hdiv z (by grind)
              grind
          unfold ph
          rw [if_pos hr1, if_pos h4, if_pos (by grind)]; grind
        · have h4 : r + τ * z ≤ 0 := by
            by_cases h5 : z ≤ 0
            · have := hp (-z) (by grind); grind
            · have h6 := Rat.mul_lt_mul_of_pos_left (a := -z) (b := 0) (by grind) (show 0 < -r by grind)
              have h7 := h3 (by grind)
              have h8 := Rat.mul_nonneg (a := -r / z - τ) (b := z) (by grind) (by grind)
              have h9 := hdiv z (by grind)
              grind
          unfold ph
          rw [if_neg hr1, if_neg (show ¬ 0 ≤ r by grind)]
          by_cases h6 : 0 ≤ r + τ * z
          · rw [if_pos h6]
            have : r + τ * z = 0 := by grind
            rw [this]; grind
          · rw [if_neg h6]; grind
    have e2 : gB N v l h c (b.set s q) = gB N v l h c b + τ * (ph (l (b.at s)) (h (b.at s)) σ - σ * zb N v l h c b s) := by
      unfold gB
      rw [S_congr e1, S_add, S_add, S_mul, S_one _ (B4.below_at hb s), S_mul]
      unfold zb
      grind
    have e3 := Rat.mul_lt_mul_of_pos_left (a := ph (l (b.at s)) (h (b.at s)) σ - σ * zb N v l h c b s) (b := 0) (by grind) hτ0
    grind
end Go.AM.E.LP
end

section
/-
Linear programs in boxes: a basis that solves one, or proves that it has no solution.
-/
namespace Go.AM.E.LP

def Ev (P : Rat → Prop) : Prop := ∃ m : Rat, ∀ x, m ≤ x → P x
theorem Ev.and {P Q : Rat → Prop} : Ev P → Ev Q → Ev fun x => P x ∧ Q x := by
  rintro ⟨m, hm⟩ ⟨n, hn⟩
  rcases Rat.le_total (a := m) (b := n) with h | h
  · exact ⟨n, fun x hx => ⟨hm x (by grind), hn x hx⟩⟩
  · exact ⟨m, fun x hx => ⟨hm x hx, hn x (by grind)⟩⟩
theorem Ev.imp {P Q : Rat → Prop} (h : Ev P) (hi : ∀ x, 1 ≤ x → P x → Q x) : Ev Q := by
  obtain ⟨m, hm⟩ := h
  rcases Rat.le_total (a := m) (b := 1) with h | h
  · exact ⟨1, fun x hx => hi x hx (hm x (by grind))⟩
  · exact ⟨m, fun x hx => hi x (by grind) (hm x hx)⟩
theorem Ev.all {n : Nat} {P : Nat → Rat → Prop} (h : ∀ i, i < n → Ev (P i)) : Ev fun x => ∀ i, i < n → P i x := by
  induction n with
  | zero => exact ⟨0, fun x _ i hi => by omega⟩
  | succ n ih =>
    refine ((ih fun i hi => h i (by omega)).and (h n (by omega))).imp fun x _ hx i hi => ?_
    by_cases e : i = n
    · subst e; exact hx.2
    · exact hx.1 i (by omega)
theorem Ev.of {P : Rat → Prop} (h : ∀ x, P x) : Ev P := ⟨0, fun x _ => h x⟩

def pw (x : Rat) : Nat → Rat
  | 0 => 1
  | n + 1 => pw x n * x
theorem pw_pos {x : Rat} (hx : 1 ≤ x) : ∀ n, 0 < pw x n
  | 0 => by show (0 : Rat) < 1; grind
  | n + 1 => by
    have := Rat.mul_pos (pw_pos hx n) (show 0 < x by grind)
    exact this
theorem slow (a : Nat → Rat) : ∀ (n : Nat) (δ : Rat), 0 < δ → Ev fun x => -δ * pw x n ≤ S n (fun i => a i * pw x i) ∧ S n (fun i => a i * pw x i) ≤ δ * pw x n
  | 0, δ, hδ => .of fun x => by
    show -δ * 1 ≤ 0 ∧ 0 ≤ δ * 1
    grind
  | n + 1, δ, hδ => by
    refine ((slow a n 1 (by grind)).and ⟨(1 + (if 0 ≤ a n then a n else -a n)) / δ, fun x hx => hx⟩).imp fun x h1 h => ?_
    obtain ⟨⟨h2, h3⟩, h4⟩ := h
    show -δ * (pw x n * x) ≤ S n _ + a n * pw x n ∧ S n _ + a n * pw x n ≤ δ * (pw x n * x)
    have h5 := pw_pos h1 n
    have h6 : 1 + (if 0 ≤ a n then a n else -a n) ≤ δ * x := by
      have h7 := Rat.mul_nonneg (a := x - (1 + (if 0 ≤ a n then a n else -a n)) / δ) (b := δ) (by grind) (by grind)
      have h8 : (1 + (if 0 ≤ a n then a n else -a n)) / δ * δ = 1 + (if 0 ≤ a n then a n else -a n) := by grind
      grind
    generalize S n (fun i => a i * pw x i) = z at *
    generalize pw x n = p at *
    have hA : a n ≤ (if 0 ≤ a n then a n else -a n) ∧ -a n ≤ (if 0 ≤ a n then a n else -a n) := by
      by_cases h0 : 0 ≤ a n
      · rw [if_pos h0]; grind
      · rw [if_neg h0]; grind
    generalize (if 0 ≤ a n then a n else -a n) = A at *
    have g1 := Rat.mul_nonneg (a := δ * x - (1 + A)) (b := p) (by grind) (by grind)
    have g2 := Rat.mul_nonneg (a := A - a n) (b := p) (by grind) (by grind)
    have g3 := Rat.mul_nonneg (a := A + a n) (b := p) (by grind) (by grind)
    constructor <;> grind
theorem top_pos {a : Nat → Rat} {n : Nat} (h : 0 < a n) : Ev fun x => 0 < S (n + 1) (fun i => a i * pw x i) := by
  refine (slow a n (a n / 2) (by grind)).imp fun x h1 hx => ?_
  show 0 < S n _ + a n * pw x n
  have := Rat.mul_pos (a := a n) (b := pw x n) h (pw_pos h1 n)
  grind
theorem top_neg {a : Nat → Rat} {n : Nat} (h : a n < 0) : Ev fun x => S (n + 1) (fun i => a i * pw x i) < 0 := by
  refine (slow a n (-a n / 2) (by grind)).imp fun x h1 hx => ?_
  show S n _ + a n * pw x n < 0
  have := Rat.mul_pos (a := -a n) (b := pw x n) (by grind) (pw_pos h1 n)
  grind
theorem not_zero {a : Nat → Rat} : ∀ {n j : Nat}, j < n → a j ≠ 0 → Ev fun x => S n (fun i => a i * pw x i) ≠ 0
  | n + 1, j, hj, h => by
    by_cases h1 : 0 < a n
    · exact (top_pos h1).imp fun x _ hx => by grind
    · by_cases h2 : a n < 0
      · exact (top_neg h2).imp fun x _ hx => by grind
      · have h3 : a n = 0 := by grind
        have h4 : j ≠ n := fun e => h (e ▸ h3)
        refine (not_zero (n := n) (j := j) (by omega) h).imp fun x _ hx => ?_
        show S n _ + a n * pw x n ≠ 0
        rw [h3]; grind

def cx (N : Nat) (c : Nat → Rat) (x : Rat) (j : Nat) : Rat := c j * pw x N + pw x j
def co (N : Nat) (v : Nat → V4) (c : Nat → Rat) (b : B4) (j i : Nat) : Rat :=
  if i = N then red v c b j else (if i = b.a then dot (rho v b 0) (v j) else 0) + (if i = b.b then dot (rho v b 1) (v j) else 0) + (if i = b.c then dot (rho v b 2) (v j) else 0) + (if i = b.d then dot (rho v b 3) (v j) else 0) + (if i = j then -1 else 0)
theorem S_pick {N k : Nat} (a : Rat) (x : Rat) (h : k < N) : S N (fun i => (if i = k then a else 0) * pw x i) = a * pw x k := by
  rw [← S_one (a * pw x k) h]
  refine S_congr fun i _ => ?_
  by_cases e : i = k
  · rw [if_pos e, if_pos e, e]
  · rw [if_neg e, if_neg e]; grind
theorem red_cx {N : Nat} {v : Nat → V4} {c : Nat → Rat} {b : B4} (hb : b.below N) {j : Nat} (hj : j < N) (x : Rat) : red v (cx N c x) b j = S (N + 1) (fun i => co N v c b j i * pw x i) := by
  show _ = S N _ + co N v c b j N * pw x N
  have e1 : co N v c b j N = red v c b j := by unfold co; rw [if_pos rfl]
  have e2 : S N (fun i => co N v c b j i * pw x i) = dot (rho v b 0) (v j) * pw x b.a + dot (rho v b 1) (v j) * pw x b.b + dot (rho v b 2) (v j) * pw x b.c + dot (rho v b 3) (v j) * pw x b.d + -1 * pw x j := by
    rw [← S_pick _ x hb.1, ← S_pick _ x hb.2.1, ← S_pick _ x hb.2.2.1, ← S_pick _ x hb.2.2.2, ← S_pick _ x hj, ← S_add, ← S_add, ← S_add, ← S_add]
    refine S_congr fun i hi => ?_
    unfold co
    rw [if_neg (by omega)]
    grind
  rw [e1, e2]
  unfold red
  rw [yB_dot, yB_dot]
  unfold cx
  grind
theorem near {N : Nat} (v : Nat → V4) (c : Nat → Rat) {b : B4} (hb : b.below N) {j : Nat} (hj : j < N) (hh : ¬ b.has j) :
    Ev fun x => red v (cx N c x) b j ≠ 0 ∧ (0 < red v c b j → 0 < red v (cx N c x) b j) ∧ (red v c b j < 0 → red v (cx N c x) b j < 0) := by
  have h1 : co N v c b j N = red v c b j := by unfold co; rw [if_pos rfl]
  have h2 : co N v c b j j ≠ 0 := by
    unfold co
    rw [if_neg (by omega), if_neg (fun e => hh (.inl e.symm)), if_neg (fun e => hh (.inr (.inl e.symm))), if_neg (fun e => hh (.inr (.inr (.inl e.symm)))), if_neg (fun e => hh (.inr (.inr (.inr e.symm)))), if_pos rfl]
    grind
  refine ((not_zero (show j < N + 1 by omega) h2).and (Ev.and (P := fun x => 0 < red v c b j → 0 < red v (cx N c x) b j) (Q := fun x => red v c b j < 0 → red v (cx N c x) b j < 0) ?_ ?_)).imp fun x _ h => ⟨by rw [red_cx hb hj]; exact h.1, h.2⟩
  · by_cases h : 0 < red v c b j
    · rw [← h1] at h
      exact (top_pos h).imp fun x _ hx _ => by rw [red_cx hb hj]; exact hx
    · exact .of fun _ h' => absurd h' h
  · by_cases h : red v c b j < 0
    · rw [← h1] at h
      exact (top_neg h).imp fun x _ hx _ => by rw [red_cx hb hj]; exact hx
    · exact .of fun _ h' => absurd h' h
theorem near_all (N : Nat) (v : Nat → V4) (c : Nat → Rat) :
    Ev fun x => ∀ b : B4, b.below N → ∀ j, j < N → ¬ b.has j → red v (cx N c x) b j ≠ 0 ∧ (0 < red v c b j → 0 < red v (cx N c x) b j) ∧ (red v c b j < 0 → red v (cx N c x) b j < 0) := by
  have h := Ev.all (n := N) (P := fun i0 x => ∀ i1, i1 < N → ∀ i2, i2 < N → ∀ i3, i3 < N → ∀ j, j < N → ¬ B4.has ⟨i0, i1, i2, i3⟩ j → red v (cx N c x) ⟨i0, i1, i2, i3⟩ j ≠ 0 ∧ (0 < red v c ⟨i0, i1, i2, i3⟩ j → 0 < red v (cx N c x) ⟨i0, i1, i2, i3⟩ j) ∧ (red v c ⟨i0, i1, i2, i3⟩ j < 0 → red v (cx N c x) ⟨i0, i1, i2, i3⟩ j < 0))
    fun i0 h0 => Ev.all fun i1 h1 => Ev.all fun i2 h2 => Ev.all fun i3 h3 => Ev.all fun j hj => ?_
  · exact h.imp fun x _ hx b hb j hj => hx b.a hb.1 b.b hb.2.1 b.c hb.2.2.1 b.d hb.2.2.2 j hj
  · by_cases hh : B4.has ⟨i0, i1, i2, i3⟩ j
    · exact .of fun x hn => absurd hh hn
    · exact (near v c (b := ⟨i0, i1, i2, i3⟩) ⟨h0, h1, h2, h3⟩ hj hh).imp fun x _ hx _ => hx

def tuples (N : Nat) : List B4 := (List.range N).flatMap fun a => (List.range N).flatMap fun b => (List.range N).flatMap fun c => (List.range N).map fun d => ⟨a, b, c, d⟩
theorem mem_tuples {N : Nat} {b : B4} : b ∈ tuples N ↔ b.below N := by
  unfold tuples B4.below
  simp only [List.mem_flatMap, List.mem_map, List.mem_range]
  constructor
  · rintro ⟨a, ha, b', hb, c, hc, d, hd, rfl⟩; exact ⟨ha, hb, hc, hd⟩
  · rintro ⟨ha, hb, hc, hd⟩; exact ⟨b.a, ha, b.b, hb, b.c, hc, b.d, hd, rfl⟩

def zB (N : Nat) (v : Nat → V4) (l h c : Nat → Rat) (b : B4) (j : Nat) : Rat :=
  zn v l h c b j + ((if j = b.a then zb N v l h c b 0 else 0) + (if j = b.b then zb N v l h c b 1 else 0) + (if j = b.c then zb N v l h c b 2 else 0) + (if j = b.d then zb N v l h c b 3 else 0))
theorem zB_out {N : Nat} {v : Nat → V4} {l h c : Nat → Rat} {b : B4} {j : Nat} (hh : ¬ b.has j) : zB N v l h c b j = if 0 < red v c b j then h j else l j := by
  unfold zB zn
  rw [if_neg hh, if_neg (show ¬ j = b.a from fun e => hh (.inl e.symm)), if_neg (show ¬ j = b.b from fun e => hh (.inr (.inl e.symm))), if_neg (show ¬ j = b.c from fun e => hh (.inr (.inr (.inl e.symm)))), if_neg (show ¬ j = b.d from fun e => hh (.inr (.inr (.inr e.symm))))]
  grind
theorem zB_in {N : Nat} {v : Nat → V4} {l h c : Nat → Rat} {b : B4} (hD : DB v b ≠ 0) {s : Nat} (hs : s < 4) : zB N v l h c b (b.at s) = zb N v l h c b s := by
  have hh : b.has (b.at s) := B4.has_iff.2 ⟨s, hs, rfl⟩
  have inj : ∀ t, t < 4 → t ≠ s → b.at s ≠ b.at t := by
    intro t ht hts e
    have h1 := rho_at (v := v) hD hs hs
    rw [e, rho_at hD hs ht, if_pos rfl, if_neg hts] at h1
    grind
  unfold zB zn
  rw [if_pos hh]
  match s, hs with
  | 0, _ =>
    rw [if_pos (show b.at 0 = b.a from rfl), if_neg (show ¬ b.at 0 = b.b from inj 1 (by decide) (by decide)), if_neg (show ¬ b.at 0 = b.c from inj 2 (by decide) (by decide)), if_neg (show ¬ b.at 0 = b.d from inj 3 (by decide) (by decide))]; grind
  | 1, _ =>
    rw [if_neg (show ¬ b.at 1 = b.a from inj 0 (by decide) (by decide)), if_pos (show b.at 1 = b.b from rfl), if_neg (show ¬ b.at 1 = b.c from inj 2 (by decide) (by decide)), if_neg (show ¬ b.at 1 = b.d from inj 3 (by decide) (by decide))]; grind
  | 2, _ =>
    rw [if_neg (show ¬ b.at 2 = b.a from inj 0 (by decide) (by decide)), if_neg (show ¬ b.at 2 = b.b from inj 1 (by decide) (by decide)), if_pos (show b.at 2 = b.c from rfl), if_neg (show ¬ b.at 2 = b.d from inj 3 (by decide) (by decide))]; grind
  | 3, _ =>
    rw [if_neg (show ¬ b.at 3 = b.a from inj 0 (by decide) (by decide)), if_neg (show ¬ b.at 3 = b.b from inj 1 (by decide) (by decide)), if_neg (show ¬ b.at 3 = b.c from inj 2 (by decide) (by decide)), if_pos (show b.at 3 = b.d from rfl)]; grind
theorem zB_sum {N : Nat} {v : Nat → V4} {l h c : Nat → Rat} {b : B4} (hb : b.below N) (hD : DB v b ≠ 0) {k : Nat} (hk : k < 4) : S N (fun j => zB N v l h c b j * v j k) = 0 := by
  have pick : ∀ (a : Rat) (m : Nat), m < N → S N (fun j => (if j = m then a else 0) * v j k) = a * v m k := by
    intro a m hm
    rw [← S_one (a * v m k) hm]
    refine S_congr fun i _ => ?_
    by_cases e : i = m
    · rw [if_pos e, if_pos e, e]
    · rw [if_neg e, if_neg e]; grind
  have e1 : ∀ j, zn v l h c b j * v j k = (zn v l h c b j * dot (rho v b 0) (v j)) * v b.a k + (zn v l h c b j * dot (rho v b 1) (v j)) * v b.b k + (zn v l h c b j * dot (rho v b 2) (v j)) * v b.c k + (zn v l h c b j * dot (rho v b 3) (v j)) * v b.d k := by
    intro j
    have := span hD (v j) hk
    grind
  have smul : ∀ (f : Nat → Rat) (a : Rat), S N (fun i => f i * a) = S N f * a := by
    intro f a
    rw [S_congr (g := fun i => a * f i) (fun i _ => by grind), S_mul]; grind
  have e2 : S N (fun j => zn v l h c b j * v j k) = -(zb N v l h c b 0 * v b.a k + zb N v l h c b 1 * v b.b k + zb N v l h c b 2 * v b.c k + zb N v l h c b 3 * v b.d k) := by
    rw [S_congr (fun j _ => e1 j), S_add, S_add, S_add, smul, smul, smul, smul]
    unfold zb
    grind
  have e3 : ∀ j, zB N v l h c b j * v j k = zn v l h c b j * v j k + ((if j = b.a then zb N v l h c b 0 else 0) * v j k + (if j = b.b then zb N v l h c b 1 else 0) * v j k + (if j = b.c then zb N v l h c b 2 else 0) * v j k + (if j = b.d then zb N v l h c b 3 else 0) * v j k) := by
    intro j; unfold zB; grind
  rw [S_congr (fun j _ => e3 j), S_add, S_add, S_add, S_add, pick _ _ hb.1, pick _ _ hb.2.1, pick _ _ hb.2.2.1, pick _ _ hb.2.2.2, e2]
  grind

theorem solved {N : Nat} {v : Nat → V4} {l h c : Nat → Rat} (hlh : ∀ j, j < N → l j ≤ h j) (hex : ∃ b : B4, b.below N ∧ DB v b ≠ 0) :
    ∃ b : B4, b.below N ∧ DB v b ≠ 0 ∧
      ((∃ z : Nat → Rat, (∀ j, j < N → l j ≤ z j ∧ z j ≤ h j) ∧ (∀ k, k < 4 → S N (fun j => z j * v j k) = 0) ∧ (∀ j, j < N → ¬ b.has j → z j = l j ∨ z j = h j) ∧
        (∀ j, j < N → (0 < red v c b j → z j = h j) ∧ (red v c b j < 0 → z j = l j))) ∨
      ∃ s, s < 4 ∧ ∃ σ : Rat, (σ = 1 ∨ σ = -1) ∧ S N (fun j => ph (l j) (h j) (σ * dot (rho v b s) (v j))) < 0) := by
  obtain ⟨x, hx⟩ := near_all N v c
  have hx := hx x (by grind)
  rcases least_of (fun b : B4 => DB v b ≠ 0) (fun b => gB N v l h (cx N c x) b) (tuples N) with hno | ⟨b, hb, hD, hmin⟩
  · obtain ⟨b, hb, hD⟩ := hex
    exact absurd hD (hno b (mem_tuples.2 hb))
  have hb := mem_tuples.1 hb
  have hmin : ∀ b' : B4, b'.below N → DB v b' ≠ 0 → gB N v l h (cx N c x) b ≤ gB N v l h (cx N c x) b' := fun b' h1 h2 => hmin b' (mem_tuples.2 h1) h2
  have hnd := fun j hj hh => (hx b hb j hj hh).1
  refine ⟨b, hb, hD, ?_⟩
  by_cases hA : ∀ s, s < 4 → l (b.at s) ≤ zb N v l h (cx N c x) b s ∧ zb N v l h (cx N c x) b s ≤ h (b.at s)
  · left
    refine ⟨zB N v l h (cx N c x) b, fun j hj => ?_, fun k hk => zB_sum hb hD hk, fun j hj hh => ?_, fun j hj => ?_⟩
    · by_cases hh : b.has j
      · obtain ⟨s, hs, e⟩ := B4.has_iff.1 hh
        subst e
        rw [zB_in hD hs]
        exact hA s hs
      · rw [zB_out hh]
        have := hlh j hj
        split <;> grind
    · rw [zB_out hh]
      split
      · exact .inr rfl
      · exact .inl rfl
    · by_cases hh : b.has j
      · obtain ⟨s, hs, e⟩ := B4.has_iff.1 hh
        subst e
        have : red v c b (b.at s) = 0 := by unfold red; rw [yB_at hD hs]; grind
        rw [this]
        constructor <;> intro h <;> grind
      · rw [zB_out hh]
        obtain ⟨_, h1, h2⟩ := hx b hb j hj hh
        constructor
        · intro h; rw [if_pos (h1 h)]
        · intro h; rw [if_neg (by have := h2 h; grind)]
  · right
    have : ∃ s, s < 4 ∧ ¬ (l (b.at s) ≤ zb N v l h (cx N c x) b s ∧ zb N v l h (cx N c x) b s ≤ h (b.at s)) := by
      apply Classical.byContradiction
      intro hc
      exact hA fun s hs => Classical.byContradiction fun hn => hc ⟨s, hs, hn⟩
    obtain ⟨s, hs, hbad⟩ := this
    by_cases h1 : l (b.at s) ≤ zb N v l h (cx N c x) b s
    · refine ⟨s, hs, 1, .inl rfl, pivot hb hD hnd hmin hs ?_⟩
      unfold ph
      rw [if_pos (by grind)]
      have : ¬ zb N v l h (cx N c x) b s ≤ h (b.at s) := fun h2 => hbad ⟨h1, h2⟩
      grind
    · refine ⟨s, hs, -1, .inr rfl, pivot hb hD hnd hmin hs ?_⟩
      unfold ph
      rw [if_neg (by grind)]
      grind
end Go.AM.E.LP
end

section
/-
Determinants of small matrices of integers (plain).
-/
namespace Go.AM.E
open LP

def sgn (i : Nat) : Int := if i % 2 = 0 then 1 else -1
def lapTo (f : Nat → Int) (r : List Int) : Nat → Int
  | 0 => 0
  | i + 1 => lapTo f r i + sgn i * r.getD i 0 * f i
def detF : Nat → List (List Int) → Int
  | 0, _ => 1
  | _ + 1, [] => 1
  | n + 1, r :: rest => lapTo (fun k => detF n (rest.map fun l => l.eraseIdx k)) r r.length
def cofM (n : Nat) (M : List (List Int)) (s t : Nat) : Int := sgn (s + t) * detF (n - 1) ((M.eraseIdx t).map fun l => l.eraseIdx s)
def sumI : Nat → (Nat → Int) → Int
  | 0, _ => 0
  | n + 1, f => sumI n f + f n
theorem sumI_congr {n : Nat} {f g : Nat → Int} (h : ∀ i, i < n → f i = g i) : sumI n f = sumI n g := by
  induction n with
  | zero => rfl
  | succ n ih => show sumI n f + f n = sumI n g + g n; rw [ih (fun i hi => h i (by omega)), h n (by omega)]
theorem sumI_add (n : Nat) (f g : Nat → Int) : sumI n (fun i => f i + g i) = sumI n f + sumI n g := by
  induction n with
  | zero => rfl
  | succ n ih => show sumI n _ + (f n + g n) = sumI n f + f n + (sumI n g + g n); rw [ih]; omega
theorem sumI_mul (n : Nat) (a : Int) (f : Nat → Int) : sumI n (fun i => a * f i) = a * sumI n f := by
  induction n with
  | zero => show (0 : Int) = a * 0; omega
  | succ n ih => show sumI n _ + _ = a * (sumI n f + f n); rw [ih, Int.mul_add]
theorem sumI_zero (n : Nat) : sumI n (fun _ => 0) = 0 := by
  induction n with
  | zero => rfl
  | succ n ih => show sumI n _ + 0 = 0; rw [ih]; rfl
theorem sumI_one {n j : Nat} (a : Int) (h : j < n) : sumI n (fun i => if i = j then a else 0) = a := by
  induction n with
  | zero => omega
  | succ n ih =>
    show sumI n _ + (if n = j then a else 0) = a
    by_cases hj : n = j
    · have : sumI n (fun i => if i = j then a else 0) = 0 := by
        rw [sumI_congr (g := fun _ => 0) (fun i hi => if_neg (by omega)), sumI_zero]
      rw [this, if_pos hj]; omega
    · rw [ih (by omega), if_neg hj]; omega
theorem sumI_swap (n m : Nat) (f : Nat → Nat → Int) : sumI n (fun i => sumI m (f i)) = sumI m (fun j => sumI n fun i => f i j) := by
  induction n with
  | zero => show 0 = sumI m (fun _ => 0); rw [sumI_zero]
  | succ n ih => show sumI n _ + sumI m (f n) = sumI m (fun j => sumI n (fun i => f i j) + f n j); rw [ih, sumI_add]

def matA (k : Nat) (A : Nat → Nat → Int) : List (List Int) := (List.range k).map fun t => (List.range k).map fun s => A t s
theorem range1 : List.range 1 = [0] := rfl
theorem range2 : List.range 2 = [0, 1] := rfl
theorem range3 : List.range 3 = [0, 1, 2] := rfl
theorem range4 : List.range 4 = [0, 1, 2, 3] := rfl
def colA (A : Nat → Nat → Int) (s : Nat) (x : Nat → Int) (t j : Nat) : Int := if j = s then x t else A t j

theorem cof_col {k : Nat} (hk : k ≤ 4) {s : Nat} (hs : s < k) (A : Nat → Nat → Int) (x : Nat → Int) :
    sumI k (fun t => cofM k (matA k A) s t * x t) = detF k (matA k (colA A s x)) := by
  match k, s with
  | 0, _ => omega
  | 1, 0 => simp [sumI, cofM, matA, colA, range1, detF, lapTo, sgn]
  | 2, 0 | 2, 1 | 3, 0 | 3, 1 | 3, 2 | 4, 0 | 4, 1 | 4, 2 | 4, 3 =>
    simp [sumI, cofM, matA, colA, range2, range3, range4, detF, lapTo, sgn]
    grind
  | _ + 5, _ => omega
  | 1, _ + 1 => omega
  | 2, _ + 2 => omega
  | 3, _ + 3 => omega
  | 4, _ + 4 => omega
theorem colA_self (A : Nat → Nat → Int) (s : Nat) : colA A s (fun t => A t s) = A := by
  funext t j
  unfold colA
  by_cases h : j = s
  · rw [if_pos h, h]
  · rw [if_neg h]
theorem det_same {k : Nat} (hk : k ≤ 4) {s s' : Nat} (hs : s < k) (hs' : s' < k) (hne : s ≠ s') (A : Nat → Nat → Int) : detF k (matA k (colA A s fun t => A t s')) = 0 := by
  match k, s, s' with
  | 0, _, _ => omega
  | 1, 0, 0 => omega
  | 2, 0, 1 | 2, 1, 0 | 3, 0, 1 | 3, 0, 2 | 3, 1, 0 | 3, 1, 2 | 3, 2, 0 | 3, 2, 1 | 4, 0, 1 | 4, 0, 2 | 4, 0, 3 | 4, 1, 0 | 4, 1, 2 | 4, 1, 3 | 4, 2, 0 | 4, 2, 1 | 4, 2, 3 | 4, 3, 0 | 4, 3, 1 | 4, 3, 2 =>
    simp [matA, colA, range2, range3, range4, detF, lapTo, sgn]
    grind
  | 2, 0, 0 | 2, 1, 1 | 3, 0, 0 | 3, 1, 1 | 3, 2, 2 | 4, 0, 0 | 4, 1, 1 | 4, 2, 2 | 4, 3, 3 => omega
  | _ + 5, _, _ => omega
  | 1, _ + 1, _ => omega
  | 2, _ + 2, _ => omega
  | 3, _ + 3, _ => omega
  | 4, _ + 4, _ => omega
  | 1, _, _ + 1 => omega
  | 2, _, _ + 2 => omega
  | 3, _, _ + 3 => omega
  | 4, _, _ + 4 => omega
theorem cof_at' {k : Nat} (hk : k ≤ 4) {s s' : Nat} (hs : s < k) (hs' : s' < k) (A : Nat → Nat → Int) :
    sumI k (fun t => cofM k (matA k A) s t * A t s') = if s' = s then detF k (matA k A) else 0 := by
  rw [cof_col hk hs A (fun t => A t s')]
  by_cases h : s' = s
  · subst h; rw [if_pos rfl, colA_self]
  · rw [if_neg h, det_same hk hs hs' (fun e => h e.symm)]

theorem lap_in {f : Nat → Int} {r : List Int} {a B : Int} (hr : ∀ x ∈ r, -a ≤ x ∧ x ≤ a) (ha : 0 ≤ a) (hB : ∀ i, i < r.length → -B ≤ f i ∧ f i ≤ B) : ∀ n : Nat, n ≤ r.length → -((n : Int) * (a * B)) ≤ lapTo f r n ∧ lapTo f r n ≤ (n : Int) * (a * B)
  | 0, _ => by simp [lapTo]
  | n + 1, h => by
    have ih := lap_in hr ha hB n (by omega)
    have g1 : r.getD n 0 = r[n] := by rw [List.getD_eq_getElem?_getD, List.getElem?_eq_getElem (by omega)]; rfl
    have h1 := hr r[n] (List.getElem_mem _)
    have h2 := hB n (by omega)
    have h3 : -(a * B) ≤ r[n] * f n ∧ r[n] * f n ≤ a * B := by
      have e1 := Int.mul_nonneg (a := a - r[n]) (b := B - f n) (by omega) (by omega)
      have e2 := Int.mul_nonneg (a := a - r[n]) (b := B + f n) (by omega) (by omega)
      have e3 := Int.mul_nonneg (a := a + r[n]) (b := B - f n) (by omega) (by omega)
      have e4 := Int.mul_nonneg (a := a + r[n]) (b := B + f n) (by omega) (by omega)
      constructor <;> grind
    have e : ((n + 1 : Nat) : Int) * (a * B) = (n : Int) * (a * B) + a * B := by
      rw [Int.natCast_add, Int.add_mul]; simp
    rw [e]
    show _ ≤ lapTo f r n + sgn n * r.getD n 0 * f n ∧ lapTo f r n + sgn n * r.getD n 0 * f n ≤ _
    rw [g1]
    unfold sgn
    split
    · rw [Int.one_mul]; omega
    · rw [show (-1 : Int) * r[n] * f n = -(r[n] * f n) by grind]; omega
def detBound : Nat → Int
  | 0 => 1
  | n + 1 => (n + 1 : Nat) * (20 * detBound n)
theorem detBound_pos : ∀ n, 1 ≤ detBound n
  | 0 => by decide
  | n + 1 => by
    have := detBound_pos n
    show 1 ≤ ((n + 1 : Nat) : Int) * (20 * detBound n)
    have h := Int.mul_le_mul_of_nonneg_right (a := 1) (b := ((n + 1 : Nat) : Int)) (c := 20 * detBound n) (by omega) (by omega)
    omega
theorem det_in : ∀ (n : Nat) (M : List (List Int)), (∀ l ∈ M, l.length ≤ n) → (∀ l ∈ M, ∀ x ∈ l, -20 ≤ x ∧ x ≤ 20) → -detBound n ≤ detF n M ∧ detF n M ≤ detBound n
  | 0, _, _, _ => by show -1 ≤ (1 : Int) ∧ (1 : Int) ≤ 1; omega
  | n + 1, [], _, _ => by
    have := detBound_pos (n + 1)
    show -detBound (n + 1) ≤ (1 : Int) ∧ (1 : Int) ≤ detBound (n + 1)
    omega
  | n + 1, r :: rest, hl, hx => by
    have hlen := hl r (by simp)
    have h1 : ∀ k, k < r.length → -detBound n ≤ detF n (rest.map fun l => l.eraseIdx k) ∧ detF n (rest.map fun l => l.eraseIdx k) ≤ detBound n := by
      intro k hk
      refine det_in n _ (fun l hl' => ?_) (fun l hl' x hx' => ?_)
      · obtain ⟨l0, h0, rfl⟩ := List.mem_map.1 hl'
        have := hl l0 (List.mem_cons_of_mem _ h0)
        rw [List.length_eraseIdx]
        split <;> omega
      · obtain ⟨l0, h0, rfl⟩ := List.mem_map.1 hl'
        exact hx l0 (List.mem_cons_of_mem _ h0) x (List.mem_of_mem_eraseIdx hx')
    have h2 := lap_in (f := fun k => detF n (rest.map fun l => l.eraseIdx k)) (r := r) (a := 20) (B := detBound n) (hx r (by simp)) (by decide) h1 r.length (Nat.le_refl _)
    show -(((n + 1 : Nat) : Int) * (20 * detBound n)) ≤ lapTo _ r r.length ∧ lapTo _ r r.length ≤ ((n + 1 : Nat) : Int) * (20 * detBound n)
    have h3 := Int.mul_le_mul_of_nonneg_right (a := (r.length : Int)) (b := ((n + 1 : Nat) : Int)) (c := 20 * detBound n) (by omega) (by have := detBound_pos n; omega)
    omega
end Go.AM.E
end

