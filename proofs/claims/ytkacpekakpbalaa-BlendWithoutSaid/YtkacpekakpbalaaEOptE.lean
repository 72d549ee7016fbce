/-
From bases of columns to choices of rows and columns (plain).
-/
import Derived.Test.YtkacpekakpbalaaEOptP
set_option linter.unusedVariables false
set_option linter.unusedSimpArgs false
set_option maxRecDepth 20000

namespace Go.AM.E
open LP

def vK (K : Nat → Nat → Int) (j : Nat) : V4 := fun k => if j < 5 then ((K k j : Int) : Rat) else if k + 5 = j then -1 else 0
def matRC (K : Nat → Nat → Int) (R C : List Nat) : List (List Int) := R.map fun r => C.map fun c => K r c
def memM (s : Nat) : List Nat := (List.range 5).filter fun i => s / 2 ^ i % 2 == 1

theorem D_swap1 (a b c d : V4) : D b a c d = -D a b c d := by simp only [D]; grind
theorem D_swap2 (a b c d : V4) : D a c b d = -D a b c d := by simp only [D]; grind
theorem D_swap3 (a b c d : V4) : D a b d c = -D a b c d := by simp only [D]; grind
theorem D_zero {a b c d : V4} {k : Nat} (hk : k < 4) (h0 : a k = 0) (h1 : b k = 0) (h2 : c k = 0) (h3 : d k = 0) : D a b c d = 0 := by
  match k with
  | 0 | 1 | 2 | 3 => simp only [D]; grind
  | _ + 4 => omega
theorem D_col {a b c d : V4} (h : (∀ k, a k = 0) ∨ (∀ k, b k = 0) ∨ (∀ k, c k = 0) ∨ (∀ k, d k = 0)) : D a b c d = 0 := by
  rcases h with h | h | h | h <;> simp only [D, h] <;> grind
def Srt (b : B4) : Prop := b.a < b.b ∧ b.b < b.c ∧ b.c < b.d
theorem same1 (v : Nat → V4) (p q r : Nat) : DB v ⟨p, p, q, r⟩ = 0 := by simp only [DB, D]; grind
theorem same2 (v : Nat → V4) (p q r : Nat) : DB v ⟨p, q, q, r⟩ = 0 := by simp only [DB, D]; grind
theorem same3 (v : Nat → V4) (p q r : Nat) : DB v ⟨p, q, r, r⟩ = 0 := by simp only [DB, D]; grind
theorem sw1 {v : Nat → V4} {p q r s : Nat} (h : DB v ⟨p, q, r, s⟩ ≠ 0) : DB v ⟨q, p, r, s⟩ ≠ 0 := by
  intro e; apply h; have : DB v ⟨q, p, r, s⟩ = -DB v ⟨p, q, r, s⟩ := D_swap1 _ _ _ _; grind
theorem sw2 {v : Nat → V4} {p q r s : Nat} (h : DB v ⟨p, q, r, s⟩ ≠ 0) : DB v ⟨p, r, q, s⟩ ≠ 0 := by
  intro e; apply h; have : DB v ⟨p, r, q, s⟩ = -DB v ⟨p, q, r, s⟩ := D_swap2 _ _ _ _; grind
theorem sw3 {v : Nat → V4} {p q r s : Nat} (h : DB v ⟨p, q, r, s⟩ ≠ 0) : DB v ⟨p, q, s, r⟩ ≠ 0 := by
  intro e; apply h; have : DB v ⟨p, q, s, r⟩ = -DB v ⟨p, q, r, s⟩ := D_swap3 _ _ _ _; grind
def Like (b c : B4) : Prop := ∀ j, c.has j ↔ b.has j
theorem Like.trans {b c d : B4} (h : Like b c) (h' : Like c d) : Like b d := fun j => (h' j).trans (h j)
theorem like1 (p q r s : Nat) : Like ⟨p, q, r, s⟩ ⟨q, p, r, s⟩ := fun j => by simp only [B4.has]; grind
theorem like2 (p q r s : Nat) : Like ⟨p, q, r, s⟩ ⟨p, r, q, s⟩ := fun j => by simp only [B4.has]; grind
theorem like3 (p q r s : Nat) : Like ⟨p, q, r, s⟩ ⟨p, q, s, r⟩ := fun j => by simp only [B4.has]; grind
theorem cmp1 {v : Nat → V4} {b0 : B4} {p q r s : Nat} (h : DB v ⟨p, q, r, s⟩ ≠ 0) (hl : Like b0 ⟨p, q, r, s⟩) : ∃ p' q', p' < q' ∧ ((p' = p ∧ q' = q) ∨ (p' = q ∧ q' = p)) ∧ DB v ⟨p', q', r, s⟩ ≠ 0 ∧ Like b0 ⟨p', q', r, s⟩ := by
  rcases Nat.lt_trichotomy p q with hc | hc | hc
  · exact ⟨p, q, hc, .inl ⟨rfl, rfl⟩, h, hl⟩
  · subst hc; exact absurd (same1 v p r s) h
  · exact ⟨q, p, hc, .inr ⟨rfl, rfl⟩, sw1 h, hl.trans (like1 _ _ _ _)⟩
theorem cmp2 {v : Nat → V4} {b0 : B4} {p q r s : Nat} (h : DB v ⟨p, q, r, s⟩ ≠ 0) (hl : Like b0 ⟨p, q, r, s⟩) : ∃ q' r', q' < r' ∧ ((q' = q ∧ r' = r) ∨ (q' = r ∧ r' = q)) ∧ DB v ⟨p, q', r', s⟩ ≠ 0 ∧ Like b0 ⟨p, q', r', s⟩ := by
  rcases Nat.lt_trichotomy q r with hc | hc | hc
  · exact ⟨q, r, hc, .inl ⟨rfl, rfl⟩, h, hl⟩
  · subst hc; exact absurd (same2 v p q s) h
  · exact ⟨r, q, hc, .inr ⟨rfl, rfl⟩, sw2 h, hl.trans (like2 _ _ _ _)⟩
theorem cmp3 {v : Nat → V4} {b0 : B4} {p q r s : Nat} (h : DB v ⟨p, q, r, s⟩ ≠ 0) (hl : Like b0 ⟨p, q, r, s⟩) : ∃ r' s', r' < s' ∧ ((r' = r ∧ s' = s) ∨ (r' = s ∧ s' = r)) ∧ DB v ⟨p, q, r', s'⟩ ≠ 0 ∧ Like b0 ⟨p, q, r', s'⟩ := by
  rcases Nat.lt_trichotomy r s with hc | hc | hc
  · exact ⟨r, s, hc, .inl ⟨rfl, rfl⟩, h, hl⟩
  · subst hc; exact absurd (same3 v p q r) h
  · exact ⟨s, r, hc, .inr ⟨rfl, rfl⟩, sw3 h, hl.trans (like3 _ _ _ _)⟩
theorem sorted {v : Nat → V4} {b : B4} (h : DB v b ≠ 0) : ∃ c : B4, Srt c ∧ DB v c ≠ 0 ∧ Like b c := by
  obtain ⟨p, q, r, s⟩ := b
  obtain ⟨b0, hb0, hl⟩ : ∃ b0 : B4, b0 = ⟨p, q, r, s⟩ ∧ Like b0 ⟨p, q, r, s⟩ := ⟨_, rfl, fun _ => Iff.rfl⟩
  rw [← hb0]
  obtain ⟨p1, q1, o1, _, h, hl⟩ := cmp1 h hl
  obtain ⟨q2, r2, o2, a2, h, hl⟩ := cmp2 h hl
  obtain ⟨r3, s3, o3, a3, h, hl⟩ := cmp3 h hl
  obtain ⟨p4, q4, o4, a4, h, hl⟩ := cmp1 h hl
  obtain ⟨q5, r5, o5, a5, h, hl⟩ := cmp2 h hl
  obtain ⟨p6, q6, o6, a6, h, hl⟩ := cmp1 h hl
  refine ⟨⟨p6, q6, r5, s3⟩, ⟨o6, ?_, ?_⟩, h, hl⟩ <;> dsimp only <;> omega

theorem memM0 : memM 0 = [] := by decide
theorem memM1 : ∀ a, a < 5 → memM (2 ^ a) = [a] := by decide
theorem memM2 : ∀ b, b < 5 → ∀ a, a < b → memM (2 ^ a + 2 ^ b) = [a, b] := by decide
theorem memM3 : ∀ c, c < 5 → ∀ b, b < c → ∀ a, a < b → memM (2 ^ a + 2 ^ b + 2 ^ c) = [a, b, c] := by decide
theorem memM4 : ∀ d, d < 5 → ∀ c, c < d → ∀ b, b < c → ∀ a, a < b → memM (2 ^ a + 2 ^ b + 2 ^ c + 2 ^ d) = [a, b, c, d] := by decide
theorem pow1_lt : ∀ n, n ≤ 5 → ∀ a, a < n → 2 ^ a < 2 ^ n := by decide
theorem pow2_lt : ∀ n, n ≤ 5 → ∀ b, b < n → ∀ a, a < b → 2 ^ a + 2 ^ b < 2 ^ n := by decide
theorem pow3_lt : ∀ n, n ≤ 5 → ∀ c, c < n → ∀ b, b < c → ∀ a, a < b → 2 ^ a + 2 ^ b + 2 ^ c < 2 ^ n := by decide
theorem pow4_lt : ∀ n, n ≤ 5 → ∀ d, d < n → ∀ c, c < d → ∀ b, b < c → ∀ a, a < b → 2 ^ a + 2 ^ b + 2 ^ c + 2 ^ d < 2 ^ n := by decide

def Pick (K : Nat → Nat → Int) (n m : Nat) (b : B4) : Prop :=
  ∃ rs cs, rs < 2 ^ (m + 1) ∧ cs < 2 ^ n ∧ (memM rs).length = (memM cs).length ∧ detF (memM rs).length (matRC K (memM rs) (memM cs)) ≠ 0 ∧
    (∀ r, r < 4 → (r ∈ memM rs ↔ ¬ b.has (5 + r))) ∧ ∀ c, c < 5 → (c ∈ memM cs ↔ b.has c)
section
variable {K : Nat → Nat → Int} {n m : Nat} (hn : n ≤ 5) (hm : m ≤ 3) (h0 : ∀ r c, n ≤ c → K r c = 0) (h1 : ∀ r c, m < r → K r c = 0)
include h0 in
theorem col_lt {c : Nat} (hc : c < 5) (h : ¬ ∀ k, vK K c k = 0) : c < n := by
  apply Classical.byContradiction
  intro hh
  apply h
  intro k
  unfold vK
  rw [if_pos hc, h0 k c (by omega)]
  rfl
include h1 in
theorem row_zero {j k : Nat} (hk : m < k) (hj : j ≠ k + 5) : vK K j k = 0 := by
  unfold vK
  by_cases h : j < 5
  · rw [if_pos h, h1 k j hk]; rfl
  · rw [if_neg h, if_neg (by omega)]
include h1 in
theorem row_le {b : B4} (hD : DB (vK K) b ≠ 0) {k : Nat} (hk : k < 4) (h : ¬ b.has (5 + k)) : k ≤ m := by
  apply Classical.byContradiction
  intro hh
  apply hD
  have hr := fun j (hj : j ≠ k + 5) => row_zero (K := K) h1 (show m < k by omega) hj
  exact D_zero hk (hr _ fun e => h (.inl (by omega))) (hr _ fun e => h (.inr (.inl (by omega)))) (hr _ fun e => h (.inr (.inr (.inl (by omega))))) (hr _ fun e => h (.inr (.inr (.inr (by omega)))))
include h0 in
theorem cols {b : B4} (hD : DB (vK K) b ≠ 0) {c : Nat} (hc : c < 5) (h : b.has c) : c < n := by
  refine col_lt h0 hc fun hz => hD (D_col ?_)
  rcases h with h | h | h | h
  · exact .inl (h ▸ hz)
  · exact .inr (.inl (h ▸ hz))
  · exact .inr (.inr (.inl (h ▸ hz)))
  · exact .inr (.inr (.inr (h ▸ hz)))
end
section
variable {K : Nat → Nat → Int} {n m : Nat} (hn : n ≤ 5) (h0 : ∀ r c, n ≤ c → K r c = 0) (h1 : ∀ r c, m < r → K r c = 0)
include hn h0 h1 in
theorem pick4_ {c1 : Nat} {c2 : Nat} {c3 : Nat} {c4 : Nat} (o1 : c1 < c2) (o2 : c2 < c3) (o3 : c3 < c4) (ol : c4 < 5) (hD : DB (vK K) ⟨c1, c2, c3, c4⟩ ≠ 0) : Pick K n m ⟨c1, c2, c3, c4⟩ := by
  have hc1 := cols h0 hD (c := c1) (by omega) (.inl rfl)
  have hc2 := cols h0 hD (c := c2) (by omega) (.inr (.inl rfl))
  have hc3 := cols h0 hD (c := c3) (by omega) (.inr (.inr (.inl rfl)))
  have hc4 := cols h0 hD (c := c4) (by omega) (.inr (.inr (.inr rfl)))
  have hr := row_le h1 hD (k := 3) (by decide) (by simp only [B4.has]; omega)
  have e1 : memM 15 = [0, 1, 2, 3] := by decide
  have e2 : memM (2 ^ c1 + 2 ^ c2 + 2 ^ c3 + 2 ^ c4) = [c1, c2, c3, c4] := memM4 c4 (by omega) c3 o3 c2 o2 c1 o1
  have hp : 2 ^ (3 + 1) ≤ 2 ^ (m + 1) := Nat.pow_le_pow_right (by decide) (by omega)
  refine ⟨15, 2 ^ c1 + 2 ^ c2 + 2 ^ c3 + 2 ^ c4, by omega, pow4_lt n hn c4 hc4 c3 o3 c2 o2 c1 o1, by rw [e1, e2]; rfl, ?_, ?_, ?_⟩
  · rw [e1, e2]
    intro e
    apply hD
    have e' : ((detF 4 (matRC K [0, 1, 2, 3] [c1, c2, c3, c4]) : Int) : Rat) = 0 := by
      have e0 : detF 4 (matRC K [0, 1, 2, 3] [c1, c2, c3, c4]) = 0 := e
      rw [e0]; rfl
    simp [matRC, detF, lapTo, sgn, Rat.intCast_add, Rat.intCast_mul, Rat.intCast_neg] at e'
    simp [DB, D, vK, show c1 < 5 by omega, show c2 < 5 by omega, show c3 < 5 by omega, show c4 < 5 by omega]
    grind
  · rw [e1]
    intro r hr'
    simp only [B4.has, List.mem_cons, List.not_mem_nil, or_false]
    omega
  · rw [e2]
    intro c hc
    simp only [B4.has, List.mem_cons, List.not_mem_nil, or_false]
    omega
include hn h0 h1 in
theorem pick3_0 {c1 : Nat} {c2 : Nat} {c3 : Nat} (o1 : c1 < c2) (o2 : c2 < c3) (ol : c3 < 5) (hD : DB (vK K) ⟨c1, c2, c3, 5⟩ ≠ 0) : Pick K n m ⟨c1, c2, c3, 5⟩ := by
  have hc1 := cols h0 hD (c := c1) (by omega) (.inl rfl)
  have hc2 := cols h0 hD (c := c2) (by omega) (.inr (.inl rfl))
  have hc3 := cols h0 hD (c := c3) (by omega) (.inr (.inr (.inl rfl)))
  have hr := row_le h1 hD (k := 3) (by decide) (by simp only [B4.has]; omega)
  have e1 : memM 14 = [1, 2, 3] := by decide
  have e2 : memM (2 ^ c1 + 2 ^ c2 + 2 ^ c3) = [c1, c2, c3] := memM3 c3 (by omega) c2 o2 c1 o1
  have hp : 2 ^ (3 + 1) ≤ 2 ^ (m + 1) := Nat.pow_le_pow_right (by decide) (by omega)
  refine ⟨14, 2 ^ c1 + 2 ^ c2 + 2 ^ c3, by omega, pow3_lt n hn c3 hc3 c2 o2 c1 o1, by rw [e1, e2]; rfl, ?_, ?_, ?_⟩
  · rw [e1, e2]
    intro e
    apply hD
    have e' : ((detF 3 (matRC K [1, 2, 3] [c1, c2, c3]) : Int) : Rat) = 0 := by
      have e0 : detF 3 (matRC K [1, 2, 3] [c1, c2, c3]) = 0 := e
      rw [e0]; rfl
    simp [matRC, detF, lapTo, sgn, Rat.intCast_add, Rat.intCast_mul, Rat.intCast_neg] at e'
    simp [DB, D, vK, show c1 < 5 by omega, show c2 < 5 by omega, show c3 < 5 by omega]
    grind
  · rw [e1]
    intro r hr'
    simp only [B4.has, List.mem_cons, List.not_mem_nil, or_false]
    omega
  · rw [e2]
    intro c hc
    simp only [B4.has, List.mem_cons, List.not_mem_nil, or_false]
    omega
include hn h0 h1 in
theorem pick3_1 {c1 : Nat} {c2 : Nat} {c3 : Nat} (o1 : c1 < c2) (o2 : c2 < c3) (ol : c3 < 5) (hD : DB (vK K) ⟨c1, c2, c3, 6⟩ ≠ 0) : Pick K n m ⟨c1, c2, c3, 6⟩ := by
  have hc1 := cols h0 hD (c := c1) (by omega) (.inl rfl)
  have hc2 := cols h0 hD (c := c2) (by omega) (.inr (.inl rfl))
  have hc3 := cols h0 hD (c := c3) (by omega) (.inr (.inr (.inl rfl)))
  have hr := row_le h1 hD (k := 3) (by decide) (by simp only [B4.has]; omega)
  have e1 : memM 13 = [0, 2, 3] := by decide
  have e2 : memM (2 ^ c1 + 2 ^ c2 + 2 ^ c3) = [c1, c2, c3] := memM3 c3 (by omega) c2 o2 c1 o1
  have hp : 2 ^ (3 + 1) ≤ 2 ^ (m + 1) := Nat.pow_le_pow_right (by decide) (by omega)
  refine ⟨13, 2 ^ c1 + 2 ^ c2 + 2 ^ c3, by omega, pow3_lt n hn c3 hc3 c2 o2 c1 o1, by rw [e1, e2]; rfl, ?_, ?_, ?_⟩
  · rw [e1, e2]
    intro e
    apply hD
    have e' : ((detF 3 (matRC K [0, 2, 3] [c1, c2, c3]) : Int) : Rat) = 0 := by
      have e0 : detF 3 (matRC K [0, 2, 3] [c1, c2, c3]) = 0 := e
      rw [e0]; rfl
    simp [matRC, detF, lapTo, sgn, Rat.intCast_add, Rat.intCast_mul, Rat.intCast_neg] at e'
    simp [DB, D, vK, show c1 < 5 by omega, show c2 < 5 by omega, show c3 < 5 by omega]
    grind
  · rw [e1]
    intro r hr'
    simp only [B4.has, List.mem_cons, List.not_mem_nil, or_false]
    omega
  · rw [e2]
    intro c hc
    simp only [B4.has, List.mem_cons, List.not_mem_nil, or_false]
    omega
include hn h0 h1 in
theorem pick3_2 {c1 : Nat} {c2 : Nat} {c3 : Nat} (o1 : c1 < c2) (o2 : c2 < c3) (ol : c3 < 5) (hD : DB (vK K) ⟨c1, c2, c3, 7⟩ ≠ 0) : Pick K n m ⟨c1, c2, c3, 7⟩ := by
  have hc1 := cols h0 hD (c := c1) (by omega) (.inl rfl)
  have hc2 := cols h0 hD (c := c2) (by omega) (.inr (.inl rfl))
  have hc3 := cols h0 hD (c := c3) (by omega) (.inr (.inr (.inl rfl)))
  have hr := row_le h1 hD (k := 3) (by decide) (by simp only [B4.has]; omega)
  have e1 : memM 11 = [0, 1, 3] := by decide
  have e2 : memM (2 ^ c1 + 2 ^ c2 + 2 ^ c3) = [c1, c2, c3] := memM3 c3 (by omega) c2 o2 c1 o1
  have hp : 2 ^ (3 + 1) ≤ 2 ^ (m + 1) := Nat.pow_le_pow_right (by decide) (by omega)
  refine ⟨11, 2 ^ c1 + 2 ^ c2 + 2 ^ c3, by omega, pow3_lt n hn c3 hc3 c2 o2 c1 o1, by rw [e1, e2]; rfl, ?_, ?_, ?_⟩
  · rw [e1, e2]
    intro e
    apply hD
    have e' : ((detF 3 (matRC K [0, 1, 3] [c1, c2, c3]) : Int) : Rat) = 0 := by
      have e0 : detF 3 (matRC K [0, 1, 3] [c1, c2, c3]) = 0 := e
      rw [e0]; rfl
    simp [matRC, detF, lapTo, sgn, Rat.intCast_add, Rat.intCast_mul, Rat.intCast_neg] at e'
    simp [DB, D, vK, show c1 < 5 by omega, show c2 < 5 by omega, show c3 < 5 by omega]
    grind
  · rw [e1]
    intro r hr'
    simp only [B4.has, List.mem_cons, List.not_mem_nil, or_false]
    omega
  · rw [e2]
    intro c hc
    simp only [B4.has, List.mem_cons, List.not_mem_nil, or_false]
    omega
include hn h0 h1 in
theorem pick3_3 {c1 : Nat} {c2 : Nat} {c3 : Nat} (o1 : c1 < c2) (o2 : c2 < c3) (ol : c3 < 5) (hD : DB (vK K) ⟨c1, c2, c3, 8⟩ ≠ 0) : Pick K n m ⟨c1, c2, c3, 8⟩ := by
  have hc1 := cols h0 hD (c := c1) (by omega) (.inl rfl)
  have hc2 := cols h0 hD (c := c2) (by omega) (.inr (.inl rfl))
  have hc3 := cols h0 hD (c := c3) (by omega) (.inr (.inr (.inl rfl)))
  have hr := row_le h1 hD (k := 2) (by decide) (by simp only [B4.has]; omega)
  have e1 : memM 7 = [0, 1, 2] := by decide
  have e2 : memM (2 ^ c1 + 2 ^ c2 + 2 ^ c3) = [c1, c2, c3] := memM3 c3 (by omega) c2 o2 c1 o1
  have hp : 2 ^ (2 + 1) ≤ 2 ^ (m + 1) := Nat.pow_le_pow_right (by decide) (by omega)
  refine ⟨7, 2 ^ c1 + 2 ^ c2 + 2 ^ c3, by omega, pow3_lt n hn c3 hc3 c2 o2 c1 o1, by rw [e1, e2]; rfl, ?_, ?_, ?_⟩
  · rw [e1, e2]
    intro e
    apply hD
    have e' : ((detF 3 (matRC K [0, 1, 2] [c1, c2, c3]) : Int) : Rat) = 0 := by
      have e0 : detF 3 (matRC K [0, 1, 2] [c1, c2, c3]) = 0 := e
      rw [e0]; rfl
    simp [matRC, detF, lapTo, sgn, Rat.intCast_add, Rat.intCast_mul, Rat.intCast_neg] at e'
    simp [DB, D, vK, show c1 < 5 by omega, show c2 < 5 by omega, show c3 < 5 by omega]
    grind
  · rw [e1]
    intro r hr'
    simp only [B4.has, List.mem_cons, List.not_mem_nil, or_false]
    omega
  · rw [e2]
    intro c hc
    simp only [B4.has, List.mem_cons, List.not_mem_nil, or_false]
    omega
include hn h0 h1 in
theorem pick2_01 {c1 : Nat} {c2 : Nat} (o1 : c1 < c2) (ol : c2 < 5) (hD : DB (vK K) ⟨c1, c2, 5, 6⟩ ≠ 0) : Pick K n m ⟨c1, c2, 5, 6⟩ := by
  have hc1 := cols h0 hD (c := c1) (by omega) (.inl rfl)
  have hc2 := cols h0 hD (c := c2) (by omega) (.inr (.inl rfl))
  have hr := row_le h1 hD (k := 3) (by decide) (by simp only [B4.has]; omega)
  have e1 : memM 12 = [2, 3] := by decide
  have e2 : memM (2 ^ c1 + 2 ^ c2) = [c1, c2] := memM2 c2 (by omega) c1 o1
  have hp : 2 ^ (3 + 1) ≤ 2 ^ (m + 1) := Nat.pow_le_pow_right (by decide) (by omega)
  refine ⟨12, 2 ^ c1 + 2 ^ c2, by omega, pow2_lt n hn c2 hc2 c1 o1, by rw [e1, e2]; rfl, ?_, ?_, ?_⟩
  · rw [e1, e2]
    intro e
    apply hD
    have e' : ((detF 2 (matRC K [2, 3] [c1, c2]) : Int) : Rat) = 0 := by
      have e0 : detF 2 (matRC K [2, 3] [c1, c2]) = 0 := e
      rw [e0]; rfl
    simp [matRC, detF, lapTo, sgn, Rat.intCast_add, Rat.intCast_mul, Rat.intCast_neg] at e'
    simp [DB, D, vK, show c1 < 5 by omega, show c2 < 5 by omega]
    grind
  · rw [e1]
    intro r hr'
    simp only [B4.has, List.mem_cons, List.not_mem_nil, or_false]
    omega
  · rw [e2]
    intro c hc
    simp only [B4.has, List.mem_cons, List.not_mem_nil, or_false]
    omega
include hn h0 h1 in
theorem pick2_02 {c1 : Nat} {c2 : Nat} (o1 : c1 < c2) (ol : c2 < 5) (hD : DB (vK K) ⟨c1, c2, 5, 7⟩ ≠ 0) : Pick K n m ⟨c1, c2, 5, 7⟩ := by
  have hc1 := cols h0 hD (c := c1) (by omega) (.inl rfl)
  have hc2 := cols h0 hD (c := c2) (by omega) (.inr (.inl rfl))
  have hr := row_le h1 hD (k := 3) (by decide) (by simp only [B4.has]; omega)
  have e1 : memM 10 = [1, 3] := by decide
  have e2 : memM (2 ^ c1 + 2 ^ c2) = [c1, c2] := memM2 c2 (by omega) c1 o1
  have hp : 2 ^ (3 + 1) ≤ 2 ^ (m + 1) := Nat.pow_le_pow_right (by decide) (by omega)
  refine ⟨10, 2 ^ c1 + 2 ^ c2, by omega, pow2_lt n hn c2 hc2 c1 o1, by rw [e1, e2]; rfl, ?_, ?_, ?_⟩
  · rw [e1, e2]
    intro e
    apply hD
    have e' : ((detF 2 (matRC K [1, 3] [c1, c2]) : Int) : Rat) = 0 := by
      have e0 : detF 2 (matRC K [1, 3] [c1, c2]) = 0 := e
      rw [e0]; rfl
    simp [matRC, detF, lapTo, sgn, Rat.intCast_add, Rat.intCast_mul, Rat.intCast_neg] at e'
    simp [DB, D, vK, show c1 < 5 by omega, show c2 < 5 by omega]
    grind
  · rw [e1]
    intro r hr'
    simp only [B4.has, List.mem_cons, List.not_mem_nil, or_false]
    omega
  · rw [e2]
    intro c hc
    simp only [B4.has, List.mem_cons, List.not_mem_nil, or_false]
    omega
include hn h0 h1 in
theorem pick2_03 {c1 : Nat} {c2 : Nat} (o1 : c1 < c2) (ol : c2 < 5) (hD : DB (vK K) ⟨c1, c2, 5, 8⟩ ≠ 0) : Pick K n m ⟨c1, c2, 5, 8⟩ := by
  have hc1 := cols h0 hD (c := c1) (by omega) (.inl rfl)
  have hc2 := cols h0 hD (c := c2) (by omega) (.inr (.inl rfl))
  have hr := row_le h1 hD (k := 2) (by decide) (by simp only [B4.has]; omega)
  have e1 : memM 6 = [1, 2] := by decide
  have e2 : memM (2 ^ c1 + 2 ^ c2) = [c1, c2] := memM2 c2 (by omega) c1 o1
  have hp : 2 ^ (2 + 1) ≤ 2 ^ (m + 1) := Nat.pow_le_pow_right (by decide) (by omega)
  refine ⟨6, 2 ^ c1 + 2 ^ c2, by omega, pow2_lt n hn c2 hc2 c1 o1, by rw [e1, e2]; rfl, ?_, ?_, ?_⟩
  · rw [e1, e2]
    intro e
    apply hD
    have e' : ((detF 2 (matRC K [1, 2] [c1, c2]) : Int) : Rat) = 0 := by
      have e0 : detF 2 (matRC K [1, 2] [c1, c2]) = 0 := e
      rw [e0]; rfl
    simp [matRC, detF, lapTo, sgn, Rat.intCast_add, Rat.intCast_mul, Rat.intCast_neg] at e'
    simp [DB, D, vK, show c1 < 5 by omega, show c2 < 5 by omega]
    grind
  · rw [e1]
    intro r hr'
    simp only [B4.has, List.mem_cons, List.not_mem_nil, or_false]
    omega
  · rw [e2]
    intro c hc
    simp only [B4.has, List.mem_cons, List.not_mem_nil, or_false]
    omega
include hn h0 h1 in
theorem pick2_12 {c1 : Nat} {c2 : Nat} (o1 : c1 < c2) (ol : c2 < 5) (hD : DB (vK K) ⟨c1, c2, 6, 7⟩ ≠ 0) : Pick K n m ⟨c1, c2, 6, 7⟩ := by
  have hc1 := cols h0 hD (c := c1) (by omega) (.inl rfl)
  have hc2 := cols h0 hD (c := c2) (by omega) (.inr (.inl rfl))
  have hr := row_le h1 hD (k := 3) (by decide) (by simp only [B4.has]; omega)
  have e1 : memM 9 = [0, 3] := by decide
  have e2 : memM (2 ^ c1 + 2 ^ c2) = [c1, c2] := memM2 c2 (by omega) c1 o1
  have hp : 2 ^ (3 + 1) ≤ 2 ^ (m + 1) := Nat.pow_le_pow_right (by decide) (by omega)
  refine ⟨9, 2 ^ c1 + 2 ^ c2, by omega, pow2_lt n hn c2 hc2 c1 o1, by rw [e1, e2]; rfl, ?_, ?_, ?_⟩
  · rw [e1, e2]
    intro e
    apply hD
    have e' : ((detF 2 (matRC K [0, 3] [c1, c2]) : Int) : Rat) = 0 := by
      have e0 : detF 2 (matRC K [0, 3] [c1, c2]) = 0 := e
      rw [e0]; rfl
    simp [matRC, detF, lapTo, sgn, Rat.intCast_add, Rat.intCast_mul, Rat.intCast_neg] at e'
    simp [DB, D, vK, show c1 < 5 by omega, show c2 < 5 by omega]
    grind
  · rw [e1]
    intro r hr'
    simp only [B4.has, List.mem_cons, List.not_mem_nil, or_false]
    omega
  · rw [e2]
    intro c hc
    simp only [B4.has, List.mem_cons, List.not_mem_nil, or_false]
    omega
include hn h0 h1 in
theorem pick2_13 {c1 : Nat} {c2 : Nat} (o1 : c1 < c2) (ol : c2 < 5) (hD : DB (vK K) ⟨c1, c2, 6, 8⟩ ≠ 0) : Pick K n m ⟨c1, c2, 6, 8⟩ := by
  have hc1 := cols h0 hD (c := c1) (by omega) (.inl rfl)
  have hc2 := cols h0 hD (c := c2) (by omega) (.inr (.inl rfl))
  have hr := row_le h1 hD (k := 2) (by decide) (by simp only [B4.has]; omega)
  have e1 : memM 5 = [0, 2] := by decide
  have e2 : memM (2 ^ c1 + 2 ^ c2) = [c1, c2] := memM2 c2 (by omega) c1 o1
  have hp : 2 ^ (2 + 1) ≤ 2 ^ (m + 1) := Nat.pow_le_pow_right (by decide) (by omega)
  refine ⟨5, 2 ^ c1 + 2 ^ c2, by omega, pow2_lt n hn c2 hc2 c1 o1, by rw [e1, e2]; rfl, ?_, ?_, ?_⟩
  · rw [e1, e2]
    intro e
    apply hD
    have e' : ((detF 2 (matRC K [0, 2] [c1, c2]) : Int) : Rat) = 0 := by
      have e0 : detF 2 (matRC K [0, 2] [c1, c2]) = 0 := e
      rw [e0]; rfl
    simp [matRC, detF, lapTo, sgn, Rat.intCast_add, Rat.intCast_mul, Rat.intCast_neg] at e'
    simp [DB, D, vK, show c1 < 5 by omega, show c2 < 5 by omega]
    grind
  · rw [e1]
    intro r hr'
    simp only [B4.has, List.mem_cons, List.not_mem_nil, or_false]
    omega
  · rw [e2]
    intro c hc
    simp only [B4.has, List.mem_cons, List.not_mem_nil, or_false]
    omega
include hn h0 h1 in
theorem pick2_23 {c1 : Nat} {c2 : Nat} (o1 : c1 < c2) (ol : c2 < 5) (hD : DB (vK K) ⟨c1, c2, 7, 8⟩ ≠ 0) : Pick K n m ⟨c1, c2, 7, 8⟩ := by
  have hc1 := cols h0 hD (c := c1) (by omega) (.inl rfl)
  have hc2 := cols h0 hD (c := c2) (by omega) (.inr (.inl rfl))
  have hr := row_le h1 hD (k := 1) (by decide) (by simp only [B4.has]; omega)
  have e1 : memM 3 = [0, 1] := by decide
  have e2 : memM (2 ^ c1 + 2 ^ c2) = [c1, c2] := memM2 c2 (by omega) c1 o1
  have hp : 2 ^ (1 + 1) ≤ 2 ^ (m + 1) := Nat.pow_le_pow_right (by decide) (by omega)
  refine ⟨3, 2 ^ c1 + 2 ^ c2, by omega, pow2_lt n hn c2 hc2 c1 o1, by rw [e1, e2]; rfl, ?_, ?_, ?_⟩
  · rw [e1, e2]
    intro e
    apply hD
    have e' : ((detF 2 (matRC K [0, 1] [c1, c2]) : Int) : Rat) = 0 := by
      have e0 : detF 2 (matRC K [0, 1] [c1, c2]) = 0 := e
      rw [e0]; rfl
    simp [matRC, detF, lapTo, sgn, Rat.intCast_add, Rat.intCast_mul, Rat.intCast_neg] at e'
    simp [DB, D, vK, show c1 < 5 by omega, show c2 < 5 by omega]
    grind
  · rw [e1]
    intro r hr'
    simp only [B4.has, List.mem_cons, List.not_mem_nil, or_false]
    omega
  · rw [e2]
    intro c hc
    simp only [B4.has, List.mem_cons, List.not_mem_nil, or_false]
    omega
include hn h0 h1 in
theorem pick1_012 {c1 : Nat}  (ol : c1 < 5) (hD : DB (vK K) ⟨c1, 5, 6, 7⟩ ≠ 0) : Pick K n m ⟨c1, 5, 6, 7⟩ := by
  have hc1 := cols h0 hD (c := c1) (by omega) (.inl rfl)
  have hr := row_le h1 hD (k := 3) (by decide) (by simp only [B4.has]; omega)
  have e1 : memM 8 = [3] := by decide
  have e2 : memM (2 ^ c1) = [c1] := memM1 c1 (by omega)
  have hp : 2 ^ (3 + 1) ≤ 2 ^ (m + 1) := Nat.pow_le_pow_right (by decide) (by omega)
  refine ⟨8, 2 ^ c1, by omega, pow1_lt n hn c1 hc1, by rw [e1, e2]; rfl, ?_, ?_, ?_⟩
  · rw [e1, e2]
    intro e
    apply hD
    have e' : ((detF 1 (matRC K [3] [c1]) : Int) : Rat) = 0 := by
      have e0 : detF 1 (matRC K [3] [c1]) = 0 := e
      rw [e0]; rfl
    simp [matRC, detF, lapTo, sgn] at e'
    simp [DB, D, vK, show c1 < 5 by omega, e']
    grind
  · rw [e1]
    intro r hr'
    simp only [B4.has, List.mem_cons, List.not_mem_nil, or_false]
    omega
  · rw [e2]
    intro c hc
    simp only [B4.has, List.mem_cons, List.not_mem_nil, or_false]
    omega
include hn h0 h1 in
theorem pick1_013 {c1 : Nat}  (ol : c1 < 5) (hD : DB (vK K) ⟨c1, 5, 6, 8⟩ ≠ 0) : Pick K n m ⟨c1, 5, 6, 8⟩ := by
  have hc1 := cols h0 hD (c := c1) (by omega) (.inl rfl)
  have hr := row_le h1 hD (k := 2) (by decide) (by simp only [B4.has]; omega)
  have e1 : memM 4 = [2] := by decide
  have e2 : memM (2 ^ c1) = [c1] := memM1 c1 (by omega)
  have hp : 2 ^ (2 + 1) ≤ 2 ^ (m + 1) := Nat.pow_le_pow_right (by decide) (by omega)
  refine ⟨4, 2 ^ c1, by omega, pow1_lt n hn c1 hc1, by rw [e1, e2]; rfl, ?_, ?_, ?_⟩
  · rw [e1, e2]
    intro e
    apply hD
    have e' : ((detF 1 (matRC K [2] [c1]) : Int) : Rat) = 0 := by
      have e0 : detF 1 (matRC K [2] [c1]) = 0 := e
      rw [e0]; rfl
    simp [matRC, detF, lapTo, sgn] at e'
    simp [DB, D, vK, show c1 < 5 by omega, e']
    grind
  · rw [e1]
    intro r hr'
    simp only [B4.has, List.mem_cons, List.not_mem_nil, or_false]
    omega
  · rw [e2]
    intro c hc
    simp only [B4.has, List.mem_cons, List.not_mem_nil, or_false]
    omega
include hn h0 h1 in
theorem pick1_023 {c1 : Nat}  (ol : c1 < 5) (hD : DB (vK K) ⟨c1, 5, 7, 8⟩ ≠ 0) : Pick K n m ⟨c1, 5, 7, 8⟩ := by
  have hc1 := cols h0 hD (c := c1) (by omega) (.inl rfl)
  have hr := row_le h1 hD (k := 1) (by decide) (by simp only [B4.has]; omega)
  have e1 : memM 2 = [1] := by decide
  have e2 : memM (2 ^ c1) = [c1] := memM1 c1 (by omega)
  have hp : 2 ^ (1 + 1) ≤ 2 ^ (m + 1) := Nat.pow_le_pow_right (by decide) (by omega)
  refine ⟨2, 2 ^ c1, by omega, pow1_lt n hn c1 hc1, by rw [e1, e2]; rfl, ?_, ?_, ?_⟩
  · rw [e1, e2]
    intro e
    apply hD
    have e' : ((detF 1 (matRC K [1] [c1]) : Int) : Rat) = 0 := by
      have e0 : detF 1 (matRC K [1] [c1]) = 0 := e
      rw [e0]; rfl
    simp [matRC, detF, lapTo, sgn] at e'
    simp [DB, D, vK, show c1 < 5 by omega, e']
    grind
  · rw [e1]
    intro r hr'
    simp only [B4.has, List.mem_cons, List.not_mem_nil, or_false]
    omega
  · rw [e2]
    intro c hc
    simp only [B4.has, List.mem_cons, List.not_mem_nil, or_false]
    omega
include hn h0 h1 in
theorem pick1_123 {c1 : Nat}  (ol : c1 < 5) (hD : DB (vK K) ⟨c1, 6, 7, 8⟩ ≠ 0) : Pick K n m ⟨c1, 6, 7, 8⟩ := by
  have hc1 := cols h0 hD (c := c1) (by omega) (.inl rfl)
  have hr := row_le h1 hD (k := 0) (by decide) (by simp only [B4.has]; omega)
  have e1 : memM 1 = [0] := by decide
  have e2 : memM (2 ^ c1) = [c1] := memM1 c1 (by omega)
  have hp : 2 ^ (0 + 1) ≤ 2 ^ (m + 1) := Nat.pow_le_pow_right (by decide) (by omega)
  refine ⟨1, 2 ^ c1, by omega, pow1_lt n hn c1 hc1, by rw [e1, e2]; rfl, ?_, ?_, ?_⟩
  · rw [e1, e2]
    intro e
    apply hD
    have e' : ((detF 1 (matRC K [0] [c1]) : Int) : Rat) = 0 := by
      have e0 : detF 1 (matRC K [0] [c1]) = 0 := e
      rw [e0]; rfl
    simp [matRC, detF, lapTo, sgn] at e'
    simp [DB, D, vK, show c1 < 5 by omega, e']
    grind
  · rw [e1]
    intro r hr'
    simp only [B4.has, List.mem_cons, List.not_mem_nil, or_false]
    omega
  · rw [e2]
    intro c hc
    simp only [B4.has, List.mem_cons, List.not_mem_nil, or_false]
    omega
theorem pick0_0123 : Pick K n m ⟨5, 6, 7, 8⟩ := by
  have e1 : memM 0 = [] := by decide
  have e2 : memM (0) = [] := memM0
  have hp : 1 ≤ 2 ^ (m + 1) := Nat.one_le_two_pow
  refine ⟨0, 0, by omega, Nat.two_pow_pos n, by rw [e1], ?_, ?_, ?_⟩
  · rw [e1]
    show (1 : Int) ≠ 0
    decide
  · rw [e1]
    intro r hr'
    constructor
    · intro h; cases h
    · intro h; simp only [B4.has] at h; omega
  · rw [e2]
    intro c hc
    constructor
    · intro h; cases h
    · intro h; simp only [B4.has] at h; omega
include hn h0 h1 in
theorem pick_sorted {b : B4} (hb : b.below 9) (hs : Srt b) (hD : DB (vK K) b ≠ 0) : Pick K n m b := by
  obtain ⟨p, q, r, s⟩ := b
  obtain ⟨hp, hq, hr, hs9⟩ := hb
  obtain ⟨o1, o2, o3⟩ := hs
  dsimp only at hp hq hr hs9 o1 o2 o3
  by_cases a4 : s < 5
  · exact pick4_ hn h0 h1 o1 o2 o3 a4 hD
  by_cases a3 : r < 5
  · rcases (show s = 5 ∨ s = 6 ∨ s = 7 ∨ s = 8 by omega) with e | e | e | e <;> subst e
    · exact pick3_0 hn h0 h1 o1 o2 a3 hD
    · exact pick3_1 hn h0 h1 o1 o2 a3 hD
    · exact pick3_2 hn h0 h1 o1 o2 a3 hD
    · exact pick3_3 hn h0 h1 o1 o2 a3 hD
  by_cases a2 : q < 5
  · rcases (show (r = 5 ∧ s = 6) ∨ (r = 5 ∧ s = 7) ∨ (r = 5 ∧ s = 8) ∨ (r = 6 ∧ s = 7) ∨ (r = 6 ∧ s = 8) ∨ (r = 7 ∧ s = 8) by omega) with e | e | e | e | e | e <;> obtain ⟨e, e'⟩ := e <;> subst e <;> subst e'
    · exact pick2_01 hn h0 h1 o1 a2 hD
    · exact pick2_02 hn h0 h1 o1 a2 hD
    · exact pick2_03 hn h0 h1 o1 a2 hD
    · exact pick2_12 hn h0 h1 o1 a2 hD
    · exact pick2_13 hn h0 h1 o1 a2 hD
    · exact pick2_23 hn h0 h1 o1 a2 hD
  by_cases a1 : p < 5
  · rcases (show (q = 5 ∧ r = 6 ∧ s = 7) ∨ (q = 5 ∧ r = 6 ∧ s = 8) ∨ (q = 5 ∧ r = 7 ∧ s = 8) ∨ (q = 6 ∧ r = 7 ∧ s = 8) by omega) with e | e | e | e <;> obtain ⟨e, e', e''⟩ := e <;> subst e <;> subst e' <;> subst e''
    · exact pick1_012 hn h0 h1 a1 hD
    · exact pick1_013 hn h0 h1 a1 hD
    · exact pick1_023 hn h0 h1 a1 hD
    · exact pick1_123 hn h0 h1 a1 hD
  obtain ⟨rfl, rfl, rfl, rfl⟩ : p = 5 ∧ q = 6 ∧ r = 7 ∧ s = 8 := by omega
  exact pick0_0123
include hn h0 h1 in
theorem pick {b : B4} (hb : b.below 9) (hD : DB (vK K) b ≠ 0) : Pick K n m b := by
  obtain ⟨c, hs, hc, hl⟩ := sorted hD
  have hcb : c.below 9 := by
    have hx : ∀ j, c.has j → j < 9 := by
      intro j hj
      rcases (hl j).1 hj with h | h | h | h <;> (have := hb; unfold B4.below at this; omega)
    exact ⟨hx _ (.inl rfl), hx _ (.inr (.inl rfl)), hx _ (.inr (.inr (.inl rfl))), hx _ (.inr (.inr (.inr rfl)))⟩
  obtain ⟨rs, cs, p1, p2, p3, p4, p5, p6⟩ := pick_sorted hn h0 h1 hcb hs hc
  exact ⟨rs, cs, p1, p2, p3, p4, fun r hr => by rw [p5 r hr, hl], fun k hk => by rw [p6 k hk, hl]⟩
end
end Go.AM.E

