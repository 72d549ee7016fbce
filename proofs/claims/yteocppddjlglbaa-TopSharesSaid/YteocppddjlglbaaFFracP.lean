/-
Fractions by cross products: what make, mul, add and fraction say.
-/
import Derived.Test.YteocppddjlglbaaFFrac
set_option linter.unusedVariables false
set_option linter.unusedSimpArgs false
set_option maxRecDepth 20000

namespace Go.AM.F

theorem gcd_gcd {n d : Nat} (h : 0 < Nat.gcd n d) : Nat.gcd (n / Nat.gcd n d) (d / Nat.gcd n d) = 1 := by
  rw [Nat.gcd_div (Nat.gcd_dvd_left ..) (Nat.gcd_dvd_right ..), Nat.div_self h]
def Fr (r : Nat × Nat) (n d : Nat) : Prop := r.1 * d = n * r.2
theorem validN_iff {n d : Nat} : validN n d = true ↔ (1 ≤ d ∧ d ≤ 1048576) ∧ n ≤ 1099511627776 ∧ Nat.gcd n d = 1 := by
  unfold validN
  simp only [Bool.and_eq_true, decide_eq_true_eq]
  omega
theorem valid_small {r : Nat × Nat} (h : validN r.1 r.2 = true) : SmallN r := ⟨(validN_iff.1 h).2.1, (validN_iff.1 h).1.2⟩
theorem make_small (n d : Nat) : SmallN ((makeN n d).1, (makeN n d).2.1) := by
  unfold makeN SmallN
  split
  · exact ⟨Nat.zero_le _, Nat.zero_le _⟩
  · dsimp only; omega
theorem make_spec {n d : Nat} (hd : 1 ≤ d) (h : (makeN n d).2.2 = 0) : Fr ((makeN n d).1, (makeN n d).2.1) n d ∧ validN (makeN n d).1 (makeN n d).2.1 = true := by
  have hg : 0 < Nat.gcd n d := Nat.gcd_pos_of_pos_right _ hd
  unfold makeN at h ⊢
  split at h
  · cases h
  · rename_i hc
    rw [if_neg hc]
    refine ⟨?_, validN_iff.2 ⟨⟨?_, by dsimp only; omega⟩, by dsimp only; omega, gcd_gcd hg⟩⟩
    · unfold Fr
      dsimp only
      obtain ⟨a, ha⟩ := Nat.gcd_dvd_left n d
      obtain ⟨b, hb⟩ := Nat.gcd_dvd_right n d
      generalize Nat.gcd n d = g at *
      subst ha hb
      rw [Nat.mul_div_cancel_left _ hg, Nat.mul_div_cancel_left _ hg]
      ac_rfl
    · exact (Nat.one_le_div_iff hg).2 (Nat.gcd_le_right _ hd)
theorem add_spec {a b : Nat × Nat} (h : (addN a b).2.2 = 0) : validN a.1 a.2 = true ∧ validN b.1 b.2 = true ∧ Fr ((addN a b).1, (addN a b).2.1) (a.1 * b.2 + b.1 * a.2) (a.2 * b.2) ∧ validN (addN a b).1 (addN a b).2.1 = true := by
  unfold addN at h ⊢
  split at h
  · rename_i hv
    rw [if_pos hv]
    rw [Bool.and_eq_true] at hv
    have h1 := (validN_iff.1 hv.1).1
    have h2 := (validN_iff.1 hv.2).1
    have := make_spec (Nat.mul_pos h1.1 h2.1) h
    exact ⟨hv.1, hv.2, this⟩
  · cases h
theorem mul_small (a b : Nat × Nat) : SmallN ((mulN a b).1, (mulN a b).2.1) := by
  unfold mulN
  split
  · split
    · exact ⟨Nat.zero_le _, Nat.zero_le _⟩
    · exact make_small _ _
  · exact ⟨Nat.zero_le _, Nat.zero_le _⟩
theorem mul_spec {a b : Nat × Nat} (h : (mulN a b).2.2 = 0) : validN a.1 a.2 = true ∧ validN b.1 b.2 = true ∧ Fr ((mulN a b).1, (mulN a b).2.1) (a.1 * b.1) (a.2 * b.2) ∧ validN (mulN a b).1 (mulN a b).2.1 = true := by
  unfold mulN at h ⊢
  split at h
  case isFalse => cases h
  rename_i hv
  rw [if_pos hv]
  rw [Bool.and_eq_true] at hv
  have h1 := (validN_iff.1 hv.1).1
  have h2 := (validN_iff.1 hv.2).1
  split at h
  · cases h
  · rename_i hc
    rw [if_neg hc]
    have hg : 0 < Nat.gcd a.1 b.2 := Nat.gcd_pos_of_pos_right _ h2.1
    have hk : 0 < Nat.gcd b.1 a.2 := Nat.gcd_pos_of_pos_right _ h1.1
    have p1 : 1 ≤ b.2 / Nat.gcd a.1 b.2 := (Nat.one_le_div_iff hg).2 (Nat.gcd_le_right _ h2.1)
    have p2 : 1 ≤ a.2 / Nat.gcd b.1 a.2 := (Nat.one_le_div_iff hk).2 (Nat.gcd_le_right _ h1.1)
    obtain ⟨m1, m2⟩ := make_spec (Nat.mul_pos p2 p1) h
    refine ⟨hv.1, hv.2, ?_, m2⟩
    unfold Fr at m1 ⊢
    dsimp only at m1 ⊢
    generalize (makeN _ _).1 = x at *
    generalize (makeN _ _).2.1 = y at *
    obtain ⟨a1, e1⟩ := Nat.gcd_dvd_left a.1 b.2
    obtain ⟨b2, e2⟩ := Nat.gcd_dvd_right a.1 b.2
    obtain ⟨b1, e3⟩ := Nat.gcd_dvd_left b.1 a.2
    obtain ⟨a2, e4⟩ := Nat.gcd_dvd_right b.1 a.2
    generalize Nat.gcd a.1 b.2 = g at *
    generalize Nat.gcd b.1 a.2 = k at *
    rw [e1, e2, e3, e4] at m1
    rw [Nat.mul_div_cancel_left _ hg, Nat.mul_div_cancel_left _ hg, Nat.mul_div_cancel_left _ hk, Nat.mul_div_cancel_left _ hk] at m1
    rw [e1, e2, e3, e4]
    calc x * (k * a2 * (g * b2)) = x * (a2 * b2) * (g * k) := by ac_rfl
      _ = a1 * b1 * y * (g * k) := by rw [m1]
      _ = g * a1 * (k * b1) * y := by ac_rfl
theorem frac_small (n d : Nat) : SmallN ((fracN n d).1, (fracN n d).2.1) := by
  unfold fracN
  split
  · exact ⟨Nat.zero_le _, by decide⟩
  · split
    · exact ⟨Nat.zero_le _, Nat.zero_le _⟩
    · exact make_small _ _
theorem frac_spec {n d : Nat} (hd : d ≠ 0) (h : (fracN n d).2.2 = 0) : Fr ((fracN n d).1, (fracN n d).2.1) n d ∧ validN (fracN n d).1 (fracN n d).2.1 = true := by
  have hg : 0 < Nat.gcd n d := Nat.gcd_pos_of_pos_right _ (by omega)
  unfold fracN at h ⊢
  split at h
  · rename_i h0
    rw [if_pos h0]
    exact ⟨by unfold Fr; rw [h0]; simp, by decide⟩
  · rename_i h0
    rw [if_neg h0]
    split at h
    · cases h
    · rename_i hc
      rw [if_neg hc]
      obtain ⟨m1, m2⟩ := make_spec ((Nat.one_le_div_iff hg).2 (Nat.gcd_le_right _ (by omega))) h
      refine ⟨?_, m2⟩
      unfold Fr at m1 ⊢
      dsimp only at m1 ⊢
      generalize (makeN _ _).1 = x at *
      generalize (makeN _ _).2.1 = y at *
      obtain ⟨a, ha⟩ := Nat.gcd_dvd_left n d
      obtain ⟨b, hb⟩ := Nat.gcd_dvd_right n d
      generalize Nat.gcd n d = g at *
      rw [ha, hb, Nat.mul_div_cancel_left _ hg, Nat.mul_div_cancel_left _ hg] at m1
      rw [ha, hb]
      calc x * (g * b) = x * b * g := by ac_rfl
        _ = a * y * g := by rw [m1]
        _ = g * a * y := by ac_rfl
theorem low_unique {a b n d : Nat} (h1 : Nat.gcd a b = 1) (h2 : Nat.gcd n d = 1) (hd : 0 < d) (h : a * d = n * b) : a = n ∧ b = d := by
  have c1 : d ∣ b := (Nat.Coprime.dvd_of_dvd_mul_left (show Nat.Coprime d n by unfold Nat.Coprime; rw [Nat.gcd_comm]; exact h2) ⟨a, by rw [← h, Nat.mul_comm]⟩)
  have c2 : b ∣ d := (Nat.Coprime.dvd_of_dvd_mul_left (show Nat.Coprime b a by unfold Nat.Coprime; rw [Nat.gcd_comm]; exact h1) ⟨n, by rw [h, Nat.mul_comm]⟩)
  have e := Nat.dvd_antisymm c2 c1
  subst e
  exact ⟨Nat.eq_of_mul_eq_mul_right hd h, rfl⟩
theorem frac_conv {r : Nat × Nat} {n d : Nat} (hv : validN r.1 r.2 = true) (hd : d ≠ 0) (h : Fr r n d) : fracN n d = (r.1, r.2, 0) := by
  obtain ⟨⟨v1, v2⟩, v3, v4⟩ := validN_iff.1 hv
  have hg : 0 < Nat.gcd n d := Nat.gcd_pos_of_pos_right _ (by omega)
  unfold Fr at h
  unfold fracN
  by_cases h0 : n = 0
  · rw [if_pos h0]
    rw [h0, Nat.zero_mul] at h
    have h1 : r.1 = 0 := (Nat.mul_eq_zero.1 h).resolve_right hd
    rw [h1, Nat.gcd_zero_left] at v4
    rw [h1, v4]
  · rw [if_neg h0]
    have hco := gcd_gcd hg
    have hdp : 1 ≤ d / Nat.gcd n d := (Nat.one_le_div_iff hg).2 (Nat.gcd_le_right _ (by omega))
    obtain ⟨a, ha⟩ := Nat.gcd_dvd_left n d
    obtain ⟨b, hb⟩ := Nat.gcd_dvd_right n d
    have hgn : Nat.gcd n d ≠ 0 := by omega
    generalize hgg : Nat.gcd n d = g at *
    have ea : n / g = a := by rw [ha, Nat.mul_div_cancel_left _ hg]
    have eb : d / g = b := by rw [hb, Nat.mul_div_cancel_left _ hg]
    rw [ea, eb] at hco ⊢
    rw [eb] at hdp
    have h2 : r.1 * b = a * r.2 := by
      rw [ha, hb] at h
      have : r.1 * b * g = a * r.2 * g := by
        calc r.1 * b * g = r.1 * (g * b) := by ac_rfl
          _ = g * a * r.2 := h
          _ = a * r.2 * g := by ac_rfl
      exact Nat.eq_of_mul_eq_mul_right hg this
    obtain ⟨e1, e2⟩ := low_unique v4 hco (by omega) h2
    subst e1 e2
    have no : ∀ z x : Nat, z = g * x → x ≤ 1099511627776 → ¬ overBig z g := fun z x hz hx hh => by
      have h3 := bits_lt g
      have h4 : z < 2 ^ (bitsN g + 60) := by
        rw [hz, Nat.pow_add]
        have h5 : g * x ≤ g * 2 ^ 60 := Nat.mul_le_mul_left _ (by omega)
        have h6 : g * 2 ^ 60 < 2 ^ bitsN g * 2 ^ 60 := (Nat.mul_lt_mul_right (by decide)).2 h3
        omega
      have h7 := bits_le h4
      unfold overBig at hh
      omega
    rw [if_neg (by rintro (h | h); exact no n _ ha v3 h; exact no d _ hb (by omega) h)]
    unfold makeN
    rw [hco, Nat.div_one, Nat.div_one, if_neg (by omega)]

theorem fr_mul {s k t : Nat × Nat} {a b c e : Nat} (hs : Fr s a b) (hk : Fr k c e) (ht : Fr t (s.1 * k.1) (s.2 * k.2)) (h1 : 0 < s.2) (h2 : 0 < k.2) : Fr t (a * c) (b * e) := by
  unfold Fr at *
  have : t.1 * (b * e) * (s.2 * k.2) = a * c * t.2 * (s.2 * k.2) := by
    calc t.1 * (b * e) * (s.2 * k.2) = (t.1 * (s.2 * k.2)) * (b * e) := by ac_rfl
      _ = s.1 * k.1 * t.2 * (b * e) := by rw [ht]
      _ = (s.1 * b) * (k.1 * e) * t.2 := by ac_rfl
      _ = (a * s.2) * (c * k.2) * t.2 := by rw [hs, hk]
      _ = a * c * t.2 * (s.2 * k.2) := by ac_rfl
  exact Nat.eq_of_mul_eq_mul_right (Nat.mul_pos h1 h2) this
theorem fr_scale {t : Nat × Nat} {n d : Nat} (h : Fr t n d) (c : Nat) : Fr t (n * c) (d * c) := by
  unfold Fr at *
  calc t.1 * (d * c) = t.1 * d * c := by ac_rfl
    _ = n * t.2 * c := by rw [h]
    _ = n * c * t.2 := by ac_rfl
theorem fr_add {r t u : Nat × Nat} {a b d : Nat} (hr : Fr r a d) (ht : Fr t b d) (hu : Fr u (r.1 * t.2 + t.1 * r.2) (r.2 * t.2)) (h1 : 0 < r.2) (h2 : 0 < t.2) : Fr u (a + b) d := by
  unfold Fr at *
  have : u.1 * d * (r.2 * t.2) = (a + b) * u.2 * (r.2 * t.2) := by
    calc u.1 * d * (r.2 * t.2) = (u.1 * (r.2 * t.2)) * d := by ac_rfl
      _ = (r.1 * t.2 + t.1 * r.2) * u.2 * d := by rw [hu]
      _ = (r.1 * d) * (t.2 * u.2) + (t.1 * d) * (r.2 * u.2) := by rw [Nat.add_mul, Nat.add_mul]; congr 1 <;> ac_rfl
      _ = (a * r.2) * (t.2 * u.2) + (b * t.2) * (r.2 * u.2) := by rw [hr, ht]
      _ = (a + b) * u.2 * (r.2 * t.2) := by rw [Nat.add_mul, Nat.add_mul]; congr 1 <;> ac_rfl
  exact Nat.eq_of_mul_eq_mul_right (Nat.mul_pos h1 h2) this
end Go.AM.F

