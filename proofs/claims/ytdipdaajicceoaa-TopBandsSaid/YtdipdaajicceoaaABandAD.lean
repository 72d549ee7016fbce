import Derived.Test.YtdipdaajicceoaaABandAC
set_option linter.unusedSimpArgs false

namespace Go.AM.A
open Go Go.Proofs

theorem fin_ok {qs : List Run} (ho : Okay qs) (ht : total qs ≤ 1000000) (hw : ∀ m ∈ expand qs, wellM m = true) (h : (finished (joinedL qs)).2 = 0) :
    finished (joinedL qs) = (joinedL qs, 0) ∧ validate (joinedL qs) = 0 ∧ Normal (joinedL qs) ∧ expand (joinedL qs) = expand qs ∧ (joinedL qs).length ≤ 40 := by
  obtain ⟨n1, n2, n3, n4, n5⟩ := joined_normal ho
  unfold finished at h ⊢
  by_cases hb : 40 < (joinedL qs).length ∨ 1000000 < ln (joinedL qs)
  · rw [if_pos hb] at h; simp at h
  · rw [if_neg hb]
    exact ⟨rfl, valid_of (by omega) n3.1 (by rw [n2]; exact hw) (by omega), n1, n2, by omega⟩

theorem expand_reverse : ∀ (rs : List Run), expand rs.reverse = (expand rs).reverse
  | [] => rfl
  | r :: rs => by
    rw [List.reverse_cons, expand_app, expand_reverse rs, expand_cons, expand_cons, expand_nil, List.append_nil, List.reverse_append, List.reverse_replicate]

theorem total_rev : ∀ (rs : List Run), total rs.reverse = total rs
  | [] => rfl
  | r :: rs => by rw [List.reverse_cons, total_app, total_rev rs, total_cons, total_cons, total_nil]; omega

theorem rev_ok {xs : List Run} (hv : validate xs = 0) : finished (joinedL xs.reverse) = (joinedL xs.reverse, 0) ∧ validate (joinedL xs.reverse) = 0 ∧ Normal (joinedL xs.reverse) ∧ expand (joinedL xs.reverse) = (expand xs).reverse ∧ (joinedL xs.reverse).length ≤ 40 := by
  obtain ⟨v1, v2, v3⟩ := valid_okay hv
  have ho : Okay xs.reverse := ⟨fun r hr => v1.1 r (List.mem_reverse.1 hr), by rw [total_rev]; exact v1.2⟩
  have hl := joined_le xs.reverse
  rw [List.length_reverse] at hl
  obtain ⟨n1, n2, n3, n4, n5⟩ := joined_normal ho
  have hf := finished_ok (js := joinedL xs.reverse) (by omega) n3 (by rw [n5, total_rev]; exact v3)
  have := fin_ok ho (by rw [total_rev]; exact v3) (fun m hm => valid_marks hv m (by rw [expand_reverse] at hm; exact List.mem_reverse.1 hm)) (by rw [hf])
  rw [expand_reverse] at this
  exact this

def thicks (ms : List Mk) : Int := (ms.map Mk.thick).sum
theorem thicks_app (a b : List Mk) : thicks (a ++ b) = thicks a + thicks b := by simp [thicks]
theorem thicks_rep (n : Nat) (m : Mk) : thicks (List.replicate n m) = n * m.thick := by
  unfold thicks
  rw [List.map_replicate]
  induction n with
  | zero => simp
  | succ n ih => rw [List.replicate_succ, List.sum_cons, ih]; rw [Int.natCast_succ, Int.add_mul]; omega

theorem thicks_in {ms : List Mk} (h : ∀ m ∈ ms, wellM m = true) : 0 ≤ thicks ms ∧ thicks ms ≤ 1000 * ms.length := by
  induction ms with
  | nil => simp [thicks]
  | cons m ms ih =>
    have h1 := ih fun x hx => h x (List.mem_cons_of_mem _ hx)
    have h2 := h m List.mem_cons_self
    simp only [wellM, Bool.and_eq_true, inB, decide_eq_true_eq] at h2
    have : thicks (m :: ms) = m.thick + thicks ms := by simp [thicks]
    rw [this, List.length_cons]
    have := h2.1.1
    omega

theorem vol_thicks {xs : List Run} (hv : validate xs = 0) : vol xs = thicks (expand xs) := by
  obtain ⟨v1, v2, v3⟩ := valid_okay hv
  have hw := valid_marks hv
  have key : ∀ pre : List Run, (∃ post, xs = pre ++ post) → vol pre = thicks (expand pre) := by
    intro pre
    refine snoc_ind (P := fun pre => (∃ post, xs = pre ++ post) → vol pre = thicks (expand pre)) ?_ ?_ pre
    · intro _; rfl
    · rintro l r ih ⟨post, hp⟩
      have hp' : xs = l ++ ([r] ++ post) := by rw [hp]; simp
      have i1 := ih ⟨_, hp'⟩
      have o1 := okay_app (hp' ▸ v1)
      have e0 := expand_len o1.1
      have hr := v1.1 r (by rw [hp]; simp)
      have hwm := hw r.mk' (mark_of (by rw [hp]; simp) hr)
      simp only [wellM, Bool.and_eq_true, inB, decide_eq_true_eq] at hwm
      have ht : r.thick = r.mk'.thick := rfl
      have htot : total l + r.len ≤ 1000000 := by
        have := v3; rw [hp', total_app, total_app, total_cons, total_nil] at this
        have := okay_nonneg (okay_app (pre := [r]) o1.2).2
        omega
      have hl := thicks_in (ms := expand l) fun m hm => hw m (by rw [hp', expand_app]; exact List.mem_append_left _ hm)
      have t0 := okay_nonneg o1.1
      have hb : 0 ≤ r.len * r.thick ∧ r.len * r.thick ≤ 1000 * r.len := by
        have a1 := hwm.1.1
        rw [← ht] at a1
        refine ⟨Int.mul_nonneg (by omega) (by omega), ?_⟩
        rw [Int.mul_comm r.len]
        exact Int.mul_le_mul_of_nonneg_right (by omega) (by omega)
      rw [vol_snoc, i1, expand_app, thicks_app, expand_cons, expand_nil, List.append_nil, thicks_rep, show IntKind.i64.wrap (r.len * r.thick) = r.len * r.thick from wrap_in (by omega), wrap_in (by omega), Int.toNat_of_nonneg (by omega), ← ht]
  exact key xs ⟨[], by simp⟩

/-- What lies over a part. -/
def overMs (ms ps : List Mk) (a i : Nat) : List Mk := ms.take a ++ (ps.take i ++ ms.drop (a + i))

theorem over_len {ms ps : List Mk} {a i : Nat} (h : a + i ≤ ms.length) (hi : i ≤ ps.length) : (overMs ms ps a i).length = ms.length := by
  unfold overMs
  simp only [List.length_append, List.length_take, List.length_drop]; omega

theorem over_zero (ms ps : List Mk) (a : Nat) : overMs ms ps a 0 = ms := by
  unfold overMs; rw [List.take_zero, List.nil_append, Nat.add_zero, List.take_append_drop]

theorem over_set {ms ps : List Mk} {a i : Nat} {m : Mk} (h : a + i < ms.length) (hm : ps[i]? = some m) : (overMs ms ps a i).set (a + i) m = overMs ms ps a (i + 1) := by
  have hi := (List.getElem?_eq_some_iff.1 hm).1
  unfold overMs
  rw [List.set_append_right _ _ (by rw [List.length_take]; omega), List.length_take, show a + i - min a ms.length = i by omega]
  rw [List.set_append_right _ _ (by rw [List.length_take]; omega), List.length_take, show i - min i ps.length = 0 by omega]
  rw [List.take_add_one, hm, List.append_assoc]
  congr 2
  rw [List.drop_eq_getElem_cons h, List.set_cons_zero]
  rfl

theorem over_ok {xs ys : List Run} {x : Int} (h1 : validate xs = 0) (h2 : validate ys = 0) (h : (overM xs ys x).2 = 0) :
    0 ≤ x ∧ x.toNat + (expand ys).length ≤ (expand xs).length ∧ validate (overM xs ys x).1 = 0 ∧ Normal (overM xs ys x).1 ∧ expand (overM xs ys x).1 = overMs (expand xs) (expand ys) x.toNat (expand ys).length ∧ (overM xs ys x).1.length ≤ 40 := by
  obtain ⟨v1, v2, v3⟩ := valid_okay h1
  obtain ⟨u1, u2, u3⟩ := valid_okay h2
  have e1 := expand_len v1
  have e2 := expand_len u1
  have u0 := okay_nonneg u1
  unfold overM at h ⊢
  rw [if_pos (both_of h1 h2)] at h ⊢
  by_cases hc : 0 ≤ x ∧ x ≤ total xs - total ys
  · rw [if_pos hc] at h ⊢
    have he : expand (aroundL xs x (x + total ys) ys) = overMs (expand xs) (expand ys) x.toNat (expand ys).length := by
      unfold aroundL overMs
      rw [expand_app, expand_app, expand_cut _ _ v1.1, expand_cut _ _ v1.1]
      simp only [Int.sub_zero, Int.toNat_zero, List.drop_zero]
      rw [List.take_of_length_le (i := (total xs).toNat) (by omega), List.take_length, show (x + total ys).toNat = x.toNat + (expand ys).length by omega]
    have hlen : ∀ r ∈ aroundL xs x (x + total ys) ys, 1 ≤ r.len := by
      intro r hr
      unfold aroundL at hr
      rcases List.mem_append.1 hr with hr | hr
      · exact lens_cut _ _ r hr
      · rcases List.mem_append.1 hr with hr | hr
        · exact u1.1 r hr
        · exact lens_cut _ _ r hr
    have ht : total (aroundL xs x (x + total ys) ys) ≤ total xs := by
      have hp : ∀ l : List Run, (∀ r ∈ l, 1 ≤ r.len) → ((expand l).length : Int) = total l := by
        intro l
        induction l with
        | nil => intro _; rfl
        | cons y l ih =>
          intro h
          have := ih fun r hr => h r (List.mem_cons_of_mem _ hr)
          have := h y List.mem_cons_self
          rw [expand_cons, List.length_append, List.length_replicate, total_cons]; omega
      rw [← hp _ hlen, he, over_len (by omega) (Nat.le_refl _)]
      omega
    have hf := fin_ok ⟨hlen, by omega⟩ (by omega) (fun m hm => by
      rw [he] at hm
      unfold overMs at hm
      rcases List.mem_append.1 hm with hm | hm
      · exact valid_marks h1 m (List.mem_of_mem_take hm)
      · rcases List.mem_append.1 hm with hm | hm
        · exact valid_marks h2 m (List.mem_of_mem_take hm)
        · exact valid_marks h1 m (List.mem_of_mem_drop hm)) h
    obtain ⟨f1, f2, f3, f4, f5⟩ := hf
    rw [f1]
    exact ⟨hc.1, by omega, f2, f3, by rw [← he]; exact f4, f5⟩
  · rw [if_neg hc] at h; simp at h

theorem over_occ {ms ps : List Mk} {a : Nat} (h : a + ps.length ≤ ms.length) : Occ (overMs ms ps a ps.length) ps a := by
  rw [occ_take, over_len h (Nat.le_refl _)]
  refine ⟨?_, h⟩
  unfold overMs
  have e : (ms.take a).length = a := by rw [List.length_take]; omega
  rw [List.take_length, List.take_append, e, show a + ps.length - a = ps.length by omega, List.take_append, List.take_length, Nat.sub_self, List.take_zero, List.append_nil, List.take_of_length_le (by omega)]
  have := List.drop_left (l₁ := ms.take a) (l₂ := ps)
  rw [e] at this
  exact this

end Go.AM.A
