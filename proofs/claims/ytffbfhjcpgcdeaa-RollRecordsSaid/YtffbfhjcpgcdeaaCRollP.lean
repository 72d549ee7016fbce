import Derived.Test.YtffbfhjcpgcdeaaCRollO
set_option linter.unusedVariables false
set_option linter.unusedSimpArgs false
set_option maxRecDepth 20000

namespace Go.AM.C
open Go Go.Proofs

structure Step (ms : List Mk) (l : List Art) (vs : List Int) (n : Nat) (p : Int × Int) (k : Nat) : Prop where
  how : (p.2 = -1 ∧ p.1 = at0 vs (n - 1)) ∨ ∃ a : Art, 0 ≤ p.2 ∧ p.2 < (l.length : Int) ∧ l[p.2.toNat]? = some a ∧ fitA ms a ((n : Int) - a.len) = true ∧ p.1 = at0 vs ((n : Int) - a.len).toNat + a.price
  low : at0 vs (n - 1) ≤ p.1
  best : ∀ j a, j < k → l[j]? = some a → fitA ms a ((n : Int) - a.len) = true → at0 vs ((n : Int) - a.len).toNat + a.price ≤ p.1

theorem best_step (ms : List Mk) (l : List Art) (vs : List Int) (n : Nat) : ∀ k, Step ms l vs n (bestW ms l vs n k) k
  | 0 => ⟨.inl ⟨rfl, rfl⟩, Int.le_refl _, fun j a h => by omega⟩
  | k + 1 => by
    have ih := best_step ms l vs n k
    cases hk : l[k]? with
    | none =>
      rw [bestW, hk]
      refine ⟨ih.how, ih.low, fun j a hj hja hf => ?_⟩
      by_cases e : j = k
      · subst e; rw [hk] at hja; cases hja
      · exact ih.best j a (by omega) hja hf
    | some a =>
      rw [bestW_some hk]
      split
      · rename_i h
        have hkl := (List.getElem?_eq_some_iff.1 hk).1
        refine ⟨.inr ⟨a, by dsimp only; omega, by dsimp only; omega, by dsimp only; rw [Int.toNat_natCast]; exact hk, h.1, rfl⟩, by have := ih.low; have := h.2; dsimp only; omega, fun j b hj hjb hf => ?_⟩
        by_cases e : j = k
        · subst e; rw [hk] at hjb; cases hjb; exact Int.le_refl _
        · have := ih.best j b (by omega) hjb hf
          have := h.2
          dsimp only; omega
      · rename_i h
        refine ⟨ih.how, ih.low, fun j b hj hjb hf => ?_⟩
        by_cases e : j = k
        · subst e
          rw [hk] at hjb; cases hjb
          have : ¬ (bestW ms l vs n j).1 < at0 vs ((n : Int) - a.len).toNat + a.price := fun h' => h ⟨hf, h'⟩
          omega
        · exact ih.best j b (by omega) hjb hf

theorem vals_at {ms : List Mk} {l : List Art} {n m : Nat} (h : n ≤ m) : ∀ {i}, i ≤ n → at0 (valsW ms l m) i = at0 (valsW ms l n) i := by
  intro i hi
  induction m with
  | zero => rw [show n = 0 by omega]
  | succ m ih =>
    by_cases e : n = m + 1
    · rw [e]
    · rw [vals_succ, at0_app (by rw [vals_len]; omega)]
      exact ih (by omega)

theorem last_at {ms : List Mk} {l : List Art} {n m : Nat} (h : n ≤ m) : at0 (lastW ms l m) n = at0 (lastW ms l n) n := by
  induction m with
  | zero => rw [show n = 0 by omega]
  | succ m ih =>
    by_cases e : n = m + 1
    · rw [e]
    · rw [last_succ, at0_app (by rw [last_len]; omega)]
      exact ih (by omega)

theorem step_at {ms : List Mk} {l : List Art} (hl : validA l = 0) {N n : Nat} (h1 : 1 ≤ n) (h : n ≤ N) : Step ms l (valsW ms l N) n (at0 (valsW ms l N) n, at0 (lastW ms l N) n) l.length := by
  obtain ⟨m, rfl⟩ : ∃ m, n = m + 1 := ⟨n - 1, by omega⟩
  have hs := best_step ms l (valsW ms l m) (m + 1) l.length
  have e1 : at0 (valsW ms l N) (m + 1) = (bestW ms l (valsW ms l m) (m + 1) l.length).1 := by
    rw [vals_at h (Nat.le_refl _), vals_succ, at0_mid (by rw [vals_len])]
  have e2 : at0 (lastW ms l N) (m + 1) = (bestW ms l (valsW ms l m) (m + 1) l.length).2 := by
    rw [last_at h, last_succ, at0_mid (by rw [last_len])]
  rw [e1, e2]
  have hv : ∀ i : Nat, i ≤ m → at0 (valsW ms l N) i = at0 (valsW ms l m) i := fun i hi => vals_at (by omega) hi
  have hidx : ∀ a ∈ l, (((m + 1 : Nat) : Int) - a.len).toNat ≤ m := fun a ha => by have := ((validA_len hl).2 a ha).1; omega
  refine ⟨?_, ?_, fun j a hj hja hf => ?_⟩
  · rcases hs.how with ⟨x, y⟩ | ⟨a, x1, x2, x3, x4, x5⟩
    · exact .inl ⟨x, by rw [hv _ (by omega)]; exact y⟩
    · exact .inr ⟨a, x1, x2, x3, x4, by rw [hv _ (hidx a (List.mem_of_getElem? x3))]; exact x5⟩
  · have := hs.low
    rw [hv _ (by omega)]; exact this
  · rw [hv _ (hidx a (List.mem_of_getElem? hja))]
    exact hs.best j a hj hja hf

theorem check_mono {ms : List Mk} {l : List Art} {e e' : Int} (h : e' ≤ e) : ∀ {ps : List (Int × Int)}, checkL ms l e ps = 0 → checkL ms l e' ps = 0
  | [], _ => rfl
  | p :: ps, hc => by
    rw [checkL] at hc ⊢
    split at hc
    · rename_i hf
      rw [if_pos hf]
      split at hc
      · cases hc
      · rw [if_neg (by omega)]; exact hc
    · cases hc

def walkF (l : List Art) (ls : List Int) : Nat → Nat → List (Int × Int)
  | 0, _ => []
  | t + 1, n => if n = 0 then [] else if at0 ls n < 0 then walkF l ls t (n - 1) else ((n : Int) - lenAt l (at0 ls n), at0 ls n) :: walkF l ls t (n - (lenAt l (at0 ls n)).toNat)

theorem walk_zero (l : List Art) (ls : List Int) (t : Nat) : walkF l ls t 0 = [] := by cases t <;> simp [walkF]

theorem walk_ok {ms : List Mk} {l : List Art} (hl : validA l = 0) {N : Nat} (hN : N = ms.length) : ∀ t n : Nat, n ≤ t → n ≤ N → ∀ Q, checkL ms l (n : Int) Q = 0 →
    checkL ms l 0 ((walkF l (lastW ms l N) t n).reverse ++ Q) = 0 ∧ sumP l (walkF l (lastW ms l N) t n) = at0 (valsW ms l N) n ∧ (walkF l (lastW ms l N) t n).length ≤ n
  | 0, n, ht, hn, Q, hQ => by
    have : n = 0 := by omega
    subst this
    have h0 := vals_in hl (ms := ms) N 0 (by omega)
    refine ⟨by simpa [walkF] using hQ, ?_, by simp [walkF]⟩
    have : at0 (valsW ms l N) 0 = 0 := by omega
    rw [this]; simp [walkF, sumP]
  | t + 1, n, ht, hn, Q, hQ => by
    by_cases hz : n = 0
    · subst hz
      have h0 := vals_in hl (ms := ms) N 0 (by omega)
      have : at0 (valsW ms l N) 0 = 0 := by omega
      rw [walk_zero, this]
      exact ⟨by simpa using hQ, by simp [sumP], by simp⟩
    · have hs := step_at hl (ms := ms) (n := n) (N := N) (by omega) hn
      rw [walkF, if_neg hz]
      rcases hs.how with ⟨x, y⟩ | ⟨a, x1, x2, x3, x4, x5⟩
      · dsimp only at x y
        rw [if_pos (by omega)]
        obtain ⟨i1, i2, i3⟩ := walk_ok hl hN t (n - 1) (by omega) (by omega) Q (check_mono (by omega) hQ)
        exact ⟨i1, by rw [i2, y], by omega⟩
      · dsimp only at x1 x2 x3 x5
        rw [if_neg (by omega)]
        have al := (validA_len hl).2 a (List.mem_of_getElem? x3)
        have hla : lenAt l (at0 (lastW ms l N) n) = a.len := by unfold lenAt; rw [x3]
        have hpa : priceAt l (at0 (lastW ms l N) n) = a.price := by unfold priceAt; rw [x3]
        have h9 := x4
        unfold fitA at h9
        simp only [Bool.and_eq_true, decide_eq_true_eq] at h9
        rw [hla]
        have hfm : fitsM ms l ((n : Int) - a.len) (at0 (lastW ms l N) n) = true := by rw [fitsM_some x1 x3]; exact x4
        have hnf : ((n - a.len.toNat : Nat) : Int) = (n : Int) - a.len := by omega
        obtain ⟨i1, i2, i3⟩ := walk_ok hl hN t (n - a.len.toNat) (by omega) (by omega) (((n : Int) - a.len, at0 (lastW ms l N) n) :: Q) (by
          rw [checkL, hnf, if_pos hfm, if_neg (by omega), hla, show (n : Int) - a.len + a.len = n by omega]
          exact hQ)
        refine ⟨by rw [List.reverse_cons, List.append_assoc]; exact i1, ?_, by rw [List.length_cons]; omega⟩
        have hsum : sumP l (((n : Int) - a.len, at0 (lastW ms l N) n) :: walkF l (lastW ms l N) t (n - a.len.toNat)) = priceAt l (at0 (lastW ms l N) n) + sumP l (walkF l (lastW ms l N) t (n - a.len.toNat)) := by simp [sumP]
        rw [hsum, hpa, i2, x5]
        rw [show ((n : Int) - a.len).toNat = n - a.len.toNat by omega]
        omega

theorem sumP_rev (l : List Art) (ps : List (Int × Int)) : sumP l ps.reverse = sumP l ps := by
  unfold sumP; rw [List.map_reverse, List.sum_reverse]

def bestPs (ms : List Mk) (l : List Art) : List (Int × Int) := (walkF l (lastW ms l ms.length) ms.length ms.length).reverse

theorem bestPs_ok {ms : List Mk} {l : List Art} (hl : validA l = 0) : checkL ms l 0 (bestPs ms l) = 0 ∧ sumP l (bestPs ms l) = at0 (valsW ms l ms.length) ms.length ∧ (bestPs ms l).length ≤ ms.length := by
  obtain ⟨a, b, c⟩ := walk_ok hl (ms := ms) rfl ms.length ms.length (Nat.le_refl _) (Nat.le_refl _) [] rfl
  unfold bestPs
  rw [List.append_nil] at a
  exact ⟨a, by rw [sumP_rev]; exact b, by rw [List.length_reverse]; exact c⟩

end Go.AM.C

