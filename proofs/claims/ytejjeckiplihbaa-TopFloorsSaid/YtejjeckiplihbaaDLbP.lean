/-
The lower bound (plain): sums over lists, the best of the sorted rolls.
-/
import Derived.Test.YtejjeckiplihbaaDNextP
import Derived.Test.YtejjeckiplihbaaAmSort
set_option linter.unusedSimpArgs false
set_option maxRecDepth 20000

namespace Go.AM.D
open Go

def sumF {α : Type} (f : α → Int) : List α → Int
  | [] => 0
  | x :: l => f x + sumF f l
theorem sumF_append {α : Type} (f : α → Int) : ∀ a b : List α, sumF f (a ++ b) = sumF f a + sumF f b
  | [], b => by simp [sumF]
  | x :: a, b => by
    rw [List.cons_append, sumF, sumF, sumF_append f a b]
    omega
theorem sumF_perm {α : Type} (f : α → Int) {a b : List α} (h : a.Perm b) : sumF f a = sumF f b := by
  induction h with
  | nil => rfl
  | cons x _ ih => rw [sumF, sumF, ih]
  | swap x y l => simp only [sumF]; omega
  | trans _ _ h1 h2 => rw [h1, h2]
theorem sumF_zero {α : Type} : ∀ l : List α, sumF (fun _ => (0 : Int)) l = 0
  | [] => rfl
  | x :: l => by rw [sumF, sumF_zero l]; rfl
theorem sumF_le {α : Type} {f g : α → Int} : ∀ l : List α, (∀ x ∈ l, f x ≤ g x) → sumF f l ≤ sumF g l
  | [], _ => Int.le_refl _
  | x :: l, h => by
    have h1 := h x List.mem_cons_self
    have h2 := sumF_le l fun y hy => h y (List.mem_cons_of_mem _ hy)
    simp only [sumF]
    omega
theorem sumF_congr {α : Type} {f g : α → Int} : ∀ l : List α, (∀ x ∈ l, f x = g x) → sumF f l = sumF g l
  | [], _ => rfl
  | x :: l, h => by
    have h1 := h x List.mem_cons_self
    have h2 := sumF_congr l fun y hy => h y (List.mem_cons_of_mem _ hy)
    simp only [sumF]
    omega
theorem sumF_filter {α : Type} {f : α → Int} (p : α → Bool) : ∀ l : List α, (∀ x ∈ l, 0 ≤ f x) → sumF f (l.filter p) ≤ sumF f l
  | [], _ => Int.le_refl _
  | x :: l, h => by
    have h1 := h x List.mem_cons_self
    have h2 := sumF_filter p l fun y hy => h y (List.mem_cons_of_mem _ hy)
    rw [List.filter_cons]
    split <;> simp only [sumF] <;> omega
theorem sumF_map {α β : Type} (f : β → Int) (g : α → β) : ∀ l : List α, sumF f (l.map g) = sumF (fun x => f (g x)) l
  | [] => rfl
  | x :: l => by rw [List.map_cons, sumF, sumF, sumF_map f g l]
theorem sumF_add {α : Type} (f g : α → Int) : ∀ l : List α, sumF (fun x => f x + g x) l = sumF f l + sumF g l
  | [] => rfl
  | x :: l => by
    have := sumF_add f g l
    simp only [sumF]
    omega
theorem sumF_mul {α : Type} (v : Int) (f : α → Int) : ∀ l : List α, sumF (fun x => v * f x) l = v * sumF f l
  | [] => by simp [sumF]
  | x :: l => by
    have := sumF_mul v f l
    simp only [sumF]
    rw [this, Int.mul_add]

def indS (t : Int) (x : Roll) : Int := if x.sh = t then 1 else 0
def lenS (t : Int) (x : Roll) : Int := if x.sh = t then x.l else 0
def cntR (t : Int) (l : List Roll) : Int := sumF (indS t) l
def lenR (t : Int) (l : List Roll) : Int := sumF (lenS t) l
theorem ind_in (t : Int) (x : Roll) : 0 ≤ indS t x ∧ indS t x ≤ 1 := by unfold indS; split <;> omega
theorem cnt_nonneg (t : Int) : ∀ l, 0 ≤ cntR t l
  | [] => Int.le_refl _
  | x :: l => by
    have := cnt_nonneg t l
    have := ind_in t x
    unfold cntR at *
    simp only [sumF]
    omega
theorem cnt_snoc (t : Int) (p : List Roll) (x : Roll) : cntR t (p ++ [x]) = cntR t p + indS t x := by
  unfold cntR; rw [sumF_append]; simp [sumF]
theorem len_snoc (t : Int) (p : List Roll) (x : Roll) : lenR t (p ++ [x]) = lenR t p + lenS t x := by
  unfold lenR; rw [sumF_append]; simp [sumF]
/-- A prefix that has n rolls of a shade. -/
theorem prefix_n {t : Int} {n : Int} (hn : 1 ≤ n) : ∀ (q p : List Roll), cntR t p < n → n ≤ cntR t (p ++ q) → ∃ a x b, p ++ q = a ++ x :: b ∧ x.sh = t ∧ cntR t (a ++ [x]) = n
  | [], p, h1, h2 => by rw [List.append_nil] at h2; omega
  | x :: q, p, h1, h2 => by
    have hc := cnt_snoc t p x
    have hi := ind_in t x
    by_cases e : cntR t (p ++ [x]) = n
    · refine ⟨p, x, q, rfl, ?_, e⟩
      unfold indS at hc
      split at hc
      · assumption
      · omega
    · have := prefix_n (t := t) hn q (p ++ [x]) (by omega) (by rw [List.append_assoc]; exact h2)
      rw [List.append_assoc] at this
      exact this

/-- The order of the rolls: by shade, longer ones first. -/
def ltR (x y : Roll) : Bool := decide (x.sh < y.sh) || (decide (x.sh = y.sh) && decide (y.l < x.l))
theorem ltR_iff {x y : Roll} : ltR x y = true ↔ x.sh < y.sh ∨ x.sh = y.sh ∧ y.l < x.l := by
  unfold ltR
  simp
def Sorted (L : List Roll) : Prop := L.Pairwise fun x y => ¬ ltR y x = true
theorem sorted_isort (l : List Roll) : Sorted (isort ltR l) := by
  apply isort_pairwise
  · intro x y h1 h2
    rw [ltR_iff] at h1 h2
    omega
  · intro x y z h1 h2
    rw [ltR_iff] at *
    omega
/-- Among rolls of a shade the first n of the sorted ones are the longest. -/
theorem top_n {t : Int} {n need : Int} {L a b : List Roll} {x : Roll} (hs : Sorted L) (hL : L = a ++ x :: b) (hx : x.sh = t) (hc : cntR t (a ++ [x]) = n)
    {S : List Roll} (hS : sumF (fun y => if y.sh = t then max (y.l - x.l) 0 else 0) S ≤ sumF (fun y => if y.sh = t then max (y.l - x.l) 0 else 0) L) (hSt : ∀ y ∈ S, y.sh = t) (hSn : (S.length : Int) = n) (hneed : need ≤ sumF (fun y => y.l) S) : need ≤ lenR t (a ++ [x]) := by
  have e1 : sumF (fun y => y.l) S ≤ sumF (fun y => x.l + (if y.sh = t then max (y.l - x.l) 0 else 0)) S := sumF_le S fun y hy => by
    rw [if_pos (hSt y hy)]
    omega
  rw [sumF_add] at e1
  have e2 : ∀ l : List Roll, sumF (fun _ => x.l) l = x.l * l.length := fun l => by
    induction l with
    | nil => simp [sumF]
    | cons y l ih => rw [sumF, ih, List.length_cons, Int.natCast_add, Int.mul_add, Int.natCast_one, Int.mul_one]; omega
  rw [e2, hSn] at e1
  have e3 : sumF (fun y => if y.sh = t then max (y.l - x.l) 0 else 0) L = sumF (fun y => if y.sh = t then max (y.l - x.l) 0 else 0) (a ++ [x]) := by
    have hz : sumF (fun y => if y.sh = t then max (y.l - x.l) 0 else 0) b = 0 := by
      have : sumF (fun y => if y.sh = t then max (y.l - x.l) 0 else 0) b = sumF (fun _ => (0 : Int)) b := sumF_congr b fun y hy => by
        split
        · rename_i ht
          unfold Sorted at hs
          rw [hL, List.pairwise_append] at hs
          have h1 := (List.pairwise_cons.1 hs.2.1).1 y hy
          rw [ltR_iff] at h1
          omega
        · rfl
      rw [this]
      exact sumF_zero b
    rw [hL, show a ++ x :: b = (a ++ [x]) ++ b by simp, sumF_append, hz, Int.add_zero]
  have e4 : sumF (fun y => if y.sh = t then max (y.l - x.l) 0 else 0) (a ++ [x]) = lenR t (a ++ [x]) - x.l * cntR t (a ++ [x]) := by
    have : lenR t (a ++ [x]) = sumF (fun y => (if y.sh = t then max (y.l - x.l) 0 else 0) + x.l * indS t y) (a ++ [x]) := by
      unfold lenR
      apply sumF_congr
      intro y hy
      unfold lenS indS
      split
      · rename_i ht
        have h0 : x.l ≤ y.l := by
          rcases List.mem_append.1 hy with h | h
          · unfold Sorted at hs
            rw [hL, List.pairwise_append] at hs
            have h1 := hs.2.2 y h x List.mem_cons_self
            rw [ltR_iff] at h1
            omega
          · rw [List.mem_singleton.1 h]
            exact Int.le_refl _
        omega
      · omega
    rw [this, sumF_add, sumF_mul]
    unfold cntR
    omega
  rw [e3, e4, hc] at hS
  omega

structure Lb where
  best : Int
  count : Int
  sum : Int
/-- One roll more of the sorted ones. -/
def lbCount (prev : Option Int) (s : Lb) (x : Roll) : Int := (match prev with | some t => if x.sh = t then s.count else 0 | none => s.count) + 1
def lbSum (prev : Option Int) (s : Lb) (x : Roll) : Int := (match prev with | some t => if x.sh = t then s.sum else 0 | none => s.sum) + x.l
def lbStep (need : Int) (prev : Option Int) (s : Lb) (x : Roll) : Lb :=
  ⟨if need ≤ lbSum prev s x ∧ (s.best = 0 ∨ lbCount prev s x < s.best) then lbCount prev s x else s.best, lbCount prev s x, lbSum prev s x⟩
def lastS (p : List Roll) : Option Int := p.getLast?.map (·.sh)
def lbGo (need : Int) : List Roll → List Roll → Lb → Lb
  | _, [], s => s
  | pre, x :: l, s => lbGo need (pre ++ [x]) l (lbStep need (lastS pre) s x)
def lbTo (need : Int) (l : List Roll) : Lb := lbGo need [] l ⟨0, 0, 0⟩
theorem lbGo_snoc (need : Int) (x : Roll) : ∀ (l pre : List Roll) (s : Lb), lbGo need pre (l ++ [x]) s = lbStep need (lastS (pre ++ l)) (lbGo need pre l s) x
  | [], pre, s => by simp [lbGo]
  | y :: l, pre, s => by
    show lbGo need (pre ++ [y]) (l ++ [x]) _ = _
    rw [lbGo_snoc need x l]
    simp [lbGo]
theorem lbTo_snoc (need : Int) (p : List Roll) (x : Roll) : lbTo need (p ++ [x]) = lbStep need (lastS p) (lbTo need p) x := by
  unfold lbTo
  rw [lbGo_snoc]
  simp
theorem lastS_snoc (p : List Roll) (x : Roll) : lastS (p ++ [x]) = some x.sh := by simp [lastS]

structure LbOk (need : Int) (p : List Roll) (s : Lb) : Prop where
  cnt : ∀ t, lastS p = some t → s.count = cntR t p ∧ s.sum = lenR t p
  nil : p = [] → s.count = 0 ∧ s.sum = 0
  pos : 0 ≤ s.best
  hit : ∀ a x b, p = a ++ x :: b → need ≤ lenR x.sh (a ++ [x]) → 0 < s.best ∧ s.best ≤ cntR x.sh (a ++ [x])
  own : 0 < s.best → ∃ a x b, p = a ++ x :: b ∧ need ≤ lenR x.sh (a ++ [x]) ∧ s.best = cntR x.sh (a ++ [x])
theorem zero_of_less {t : Int} {p : List Roll} (h : ∀ y ∈ p, ¬ y.sh = t) : cntR t p = 0 ∧ lenR t p = 0 := by
  unfold cntR lenR
  constructor
  · rw [sumF_congr (g := fun _ => 0) p (fun y hy => by unfold indS; rw [if_neg (h y hy)]), sumF_zero]
  · rw [sumF_congr (g := fun _ => 0) p (fun y hy => by unfold lenS; rw [if_neg (h y hy)]), sumF_zero]
theorem lb_ok (need : Int) : ∀ (n : Nat) (p : List Roll), p.length = n → Sorted p → LbOk need p (lbTo need p)
  | 0, p, hn, _ => by
    obtain rfl : p = [] := List.length_eq_zero_iff.1 hn
    exact ⟨(fun t h => by cases h), (fun _ => ⟨rfl, rfl⟩), Int.le_refl _, (fun a x b h => by simp at h), (fun h => absurd h (show ¬ (0 : Int) < 0 by decide))⟩
  | n + 1, p, hn, hs => by
    obtain ⟨q, x, rfl⟩ : ∃ q x, p = q ++ [x] := ⟨p.dropLast, p.getLast (by intro e; subst e; cases hn), (List.dropLast_concat_getLast _).symm⟩
    have hq : q.length = n := by simpa using hn
    have hsq : Sorted q := by unfold Sorted at *; exact (List.pairwise_append.1 hs).1
    have ih := lb_ok need n q hq hsq
    rw [lbTo_snoc]
    generalize lbTo need q = s at *
    have hc : lbCount (lastS q) s x = cntR x.sh (q ++ [x]) ∧ lbSum (lastS q) s x = lenR x.sh (q ++ [x]) := by
      rw [cnt_snoc, len_snoc]
      have i1 : indS x.sh x = 1 := if_pos rfl
      have i2 : lenS x.sh x = x.l := if_pos rfl
      rw [i1, i2]
      unfold lbCount lbSum
      cases hl : lastS q with
      | none =>
        have : q = [] := by
          unfold lastS at hl
          simpa using hl
        have h0 := ih.nil this
        subst this
        dsimp only
        rw [h0.1, h0.2]
        exact ⟨rfl, rfl⟩
      | some t =>
        have h0 := ih.cnt t hl
        dsimp only
        by_cases e : x.sh = t
        · rw [if_pos e, if_pos e, h0.1, h0.2, e]
          exact ⟨rfl, rfl⟩
        · rw [if_neg e, if_neg e]
          have hz := zero_of_less (t := x.sh) (p := q) (fun y hy he => by
            obtain ⟨q', z, rfl⟩ : ∃ q' z, q = q' ++ [z] := ⟨q.dropLast, q.getLast (by intro e; subst e; cases hy), (List.dropLast_concat_getLast _).symm⟩
            rw [lastS_snoc] at hl
            have hzt := Option.some.inj hl
            unfold Sorted at hs hsq
            have h1 := (List.pairwise_append.1 hs).2.2 z (by simp) x (by simp)
            rcases List.mem_append.1 hy with h | h
            · have h2 := (List.pairwise_append.1 hsq).2.2 y h z (by simp)
              rw [ltR_iff] at h1 h2
              omega
            · rw [List.mem_singleton.1 h] at he
              omega)
          rw [hz.1, hz.2]
          exact ⟨rfl, rfl⟩
    have hcp : 0 < cntR x.sh (q ++ [x]) := by
      rw [cnt_snoc, show indS x.sh x = 1 from if_pos rfl]
      have := cnt_nonneg x.sh q
      omega
    unfold lbStep
    rw [hc.1, hc.2]
    refine ⟨fun t h => ?_, fun h => by simp at h, ?_, fun a y b h hn' => ?_, fun h => ?_⟩
    · rw [lastS_snoc] at h
      cases h
      exact ⟨rfl, rfl⟩
    · dsimp only
      have := ih.pos
      split <;> omega
    · dsimp only
      rcases List.eq_nil_or_concat b with rfl | ⟨b', z, rfl⟩
      · have e := List.append_inj' h rfl
        obtain ⟨rfl, e2⟩ := e
        cases e2
        have := ih.pos
        split
        · omega
        · rename_i hh
          have : ¬ (s.best = 0 ∨ cntR x.sh (q ++ [x]) < s.best) := fun g => hh ⟨hn', g⟩
          omega
      · have h' : q ++ [x] = (a ++ y :: b') ++ [z] := by rw [h]; simp
        obtain ⟨rfl, e2⟩ := List.append_inj' h' rfl
        have := ih.hit a y b' rfl hn'
        split
        · rename_i hh
          omega
        · exact this
    · dsimp only at h ⊢
      split
      · rename_i hh
        exact ⟨q, x, [], rfl, hh.1, rfl⟩
      · rename_i hh
        rw [if_neg hh] at h
        obtain ⟨a, y, b, e, h1, h2⟩ := ih.own h
        exact ⟨a, y, b ++ [x], by rw [e]; simp, h1, h2⟩
end Go.AM.D
