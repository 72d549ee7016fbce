/-
Insertion sort as insertion into a sorted list, and stable sorting by small keys (plain).
-/
import Derived.Test.YtbfgifolmpmagaaAmSort
set_option linter.unusedVariables false
set_option linter.unusedSimpArgs false

namespace Go.AM
open Go

section
variable {α : Type} (lt : α → α → Bool)
def insM (x : α) : List α → List α
  | [] => [x]
  | y :: l => if lt x y = true then x :: y :: l else y :: insM x l
def insAll (l : List α) : List α := l.foldl (fun s x => insM lt x s) []
variable {lt}

theorem insM_all {x : α} : ∀ {l : List α}, (∀ y ∈ l, ¬ lt x y = true) → insM lt x l = l ++ [x]
  | [], _ => rfl
  | y :: l, h => by
    rw [insM, if_neg (h y List.mem_cons_self), insM_all fun z hz => h z (List.mem_cons_of_mem _ hz)]
    rfl
theorem insM_snoc {x y : α} (h : lt x y = true) : ∀ l : List α, insM lt x (l ++ [y]) = insM lt x l ++ [y]
  | [] => by simp [insM, h]
  | z :: l => by
    rw [List.cons_append, insM, insM_snoc h l, insM]
    split <;> rfl
theorem insM_mem {x z : α} : ∀ {l : List α}, z ∈ insM lt x l ↔ z = x ∨ z ∈ l
  | [] => by simp [insM]
  | y :: l => by
    rw [insM]
    split
    · simp
    · rw [List.mem_cons, insM_mem, List.mem_cons]
      constructor
      · rintro (h | h | h)
        · exact .inr (.inl h)
        · exact .inl h
        · exact .inr (.inr h)
      · rintro (h | h | h)
        · exact .inr (.inl h)
        · exact .inl h
        · exact .inr (.inr h)
theorem insM_len {x : α} : ∀ l : List α, (insM lt x l).length = l.length + 1
  | [] => rfl
  | y :: l => by
    rw [insM]
    split
    · rfl
    · rw [List.length_cons, insM_len l, List.length_cons]
theorem insM_sorted (asym : ∀ x y, lt x y = true → ¬ lt y x = true) (trans : ∀ x y z, ¬ lt y x = true → ¬ lt z y = true → ¬ lt z x = true) {x : α} :
    ∀ {l : List α}, l.Pairwise (fun a b => ¬ lt b a = true) → (insM lt x l).Pairwise (fun a b => ¬ lt b a = true)
  | [], _ => by simp [insM]
  | y :: l, h => by
    rw [List.pairwise_cons] at h
    rw [insM]
    split
    · rename_i hx
      refine List.pairwise_cons.2 ⟨fun z hz => ?_, List.pairwise_cons.2 h⟩
      rcases List.mem_cons.1 hz with rfl | hz
      · exact asym _ _ hx
      · exact trans x y z (asym _ _ hx) (h.1 z hz)
    · rename_i hx
      refine List.pairwise_cons.2 ⟨fun z hz => ?_, insM_sorted asym trans h.2⟩
      rcases insM_mem.1 hz with rfl | hz
      · exact hx
      · exact h.1 z hz
theorem insAll_snoc (l : List α) (x : α) : insAll lt (l ++ [x]) = insM lt x (insAll lt l) := by simp [insAll]
theorem insAll_sorted (asym : ∀ x y, lt x y = true → ¬ lt y x = true) (trans : ∀ x y z, ¬ lt y x = true → ¬ lt z y = true → ¬ lt z x = true) (l : List α) : (insAll lt l).Pairwise (fun a b => ¬ lt b a = true) := by
  suffices ∀ (l s : List α), s.Pairwise (fun a b => ¬ lt b a = true) → (l.foldl (fun s x => insM lt x s) s).Pairwise (fun a b => ¬ lt b a = true) from this l [] List.Pairwise.nil
  intro l
  induction l with
  | nil => intro s h; exact h
  | cons x l ih => intro s h; exact ih _ (insM_sorted asym trans h)
theorem insAll_len (l : List α) : (insAll lt l).length = l.length := by
  suffices ∀ (l s : List α), (l.foldl (fun s x => insM lt x s) s).length = s.length + l.length by simpa [insAll] using this l []
  intro l
  induction l with
  | nil => intro s; rfl
  | cons x l ih =>
    intro s
    rw [List.foldl_cons, ih, insM_len, List.length_cons]
    omega
theorem bub_ins (trans : ∀ x y z, ¬ lt y x = true → ¬ lt z y = true → ¬ lt z x = true) {x : α} : ∀ (k : Nat) (S T : List α), S.length = k → S.Pairwise (fun a b => ¬ lt b a = true) → bub lt k (S ++ x :: T) = insM lt x S ++ T
  | 0, S, T, hk, _ => by
    obtain rfl := List.length_eq_zero_iff.1 hk
    rfl
  | k + 1, S, T, hk, hs => by
    rcases List.eq_nil_or_concat S with rfl | ⟨S', y, rfl⟩
    · cases hk
    have hk' : S'.length = k := by simpa using hk
    rw [List.concat_eq_append] at hs ⊢
    have gx : (S' ++ [y] ++ x :: T)[k + 1]? = some x := by
      rw [List.getElem?_append_right (by simp; omega)]
      simp [hk']
    have gy : (S' ++ [y] ++ x :: T)[k]? = some y := by
      rw [List.append_assoc, List.getElem?_append_right (by omega), hk']
      simp
    obtain ⟨h1, _, h2⟩ := List.pairwise_append.1 hs
    by_cases h : lt x y = true
    · have e : ((S' ++ [y] ++ x :: T).set (k + 1) y).set k x = S' ++ x :: (y :: T) := by
        subst hk'
        rw [List.append_assoc, List.set_append_right _ _ (by omega), List.set_append_right _ _ (by omega)]
        simp
      rw [bub_step gx gy h, e, bub_ins trans k S' (y :: T) hk' h1, insM_snoc h]
      simp
    · rw [bub_stop gx gy h, insM_all]
      · simp
      · intro z hz
        rcases List.mem_append.1 hz with hz | hz
        · exact trans z y x (h2 z hz y (by simp)) h
        · rw [List.mem_singleton.1 hz]; exact h

theorem isortTo_ins (asym : ∀ x y, lt x y = true → ¬ lt y x = true) (trans : ∀ x y z, ¬ lt y x = true → ¬ lt z y = true → ¬ lt z x = true) (l : List α) :
    ∀ k : Nat, k < l.length → isortTo lt l k = insAll lt (l.take (k + 1)) ++ l.drop (k + 1)
  | 0, hk => by
    cases l with
    | nil => cases hk
    | cons a r => simp [isortTo, insAll, insM]
  | k + 1, hk => by
    have ih := isortTo_ins asym trans l k (by omega)
    have e1 : l.drop (k + 1) = l[k + 1] :: l.drop (k + 2) := List.drop_eq_getElem_cons hk
    show bub lt (k + 1) (isortTo lt l k) = _
    rw [ih, e1, bub_ins trans (k + 1) _ _ (by rw [insAll_len, List.length_take]; omega) (insAll_sorted asym trans _), ← insAll_snoc]
    congr 2
    rw [List.take_succ_eq_append_getElem hk]
theorem isort_ins (asym : ∀ x y, lt x y = true → ¬ lt y x = true) (trans : ∀ x y z, ¬ lt y x = true → ¬ lt z y = true → ¬ lt z x = true) (l : List α) : isort lt l = insAll lt l := by
  unfold isort
  cases l with
  | nil => rfl
  | cons a r =>
    rw [isortTo_ins asym trans (a :: r) _ (by simp), List.length_cons, Nat.add_sub_cancel, List.take_of_length_le (by simp), List.drop_of_length_le (by simp), List.append_nil]
end

section
variable {α : Type} (key : α → Int)
def ltK (x y : α) : Bool := decide (key x < key y)
theorem ltK_asym (x y : α) (h : ltK key x y = true) : ¬ ltK key y x = true := by
  unfold ltK at *
  rw [decide_eq_true_eq] at *
  omega
theorem ltK_trans (x y z : α) (h : ¬ ltK key y x = true) (h' : ¬ ltK key z y = true) : ¬ ltK key z x = true := by
  unfold ltK at *
  rw [decide_eq_true_eq] at *
  omega
variable {key}
end
end Go.AM

