/-
Bands as lists of marks, place by place: what joining, cutting and comparing runs mean.
-/
import Derived.Test.YtdipdaajicceoaaABandG
set_option linter.unusedSimpArgs false
namespace Go.AM.A
open Go Go.Proofs

structure Mk where
  thick : Int
  shade : Int
  flaw : Int
  deriving DecidableEq

def Run.mk' (r : Run) : Mk := ⟨r.thick, r.shade, r.flaw⟩
def runOf (n : Int) (m : Mk) : Run := ⟨n, m.thick, m.shade, m.flaw⟩
def expand (rs : List Run) : List Mk := rs.flatMap fun r => List.replicate r.len.toNat r.mk'

theorem same_iff (r s : Run) : same r s = decide (r.mk' = s.mk') := by
  cases r; cases s
  rw [Bool.eq_iff_iff]
  simp [same, Run.mk']

theorem expand_nil : expand [] = [] := rfl
theorem expand_cons (r : Run) (rs : List Run) : expand (r :: rs) = List.replicate r.len.toNat r.mk' ++ expand rs := rfl
theorem expand_app (rs qs : List Run) : expand (rs ++ qs) = expand rs ++ expand qs := by simp [expand]

def pushM (acc : List Run) (m : Mk) : List Run := push acc (runOf 1 m)
def rle (ms : List Mk) : List Run := ms.foldl pushM []

theorem mk_runOf (n : Int) (m : Mk) : (runOf n m).mk' = m := rfl
theorem runOf_mk (r : Run) : runOf r.len r.mk' = r := rfl

theorem push_nil (r : Run) : push [] r = [r] := rfl
theorem push_same (l : List Run) (s r : Run) (h : s.mk' = r.mk') : push (l ++ [s]) r = l ++ [merge s r] := by
  unfold push
  simp [same_iff, h, List.set_append]
theorem push_other (l : List Run) (s r : Run) (h : s.mk' ≠ r.mk') : push (l ++ [s]) r = l ++ [s, r] := by
  unfold push
  simp [same_iff, h]

/-- All lengths are from 1 to B. -/
def Lens (B : Int) (rs : List Run) : Prop := ∀ r ∈ rs, 1 ≤ r.len ∧ r.len ≤ B

theorem snoc_cases {α : Type} (l : List α) : l = [] ∨ ∃ i x, l = i ++ [x] := by
  rcases List.eq_nil_or_concat l with rfl | ⟨i, x, rfl⟩
  · exact .inl rfl
  · exact .inr ⟨i, x, by simp⟩

theorem push_lens {B C : Int} {acc : List Run} {r : Run} (h : Lens B acc) (hr : 1 ≤ r.len) (hB : 0 ≤ B) (hC : B + r.len ≤ C) (hm : C ≤ 1000000000000) : Lens C (push acc r) := by
  rcases snoc_cases acc with rfl | ⟨i, s, rfl⟩
  · rw [push_nil]
    intro q hq
    simp only [List.mem_singleton] at hq
    subst hq
    exact ⟨hr, by omega⟩
  · have hs := h s (by simp)
    by_cases e : s.mk' = r.mk'
    · rw [push_same _ _ _ e]
      intro q hq
      rcases List.mem_append.1 hq with hq | hq
      · have := h q (by simp [hq]); omega
      · simp only [List.mem_singleton] at hq
        subst hq
        have : IntKind.i64.wrap (s.len + r.len) = s.len + r.len := wrap_in (by omega)
        simp only [merge, this]
        omega
    · rw [push_other _ _ _ e]
      intro q hq
      simp only [List.mem_append, List.mem_cons, List.not_mem_nil, or_false] at hq
      rcases hq with hq | rfl | rfl
      · have := h q (by simp [hq]); omega
      · omega
      · omega

theorem push_expand {B : Int} {acc : List Run} {r : Run} (h : Lens B acc) (hr : 1 ≤ r.len) (hm : B + r.len ≤ 1000000000000) : expand (push acc r) = expand acc ++ List.replicate r.len.toNat r.mk' := by
  rcases snoc_cases acc with rfl | ⟨i, s, rfl⟩
  · simp [push_nil, expand]
  · have hs := h s (by simp)
    by_cases e : s.mk' = r.mk'
    · rw [push_same _ _ _ e]
      have hw : IntKind.i64.wrap (s.len + r.len) = s.len + r.len := wrap_in (by omega)
      have : (merge s r).mk' = s.mk' := rfl
      simp only [expand_app, expand_cons, expand_nil, List.append_nil, this, List.append_assoc]
      congr 1
      rw [← e, List.replicate_append_replicate]
      congr 1
      simp only [merge, hw]
      omega
    · rw [push_other _ _ _ e]
      simp [expand_app, expand_cons, expand_nil]

/-- Neighbors differ. -/
def Normal : List Run → Prop
  | [] => True
  | [_] => True
  | r :: s :: l => r.mk' ≠ s.mk' ∧ Normal (s :: l)

theorem normal_snoc : ∀ (l : List Run) (s r : Run), Normal (l ++ [s]) → s.mk' ≠ r.mk' → Normal (l ++ [s, r])
  | [], s, r, _, h => ⟨h, trivial⟩
  | [x], s, r, hn, h => ⟨hn.1, h, trivial⟩
  | x :: y :: l, s, r, hn, h => ⟨hn.1, normal_snoc (y :: l) s r hn.2 h⟩

theorem normal_last : ∀ (l : List Run) (s r : Run), Normal (l ++ [s]) → s.mk' = r.mk' → Normal (l ++ [r])
  | [], _, _, _, _ => trivial
  | [x], s, r, hn, h => ⟨by rw [← h]; exact hn.1, trivial⟩
  | x :: y :: l, s, r, hn, h => ⟨hn.1, normal_last (y :: l) s r hn.2 h⟩

theorem push_normal {acc : List Run} {r : Run} (h : Normal acc) : Normal (push acc r) := by
  rcases snoc_cases acc with rfl | ⟨i, s, rfl⟩
  · exact trivial
  · by_cases e : s.mk' = r.mk'
    · rw [push_same _ _ _ e]
      exact normal_last i s _ h rfl
    · rw [push_other _ _ _ e]
      exact normal_snoc i s r h e

theorem snoc_ind {α : Type} {P : List α → Prop} (h0 : P []) (h1 : ∀ l x, P l → P (l ++ [x])) (l : List α) : P l := by
  have : ∀ (n : Nat) (l : List α), l.length = n → P l := by
    intro n
    induction n with
    | zero => intro l hl; rw [List.eq_nil_of_length_eq_zero hl]; exact h0
    | succ n ih =>
      intro l hl
      rcases snoc_cases l with rfl | ⟨i, x, rfl⟩
      · simp at hl
      · exact h1 i x (ih i (by simpa using hl))
  exact this l.length l rfl

theorem rle_snoc (ms : List Mk) (m : Mk) : rle (ms ++ [m]) = push (rle ms) (runOf 1 m) := by simp [rle, pushM]

theorem rle_ok (ms : List Mk) (h : ms.length ≤ 100000000000) : Lens ms.length (rle ms) ∧ expand (rle ms) = ms ∧ Normal (rle ms) := by
  induction ms using snoc_ind with
  | h0 => exact ⟨fun r hr => by simp [rle] at hr, rfl, trivial⟩
  | h1 ms m ih =>
    simp only [List.length_append, List.length_cons, List.length_nil] at h ⊢
    obtain ⟨h1, h2, h3⟩ := ih (by omega)
    rw [rle_snoc]
    refine ⟨push_lens h1 (by simp [runOf]) (by omega) (by simp [runOf]) (by omega), ?_, push_normal h3⟩
    rw [push_expand h1 (by simp [runOf]) (by simp [runOf]; omega), h2]
    rfl

theorem push_rep (m : Mk) : ∀ (n : Nat) {acc : List Run} {B : Int}, Lens B acc → 0 ≤ B → B + (n + 1 : Nat) ≤ 100000000000 → (List.replicate (n + 1) m).foldl pushM acc = push acc (runOf ((n + 1 : Nat) : Int) m)
  | 0, acc, B, _, _, _ => rfl
  | n + 1, acc, B, h, hB, hn => by
    rw [List.replicate_succ', List.foldl_append, push_rep m n h hB (by omega)]
    simp only [List.foldl_cons, List.foldl_nil, pushM]
    rcases snoc_cases acc with rfl | ⟨i, s, rfl⟩
    · rw [push_nil, push_nil]
      rw [show [runOf ((n + 1 : Nat) : Int) m] = [] ++ [runOf ((n + 1 : Nat) : Int) m] from rfl, push_same _ _ _ (show (runOf ((n + 1 : Nat) : Int) m).mk' = (runOf 1 m).mk' from rfl)]
      have : IntKind.i64.wrap (((n + 1 : Nat) : Int) + 1) = ((n + 1 + 1 : Nat) : Int) := by rw [wrap_in (by omega)]; omega
      simp only [Int.natCast_add, Int.natCast_one] at this
      simp [merge, runOf, this]
    · have hs := h s (by simp)
      by_cases e : s.mk' = m
      · rw [push_same _ _ _ (by simpa [mk_runOf] using e), push_same _ _ _ (show (merge s (runOf ((n + 1 : Nat) : Int) m)).mk' = (runOf 1 m).mk' from e), push_same _ _ _ (by simpa [mk_runOf] using e)]
        have h1 : IntKind.i64.wrap (s.len + ((n + 1 : Nat) : Int)) = s.len + ((n + 1 : Nat) : Int) := wrap_in (by omega)
        have h2 : IntKind.i64.wrap (s.len + ((n + 1 : Nat) : Int) + 1) = s.len + ((n + 1 : Nat) : Int) + 1 := wrap_in (by omega)
        have h3 : IntKind.i64.wrap (s.len + ((n + 1 + 1 : Nat) : Int)) = s.len + ((n + 1 : Nat) : Int) + 1 := by rw [wrap_in (by omega)]; omega
        simp [merge, runOf] at h1 h2 h3 ⊢
        rw [h1, h2, h3]
      · have e1 : s.mk' ≠ (runOf ((n + 1 : Nat) : Int) m).mk' := by simpa [mk_runOf] using e
        have e2 : s.mk' ≠ (runOf ((n + 1 + 1 : Nat) : Int) m).mk' := by simpa [mk_runOf] using e
        rw [push_other _ _ _ e1, push_other _ _ _ e2]
        rw [show i ++ [s, runOf ((n + 1 : Nat) : Int) m] = (i ++ [s]) ++ [runOf ((n + 1 : Nat) : Int) m] by simp, push_same _ _ _ (show (runOf ((n + 1 : Nat) : Int) m).mk' = (runOf 1 m).mk' from rfl)]
        have : IntKind.i64.wrap (((n + 1 : Nat) : Int) + 1) = ((n + 1 + 1 : Nat) : Int) := by rw [wrap_in (by omega)]; omega
        simp only [Int.natCast_add, Int.natCast_one] at this
        simp [merge, runOf, this]

def total (rs : List Run) : Int := (rs.map Run.len).sum

theorem total_cons (r : Run) (rs : List Run) : total (r :: rs) = r.len + total rs := by simp [total]
theorem total_app (rs qs : List Run) : total (rs ++ qs) = total rs + total qs := by simp [total]
theorem total_nil : total [] = 0 := rfl

theorem total_nonneg {B : Int} {rs : List Run} (h : Lens B rs) : 0 ≤ total rs := by
  induction rs with
  | nil => exact Int.le_refl _
  | cons r rs ih =>
    have := ih fun q hq => h q (List.mem_cons_of_mem _ hq)
    have := h r List.mem_cons_self
    rw [total_cons]; omega

theorem expand_length {B : Int} {rs : List Run} (h : Lens B rs) : ((expand rs).length : Int) = total rs := by
  induction rs with
  | nil => rfl
  | cons r rs ih =>
    have h1 := ih fun q hq => h q (List.mem_cons_of_mem _ hq)
    have h2 := h r List.mem_cons_self
    rw [expand_cons, List.length_append, List.length_replicate, total_cons]
    omega

theorem joined_acc {rs : List Run} : ∀ {acc : List Run} {B : Int}, Lens B acc → 0 ≤ B → (∀ r ∈ rs, 1 ≤ r.len) → B + total rs ≤ 10000000000 → rs.foldl push acc = (expand rs).foldl pushM acc := by
  induction rs with
  | nil => intro acc B _ _ _ _; rfl
  | cons r rs ih =>
    intro acc B h hB hr ht
    have h1 := hr r List.mem_cons_self
    rw [total_cons] at ht
    have h0 : 0 ≤ total rs := total_nonneg (B := total rs + 10000000000) (fun q hq => ⟨hr q (List.mem_cons_of_mem _ hq), by
      have : ∀ (l : List Run) (q : Run), (∀ r ∈ l, 1 ≤ r.len) → q ∈ l → q.len ≤ total l := by
        intro l
        induction l with
        | nil => intro q _ hq; cases hq
        | cons x l ih =>
          intro q hl hq
          have hx := hl x List.mem_cons_self
          have hnn : 0 ≤ total l := by
            clear ih hq
            induction l with
            | nil => exact Int.le_refl _
            | cons y l ih2 =>
              have := ih2 fun z hz => hl z (by rcases List.mem_cons.1 hz with rfl | hz; exact List.mem_cons_self; exact List.mem_cons_of_mem _ (List.mem_cons_of_mem _ hz))
              have := hl y (List.mem_cons_of_mem _ List.mem_cons_self)
              rw [total_cons]; omega
          rw [total_cons]
          rcases List.mem_cons.1 hq with rfl | hq
          · omega
          · have := ih q (fun z hz => hl z (List.mem_cons_of_mem _ hz)) hq; omega
      have := this rs q (fun z hz => hr z (List.mem_cons_of_mem _ hz)) hq
      omega⟩)
    rw [List.foldl_cons, expand_cons, List.foldl_append]
    obtain ⟨n, hn⟩ : ∃ n : Nat, r.len = ((n + 1 : Nat) : Int) := ⟨r.len.toNat - 1, by omega⟩
    have hrn : r.len.toNat = n + 1 := by omega
    rw [hrn, push_rep r.mk' n h hB (by omega), ← hn, runOf_mk]
    exact ih (push_lens h h1 hB (Int.le_refl _) (by omega)) (by omega) (fun q hq => hr q (List.mem_cons_of_mem _ hq)) (by omega)

theorem joined_rle {rs : List Run} (hr : ∀ r ∈ rs, 1 ≤ r.len) (ht : total rs ≤ 10000000000) : joinedL rs = rle (expand rs) :=
  joined_acc (B := 0) (fun r h => by cases h) (Int.le_refl _) hr (by omega)

theorem expand_pos {rs : List Run} : expand (rs.filter fun r => r.len ≠ 0) = expand rs := by
  induction rs with
  | nil => rfl
  | cons r rs ih =>
    by_cases h : r.len = 0
    · rw [List.filter_cons_of_neg (by simp [h]), ih, expand_cons, h]; rfl
    · rw [List.filter_cons_of_pos (by simp [h]), expand_cons, ih, expand_cons]

theorem joinR_filter (rs : List Run) : joinR rs = joinedL (rs.filter fun r => r.len ≠ 0) := by
  unfold joinR joinedL
  have : ∀ acc, rs.foldl pushR acc = (rs.filter fun r => r.len ≠ 0).foldl push acc := by
    induction rs with
    | nil => intro acc; rfl
    | cons r rs ih =>
      intro acc
      by_cases h : r.len = 0
      · simp [h, pushR, ih]
      · simp [h, pushR, ih]
  exact this []

theorem normal_head_ne {r : Run} {rs : List Run} {B : Int} (h : Normal (r :: rs)) (hl : Lens B rs) : (expand rs).head? ≠ some r.mk' := by
  cases rs with
  | nil => simp [expand]
  | cons s rs =>
    have := hl s List.mem_cons_self
    obtain ⟨n, hn⟩ : ∃ n, s.len.toNat = n + 1 := ⟨s.len.toNat - 1, by omega⟩
    rw [expand_cons, hn, List.replicate_succ]
    simp only [List.cons_append, List.head?_cons, ne_eq, Option.some.injEq]
    exact fun e => h.1 e.symm

theorem normal_tail {r : Run} {rs : List Run} (h : Normal (r :: rs)) : Normal rs := by
  cases rs with
  | nil => trivial
  | cons s rs => exact h.2

/-- How many first marks are the same. -/
def cpl : List Mk → List Mk → Nat
  | a :: x, b :: y => if a = b then cpl x y + 1 else 0
  | _, _ => 0

theorem cpl_app (l x y : List Mk) : cpl (l ++ x) (l ++ y) = l.length + cpl x y := by
  induction l with
  | nil => simp
  | cons a l ih => simp [cpl, ih]; omega

theorem cpl_self (l : List Mk) : cpl l l = l.length := by
  have := cpl_app l [] []
  simpa [cpl] using this

theorem cpl_ne {x y : List Mk} (h : x.head? ≠ y.head? ∨ x = [] ∨ y = []) : cpl x y = 0 := by
  unfold cpl
  split
  · rename_i a x b y
    rcases h with h | h | h
    · rw [if_neg fun e => h (by simp [e])]
    · cases h
    · cases h
  · rfl

theorem cpl_step {r s : Run} {x y : List Run} {B C : Int} (hr : Lens B (r :: x)) (hs : Lens C (s :: y)) (nx : Normal (r :: x)) (ny : Normal (s :: y)) :
    (cpl (expand (r :: x)) (expand (s :: y)) : Int) = if r.mk' ≠ s.mk' then 0 else if r.len = s.len then r.len + cpl (expand x) (expand y) else min r.len s.len := by
  have h1 := hr r List.mem_cons_self
  have h2 := hs s List.mem_cons_self
  have hx : Lens B x := fun q hq => hr q (List.mem_cons_of_mem _ hq)
  have hy : Lens C y := fun q hq => hs q (List.mem_cons_of_mem _ hq)
  obtain ⟨n, hn⟩ : ∃ n, r.len.toNat = n + 1 := ⟨r.len.toNat - 1, by omega⟩
  obtain ⟨k, hk⟩ : ∃ k, s.len.toNat = k + 1 := ⟨s.len.toNat - 1, by omega⟩
  by_cases e : r.mk' = s.mk'
  · rw [if_neg (by simpa using e)]
    rw [expand_cons, expand_cons, ← e]
    by_cases el : r.len = s.len
    · rw [if_pos el, ← el, cpl_app, List.length_replicate]
      omega
    · rw [if_neg el]
      rcases Nat.lt_or_ge r.len.toNat s.len.toNat with hlt | hge
      · have h3 : s.len.toNat = r.len.toNat + (s.len.toNat - r.len.toNat) := by omega
        rw [h3, ← List.replicate_append_replicate, List.append_assoc, cpl_app, List.length_replicate, cpl_ne]
        · omega
        · left
          obtain ⟨j, hj⟩ : ∃ j, s.len.toNat - r.len.toNat = j + 1 := ⟨s.len.toNat - r.len.toNat - 1, by omega⟩
          rw [hj, List.replicate_succ]
          exact normal_head_ne nx hx
      · have h3 : r.len.toNat = s.len.toNat + (r.len.toNat - s.len.toNat) := by omega
        rw [h3, ← List.replicate_append_replicate, List.append_assoc, cpl_app, List.length_replicate, cpl_ne]
        · omega
        · left
          obtain ⟨j, hj⟩ : ∃ j, r.len.toNat - s.len.toNat = j + 1 := ⟨r.len.toNat - s.len.toNat - 1, by omega⟩
          rw [hj, List.replicate_succ]
          rw [e]
          exact fun h => normal_head_ne ny hy h.symm
  · rw [if_pos e, expand_cons, expand_cons, hn, hk, List.replicate_succ, List.replicate_succ, cpl_ne]
    · rfl
    · left
      simpa using e

theorem cpl_nil_left (x : List Mk) : cpl [] x = 0 := by unfold cpl; rfl
theorem cpl_nil_right (x : List Mk) : cpl x [] = 0 := by cases x <;> rfl

theorem rle_inj {x y : List Mk} (hx : x.length ≤ 100000000000) (hy : y.length ≤ 100000000000) (h : rle x = rle y) : x = y := by
  rw [← (rle_ok x hx).2.1, ← (rle_ok y hy).2.1, h]

theorem cpl_all {x y : List Mk} (h1 : cpl x y = x.length) (h2 : cpl x y = y.length) : x = y := by
  induction x generalizing y with
  | nil =>
    cases y with
    | nil => rfl
    | cons b y => simp [cpl] at h2
  | cons a x ih =>
    cases y with
    | nil => simp [cpl] at h1
    | cons b y =>
      simp only [cpl, List.length_cons] at h1 h2
      split at h1
      · rename_i e
        rw [if_pos e] at h2
        subst e
        rw [ih (Nat.succ.inj h1) (Nat.succ.inj h2)]
      · omega
end Go.AM.A
