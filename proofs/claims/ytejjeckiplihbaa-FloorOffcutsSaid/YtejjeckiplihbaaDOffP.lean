/-
What is left of the rolls (plain).
-/
import Derived.Test.YtejjeckiplihbaaDUsed
set_option linter.unusedSimpArgs false
set_option maxRecDepth 20000

namespace Go.AM.D
open Go Go.AM

/-- The places of a roll that are cut. -/
def usedAt (j : Job) (cuts : List Cut) (r : Nat) (p : Nat) : Bool := cuts.any fun c => decide (c.r = (r : Int)) && decide (c.a ≤ p) && decide ((p : Int) < c.a + sizeM (stripOf j c))
/-- The gaps among the first places: the open one, and those that are closed. -/
def scanS (u : Nat → Bool) : Nat → Int × List (Int × Int)
  | 0 => (-1, [])
  | k + 1 => if u k = true then (if 0 ≤ (scanS u k).1 then (-1, (scanS u k).2 ++ [((scanS u k).1, (k : Int))]) else scanS u k) else (if (scanS u k).1 < 0 then ((k : Int), (scanS u k).2) else scanS u k)
theorem scan_step (u : Nat → Bool) (k : Nat) : scanS u (k + 1) = if u k = true then (if 0 ≤ (scanS u k).1 then (-1, (scanS u k).2 ++ [((scanS u k).1, (k : Int))]) else scanS u k) else (if (scanS u k).1 < 0 then ((k : Int), (scanS u k).2) else scanS u k) := rfl
theorem scan_used {u : Nat → Bool} {k : Nat} {s : List (Int × Int)} (h : scanS u k = (-1, s)) : ∀ d : Nat, (∀ p, k ≤ p → p < k + d → u p = true) → scanS u (k + d) = (-1, s)
  | 0, _ => h
  | d + 1, hu => by
    have ih := scan_used h d fun p h1 h2 => hu p h1 (by omega)
    rw [← Nat.add_assoc, scan_step, if_pos (hu (k + d) (by omega) (by omega)), ih, if_neg (by simp)]
theorem scan_open {u : Nat → Bool} {k : Nat} {s : List (Int × Int)} (h : scanS u k = (-1, s)) : ∀ d : Nat, (∀ p, k ≤ p → p < k + d + 1 → u p = false) → scanS u (k + d + 1) = ((k : Int), s)
  | 0, hu => by
    rw [Nat.add_zero, scan_step, hu k (by omega) (by omega), if_neg (by decide), h, if_pos (by simp)]
  | d + 1, hu => by
    have ih := scan_open h d fun p h1 h2 => hu p h1 (by omega)
    rw [show k + (d + 1) + 1 = k + d + 1 + 1 by omega, scan_step, hu (k + d + 1) (by omega) (by omega), if_neg (by decide), ih, if_neg (by dsimp only; omega)]
theorem scan_gap {u : Nat → Bool} {k d : Nat} {s : List (Int × Int)} (h : scanS u k = (-1, s)) (hu : ∀ p, k ≤ p → p < k + d + 1 → u p = false) (he : u (k + d + 1) = true) : scanS u (k + d + 2) = (-1, s ++ [((k : Int), ((k + d + 1 : Nat) : Int))]) := by
  have h1 := scan_open h d hu
  rw [show k + d + 2 = k + d + 1 + 1 by omega, scan_step, if_pos he, h1, if_pos (by dsimp only; omega)]

/-- The gaps of a roll: its end counts as cut. -/
def endU (u : Nat → Bool) (L : Nat) (p : Nat) : Bool := u p || decide (p = L)
def gapsM (j : Job) (cuts : List Cut) (r : Nat) : List (Int × Int) := (scanS (endU (usedAt j cuts r) (rollOf j ⟨0, r, 0⟩).l.toNat) ((rollOf j ⟨0, r, 0⟩).l.toNat + 1)).2

/-- What the code does with the cuts in order: where it stands, and the gaps so far. -/
def walkG (j : Job) (r : Nat) : List Cut → Int × List (Int × Int) → Int × List (Int × Int)
  | [], s => s
  | c :: cs, s => walkG j r cs (if c.r = (r : Int) then (c.a + sizeM (stripOf j c), if s.1 < c.a then s.2 ++ [(s.1, c.a)] else s.2) else s)
theorem walkG_snoc (j : Job) (r : Nat) : ∀ (cs : List Cut) (c : Cut) (s : Int × List (Int × Int)), walkG j r (cs ++ [c]) s = if c.r = (r : Int) then (c.a + sizeM (stripOf j c), if (walkG j r cs s).1 < c.a then (walkG j r cs s).2 ++ [((walkG j r cs s).1, c.a)] else (walkG j r cs s).2) else walkG j r cs s
  | [], c, s => rfl
  | b :: cs, c, s => by
    rw [List.cons_append]
    show walkG j r (cs ++ [c]) _ = _
    rw [walkG_snoc j r cs c]
    rfl
def offM (j : Job) (cs : List Cut) (r : Nat) (L : Int) : List (Int × Int) := if (walkG j r cs (0, [])).1 < L then (walkG j r cs (0, [])).2 ++ [((walkG j r cs (0, [])).1, L)] else (walkG j r cs (0, [])).2

def ltA (a b : Cut) : Bool := decide (a.a < b.a)
theorem ltA_iff {a b : Cut} : ltA a b = true ↔ a.a < b.a := by unfold ltA; simp
theorem sorted_cuts (l : List Cut) : (isort ltA l).Pairwise fun x y => x.a ≤ y.a := by
  refine (isort_pairwise (lt := ltA) (fun x y h h2 => ?_) (fun x y z h1 h2 h3 => ?_) l).imp ?_
  · rw [ltA_iff] at h h2; omega
  · rw [ltA_iff] at h1 h2 h3; omega
  · intro x y h
    rw [ltA_iff] at h; omega

/-- Two cuts of right cuts do not overlap. -/
def Apart (j : Job) (x y : Cut) : Prop := x.r = y.r → x.a + sizeM (stripOf j x) ≤ y.a ∨ y.a + sizeM (stripOf j y) ≤ x.a
theorem first_apart {j : Job} {c0 : Cut} : ∀ (post pre : List Cut), firstE j c0 pre post = 0 → pre.Pairwise (Apart j) → (pre ++ post).Pairwise (Apart j)
  | [], pre, _, h => by rw [List.append_nil]; exact h
  | c :: post, pre, hf, h => by
    have ho : oneE j c0 pre c = 0 := by
      rw [firstE_cons] at hf
      split at hf
      · rename_i h1; exact h1
      · exact hf
    rw [firstE_next ho] at hf
    have h1 := oneE_zero ho
    have := first_apart post (pre ++ [c]) hf (by
      rw [List.pairwise_append]
      refine ⟨h, List.pairwise_singleton _ _, fun x hx y hy => ?_⟩
      rw [List.mem_singleton.1 hy]
      have h2 := h1.apart x hx
      unfold clash at h2
      intro hr
      rw [decide_eq_true hr, Bool.true_and, Bool.and_eq_false_iff, decide_eq_false_iff_not, decide_eq_false_iff_not] at h2
      omega)
    simpa using this
theorem fit_apart {j : Job} {cuts : List Cut} (h : Fit j cuts) : cuts.Pairwise (Apart j) := by
  have := first_apart cuts [] h.first List.Pairwise.nil
  simpa using this
theorem first_in {j : Job} {c0 : Cut} : ∀ (post pre : List Cut), firstE j c0 pre post = 0 → (∀ c ∈ pre, 0 ≤ c.a ∧ c.a + sizeM (stripOf j c) ≤ (rollOf j c).l) → ∀ c ∈ pre ++ post, 0 ≤ c.a ∧ c.a + sizeM (stripOf j c) ≤ (rollOf j c).l
  | [], pre, _, h => by rw [List.append_nil]; exact h
  | c :: post, pre, hf, h => by
    have ho : oneE j c0 pre c = 0 := by
      rw [firstE_cons] at hf
      split at hf
      · rename_i h1; exact h1
      · exact hf
    rw [firstE_next ho] at hf
    have h1 := (oneE_zero ho).fits
    have := first_in post (pre ++ [c]) hf (fun x hx => by
      rcases List.mem_append.1 hx with hx | hx
      · exact h x hx
      · rw [List.mem_singleton.1 hx]; omega)
    simpa using this
theorem fit_in {j : Job} {cuts : List Cut} (h : Fit j cuts) : ∀ c ∈ cuts, 0 ≤ c.a ∧ c.a + sizeM (stripOf j c) ≤ (rollOf j c).l := by
  have := first_in cuts [] h.first (fun c hc => by cases hc)
  simpa using this
theorem size_in {j : Job} (hj : Right j) {c : Cut} (h : 0 ≤ c.s ∧ c.s < j.ss.length) : 1 ≤ sizeM (stripOf j c) ∧ sizeM (stripOf j c) ≤ 60 := by
  have := hj.ss _ (List.mem_of_getElem? (strip_get (j := j) (c := c) h))
  unfold sizeM
  omega
theorem roll_eq {j : Job} {c : Cut} {r : Nat} (h : c.r = (r : Int)) : rollOf j c = rollOf j ⟨0, r, 0⟩ := by
  unfold rollOf
  rw [h]

theorem endU_no {u : Nat → Bool} {L p : Nat} (h : u p = false) (hp : p < L) : endU u L p = false := by
  unfold endU
  rw [h, decide_eq_false (by omega)]
  rfl
theorem endU_yes {u : Nat → Bool} {L p : Nat} (h : u p = true) : endU u L p = true := by
  unfold endU
  rw [h, Bool.true_or]
theorem endU_end {u : Nat → Bool} {L : Nat} : endU u L L = true := by
  unfold endU
  rw [decide_eq_true rfl, Bool.or_true]
def gapLen : List (Int × Int) → Int
  | [] => 0
  | g :: l => (g.2 - g.1) + gapLen l
theorem gapLen_app : ∀ a b : List (Int × Int), gapLen (a ++ b) = gapLen a + gapLen b
  | [], b => by simp [gapLen]
  | g :: a, b => by
    rw [List.cons_append]
    show _ + gapLen (a ++ b) = _ + gapLen a + gapLen b
    rw [gapLen_app a b]
    omega
def onRoll (j : Job) (r : Nat) : List Cut → Int
  | [] => 0
  | c :: l => (if c.r = (r : Int) then sizeM (stripOf j c) else 0) + onRoll j r l
theorem onRoll_app (j : Job) (r : Nat) : ∀ a b : List Cut, onRoll j r (a ++ b) = onRoll j r a + onRoll j r b
  | [], b => by simp [onRoll]
  | c :: a, b => by
    rw [List.cons_append]
    show _ + onRoll j r (a ++ b) = _ + onRoll j r a + onRoll j r b
    rw [onRoll_app j r a b]
    omega
theorem onRoll_one (j : Job) (r : Nat) (a : List Cut) (c : Cut) : onRoll j r (a ++ [c]) = onRoll j r a + if c.r = (r : Int) then sizeM (stripOf j c) else 0 := by
  rw [onRoll_app]
  show _ + (_ + 0) = _
  omega
/-- Where the code stands behind the first cuts in order. -/
structure Stand (j : Job) (u : Nat → Bool) (r : Nat) (L : Nat) (pre : List Cut) (A : Nat) : Prop where
  pos : (walkG j r pre (0, [])).1 = (A : Int)
  scan : scanS u A = (-1, (walkG j r pre (0, [])).2)
  le : A ≤ L
  ends : ∀ c ∈ pre, c.r = (r : Int) → c.a + sizeM (stripOf j c) ≤ A
  from' : A = 0 ∨ ∃ c ∈ pre, c.r = (r : Int) ∧ (A : Int) = c.a + sizeM (stripOf j c)
  sum : gapLen (walkG j r pre (0, [])).2 + onRoll j r pre = A
theorem stand_all {j : Job} {cuts cs : List Cut} {r L : Nat} (hj : Right j) (hp : List.Perm cs cuts) (hs : cs.Pairwise fun x y => x.a ≤ y.a) (ha : cs.Pairwise (Apart j)) (hg : Good j cuts) (hi : ∀ c ∈ cuts, c.r = (r : Int) → 0 ≤ c.a ∧ c.a + sizeM (stripOf j c) ≤ L) :
    ∀ n : Nat, n ≤ cs.length → ∃ A, Stand j (endU (usedAt j cuts r) L) r L (cs.take n) A
  | 0, _ => ⟨0, rfl, rfl, Nat.zero_le _, (fun _ h => by cases h), .inl rfl, rfl⟩
  | n + 1, hn => by
    obtain ⟨A, h⟩ := stand_all hj hp hs ha hg hi n (by omega)
    have gc : cs[n]? = some cs[n] := List.getElem?_eq_getElem (by omega)
    have ht : cs.take (n + 1) = cs.take n ++ [cs[n]] := by rw [List.take_add_one, gc]; rfl
    have hmem : cs[n] ∈ cuts := hp.mem_iff.1 (List.getElem_mem _)
    have psort := List.pairwise_iff_getElem.1 hs
    have papart := List.pairwise_iff_getElem.1 ha
    have before : ∀ y ∈ cs.take n, y.a ≤ cs[n].a ∧ Apart j y cs[n] := fun y hy => by
      obtain ⟨i, hi', rfl⟩ := List.mem_iff_getElem.1 hy
      rw [List.length_take] at hi'
      rw [List.getElem_take]
      exact ⟨psort i n (by omega) (by omega) (by omega), papart i n (by omega) (by omega) (by omega)⟩
    have split : ∀ y ∈ cuts, y ∈ cs.take n ∨ cs[n].a ≤ y.a := fun y hy => by
      obtain ⟨i, hi', rfl⟩ := List.mem_iff_getElem.1 (hp.mem_iff.2 hy)
      rcases Nat.lt_or_ge i n with h1 | h1
      · refine .inl ?_
        rw [List.mem_iff_getElem]
        exact ⟨i, by rw [List.length_take]; omega, List.getElem_take⟩
      · refine .inr ?_
        rcases Nat.lt_or_ge n i with h2 | h2
        · exact psort n i (by omega) hi' h2
        · have : n = i := by omega
          subst this
          exact Int.le_refl _
    rw [ht]
    have hsz := size_in hj (c := cs[n]) (by have := (hg _ hmem).1; omega)
    generalize cs[n] = c at *
    by_cases hr : c.r = (r : Int)
    rotate_left
    · refine ⟨A, ?_, ?_, h.le, fun y hy hyr => ?_, ?_, ?_⟩
      · rw [walkG_snoc, if_neg hr]; exact h.pos
      · rw [walkG_snoc, if_neg hr]; exact h.scan
      · rcases List.mem_append.1 hy with hy | hy
        · exact h.ends y hy hyr
        · rw [List.mem_singleton.1 hy] at hyr
          exact absurd hyr hr
      · rcases h.from' with h0 | ⟨y, hy, h1, h2⟩
        · exact .inl h0
        · exact .inr ⟨y, List.mem_append_left _ hy, h1, h2⟩
      · rw [walkG_snoc, if_neg hr, onRoll_one, if_neg hr]
        have := h.sum
        omega
    have hci := hi c hmem hr
    obtain ⟨B, hB⟩ : ∃ B : Nat, c.a = (B : Int) := ⟨c.a.toNat, by omega⟩
    obtain ⟨Z, hZ⟩ : ∃ Z : Nat, sizeM (stripOf j c) = ((Z + 1 : Nat) : Int) := ⟨(sizeM (stripOf j c) - 1).toNat, by omega⟩
    have hAB : A ≤ B := by
      rcases h.from' with h0 | ⟨y, hy, h1, h2⟩
      · omega
      · have h3 := before y hy
        have h4 := h3.2 (by rw [h1, hr])
        omega
    have free : ∀ p : Nat, A ≤ p → p < B → endU (usedAt j cuts r) L p = false := fun p h1 h2 => by
      refine endU_no ?_ (by omega)
      unfold usedAt
      rw [List.any_eq_false]
      intro y hy hyu
      simp only [Bool.and_eq_true, decide_eq_true_eq] at hyu
      rcases split y hy with h3 | h3
      · have := h.ends y h3 hyu.1.1
        omega
      · omega
    have taken : ∀ p : Nat, B ≤ p → p < B + (Z + 1) → endU (usedAt j cuts r) L p = true := fun p h1 h2 => by
      refine endU_yes ?_
      unfold usedAt
      rw [List.any_eq_true]
      refine ⟨c, hmem, ?_⟩
      simp only [Bool.and_eq_true, decide_eq_true_eq]
      exact ⟨⟨hr, by omega⟩, by omega⟩
    have e1 : (walkG j r (cs.take n ++ [c]) (0, [])).1 = ((B + (Z + 1) : Nat) : Int) := by rw [walkG_snoc, if_pos hr]; dsimp only; omega
    refine ⟨B + (Z + 1), e1, ?_, by omega, fun y hy hyr => ?_, .inr ⟨c, by simp, hr, by omega⟩, ?_⟩
    · rw [walkG_snoc, if_pos hr]
      dsimp only
      rw [h.pos, hB]
      rcases Nat.lt_or_ge A B with hlt | hge
      · rw [if_pos (by omega)]
        obtain ⟨d, rfl⟩ : ∃ d, B = A + d + 1 := ⟨B - A - 1, by omega⟩
        have s1 := scan_gap h.scan (d := d) (fun p h1 h2 => free p h1 (by omega)) (taken _ (by omega) (by omega))
        have s2 := scan_used s1 Z (fun p h1 h2 => taken p (by omega) (by omega))
        rw [show A + d + 1 + (Z + 1) = A + d + 2 + Z by omega]
        exact s2
      · obtain rfl : A = B := by omega
        rw [if_neg (by omega)]
        exact scan_used h.scan (Z + 1) taken
    · rcases List.mem_append.1 hy with hy | hy
      · have := h.ends y hy hyr
        omega
      · rw [List.mem_singleton.1 hy]
        omega
    · rw [walkG_snoc, if_pos hr, onRoll_one, if_pos hr]
      dsimp only
      rw [h.pos]
      have h9 := h.sum
      split
      · rw [gapLen_app]
        show _ + (_ + 0) + _ = _
        dsimp only
        omega
      · omega
/-- What the code finds are the gaps. -/
theorem off_gaps {j : Job} {cuts : List Cut} (h : Fit j cuts) {r : Nat} (hr : r < j.rs.length) : offM j (isort ltA cuts) r (rollOf j ⟨0, r, 0⟩).l = gapsM j cuts r := by
  have hp := isort_perm (lt := ltA) cuts
  have hroll := roll_get (j := j) (c := ⟨0, r, 0⟩) (by dsimp only; omega)
  have hl := (h.job.rs _ (List.mem_of_getElem? hroll)).1
  have hfi := fit_in h
  have hi : ∀ c ∈ cuts, c.r = (r : Int) → 0 ≤ c.a ∧ c.a + sizeM (stripOf j c) ≤ ((rollOf j ⟨0, r, 0⟩).l.toNat : Nat) := fun c hc hcr => by
    have := hfi c hc
    rw [roll_eq hcr] at this
    omega
  have hap : (isort ltA cuts).Pairwise (Apart j) := by
    refine (hp.symm.pairwise_iff ?_).1 (fit_apart h)
    intro x y hxy hr
    have := hxy hr.symm
    omega
  obtain ⟨A, hA⟩ := stand_all h.job hp (sorted_cuts cuts) hap h.good hi (isort ltA cuts).length (Nat.le_refl _)
  rw [List.take_length] at hA
  unfold offM gapsM
  rw [hA.pos]
  have free : ∀ p : Nat, A ≤ p → p < (rollOf j ⟨0, r, 0⟩).l.toNat → endU (usedAt j cuts r) (rollOf j ⟨0, r, 0⟩).l.toNat p = false := fun p h1 h2 => by
    refine endU_no ?_ h2
    unfold usedAt
    rw [List.any_eq_false]
    intro y hy hyu
    simp only [Bool.and_eq_true, decide_eq_true_eq] at hyu
    have := hA.ends y (hp.mem_iff.2 hy) hyu.1.1
    omega
  have hle := hA.le
  have hsc := hA.scan
  obtain ⟨L, hL⟩ : ∃ L : Nat, (rollOf j ⟨0, r, 0⟩).l = (L : Int) := ⟨_, (Int.toNat_of_nonneg (by omega)).symm⟩
  rw [hL] at hsc free hle ⊢
  rw [Int.toNat_natCast] at hsc free hle ⊢
  rcases Nat.lt_or_ge A L with hlt | hge
  · rw [if_pos (by omega)]
    obtain ⟨d, rfl⟩ : ∃ d, L = A + d + 1 := ⟨L - A - 1, by omega⟩
    rw [scan_gap hsc (d := d) (fun p h1 h2 => free p h1 (by omega)) endU_end]
  · obtain rfl : A = L := by omega
    rw [if_neg (by omega), scan_used hsc 1 (fun p h1 h2 => by
      obtain rfl : p = A := by omega
      exact endU_end)]

/-- All that is left of a roll. -/
theorem off_sum {j : Job} {cuts : List Cut} (h : Fit j cuts) {r : Nat} (hr : r < j.rs.length) : gapLen (gapsM j cuts r) = (rollOf j ⟨0, r, 0⟩).l - onRoll j r (isort ltA cuts) := by
  rw [← off_gaps h hr]
  have hp := isort_perm (lt := ltA) cuts
  have hroll := roll_get (j := j) (c := ⟨0, r, 0⟩) (by dsimp only; omega)
  have hl := (h.job.rs _ (List.mem_of_getElem? hroll)).1
  have hfi := fit_in h
  have hi : ∀ c ∈ cuts, c.r = (r : Int) → 0 ≤ c.a ∧ c.a + sizeM (stripOf j c) ≤ ((rollOf j ⟨0, r, 0⟩).l.toNat : Nat) := fun c hc hcr => by
    have := hfi c hc
    rw [roll_eq hcr] at this
    omega
  have hap : (isort ltA cuts).Pairwise (Apart j) := by
    refine (hp.symm.pairwise_iff ?_).1 (fit_apart h)
    intro x y hxy hr
    have := hxy hr.symm
    omega
  obtain ⟨A, hA⟩ := stand_all h.job hp (sorted_cuts cuts) hap h.good hi (isort ltA cuts).length (Nat.le_refl _)
  rw [List.take_length] at hA
  have h1 := hA.sum
  have h2 := hA.le
  unfold offM
  rw [hA.pos]
  split
  · rw [gapLen_app]
    show _ + (_ + 0) = _
    dsimp only
    omega
  · omega
def sumN (f : Nat → Int) : Nat → Int
  | 0 => 0
  | n + 1 => sumN f n + f n
theorem sumN_add (f g : Nat → Int) : ∀ n, sumN (fun i => f i + g i) n = sumN f n + sumN g n
  | 0 => rfl
  | n + 1 => by
    show sumN _ n + (f n + g n) = sumN f n + f n + (sumN g n + g n)
    rw [sumN_add f g n]
    omega
theorem sumN_zero : ∀ n, sumN (fun _ => 0) n = 0
  | 0 => rfl
  | n + 1 => by
    show sumN _ n + 0 = 0
    rw [sumN_zero n]
    rfl
theorem sumN_congr {f g : Nat → Int} : ∀ n, (∀ i, i < n → f i = g i) → sumN f n = sumN g n
  | 0, _ => rfl
  | n + 1, h => by
    show sumN f n + _ = sumN g n + _
    rw [sumN_congr n fun i hi => h i (by omega), h n (by omega)]
theorem sumN_point (k : Nat) (x : Int) : ∀ n, sumN (fun i => if (k : Int) = (i : Int) then x else 0) n = if k < n then x else 0
  | 0 => by simp [sumN]
  | n + 1 => by
    show sumN _ n + _ = _
    rw [sumN_point k x n]
    by_cases h : k = n
    · subst h
      simp
    · have h2 : ¬ (k : Int) = (n : Int) := by omega
      have h3 : k < n ↔ k < n + 1 := by omega
      simp [h2, h3]
def sizesL (j : Job) : List Cut → Int
  | [] => 0
  | c :: l => sizeM (stripOf j c) + sizesL j l
theorem sizes_perm {j : Job} {a b : List Cut} (h : List.Perm a b) : sizesL j a = sizesL j b := by
  induction h with
  | nil => rfl
  | cons x _ ih => simp only [sizesL, ih]
  | swap x y l => simp only [sizesL]; omega
  | trans _ _ h1 h2 => rw [h1, h2]
theorem rolls_sum {j : Job} : ∀ (cs : List Cut), Good j cs → sumN (fun r => onRoll j r cs) j.rs.length = sizesL j cs
  | [], _ => sumN_zero _
  | c :: cs, hg => by
    have ih := rolls_sum cs fun y hy => hg y (List.mem_cons_of_mem _ hy)
    have hc := (hg c List.mem_cons_self).1
    obtain ⟨k, hk⟩ : ∃ k : Nat, c.r = (k : Int) := ⟨c.r.toNat, by omega⟩
    show sumN (fun r => (if c.r = (r : Int) then sizeM (stripOf j c) else 0) + onRoll j r cs) _ = sizeM (stripOf j c) + sizesL j cs
    rw [sumN_add (fun r => if c.r = (r : Int) then sizeM (stripOf j c) else 0) (fun r => onRoll j r cs), ih, hk, sumN_point, if_pos (by omega)]
theorem strips_sum {j : Job} : ∀ (post pre : List Cut), Good j (pre ++ post) → countS j.ss.length (pre ++ post) = (pre ++ post).length →
    sumN (fun k => if cutAt pre k = true then sizeM (j.ss.getD k strip0) else 0) j.ss.length = sizesL j pre → sumN (fun k => if cutAt (pre ++ post) k = true then sizeM (j.ss.getD k strip0) else 0) j.ss.length = sizesL j (pre ++ post)
  | [], pre, _, _, h => by rw [List.append_nil]; exact h
  | c :: post, pre, hg, hc, h => by
    have hin := (hg c (by simp)).1
    obtain ⟨k, hk⟩ : ∃ k : Nat, c.s = (k : Int) := ⟨c.s.toNat, by omega⟩
    have hnew : cutAt pre k = false := by
      cases hcut : cutAt pre k with
      | false => rfl
      | true =>
        exfalso
        have hmono : ∀ (l m : List Cut), countS j.ss.length (l ++ m) ≤ countS j.ss.length l + m.length := by
          intro l m
          induction m generalizing l with
          | nil => simp
          | cons y m ih =>
            have h1 := ih (l ++ [y])
            rw [List.append_assoc] at h1
            have h2 : countS j.ss.length (l ++ [y]) ≤ countS j.ss.length l + 1 := by
              by_cases hy : 0 ≤ y.s ∧ y.s < j.ss.length
              · by_cases hf : ∀ z ∈ l, ¬ z.s = y.s
                · rw [count_snoc hy hf]; exact Nat.le_refl _
                · have : countS j.ss.length (l ++ [y]) = countS j.ss.length l := by
                    unfold countS
                    congr 1
                    funext i
                    rw [cutAt_snoc]
                    by_cases hi : y.s = (i : Int)
                    · have : cutAt l i = true := by
                        obtain ⟨z, hz⟩ := Classical.not_forall.1 hf
                        obtain ⟨hz1, hz2⟩ := Classical.not_imp.1 hz
                        unfold cutAt
                        rw [List.any_eq_true]
                        exact ⟨z, hz1, decide_eq_true (by rw [← hi]; exact Classical.not_not.1 hz2)⟩
                      rw [this]; rfl
                    · rw [decide_eq_false hi, Bool.or_false]
                  omega
              · have : countS j.ss.length (l ++ [y]) = countS j.ss.length l := by
                  unfold countS
                  rw [List.countP_congr]
                  intro i hi
                  rw [cutAt_snoc, decide_eq_false (by have := List.mem_range.1 hi; omega), Bool.or_false]
                omega
            simp only [List.cons_append, List.nil_append, List.length_cons] at h1 ⊢
            omega
        have hsame : countS j.ss.length (pre ++ [c]) = countS j.ss.length pre := by
          unfold countS
          congr 1
          funext i
          rw [cutAt_snoc]
          by_cases hi : c.s = (i : Int)
          · have : i = k := by omega
            subst this
            rw [hcut]; rfl
          · rw [decide_eq_false hi, Bool.or_false]
        have h1 := hmono (pre ++ [c]) post
        have h2 := hmono [] pre
        rw [List.append_assoc] at h1
        have h3 : countS j.ss.length [] = 0 := by simp [countS, cutAt]
        simp only [List.nil_append, List.cons_append, List.length_append, List.length_cons, List.length_nil] at h1 h2 hc
        omega
    have hst : stripOf j c = j.ss.getD k strip0 := by
      unfold stripOf
      rw [hk, Int.toNat_natCast]
    have := strips_sum (j := j) post (pre ++ [c]) (by simpa using hg) (by simpa using hc) (by
      have e1 : ∀ i, (if cutAt (pre ++ [c]) i = true then sizeM (j.ss.getD i strip0) else 0) = (if cutAt pre i = true then sizeM (j.ss.getD i strip0) else 0) + (if (k : Int) = (i : Int) then sizeM (stripOf j c) else 0) := fun i => by
        rw [cutAt_snoc, hk]
        by_cases hi : (k : Int) = (i : Int)
        · have : i = k := by omega
          subst this
          rw [hnew, hst]
          simp
        · rw [decide_eq_false hi, Bool.or_false, if_neg hi]
          omega
      have e2 : sizesL j (pre ++ [c]) = sizesL j pre + sizeM (stripOf j c) := by
        clear h hg hc hnew e1
        induction pre with
        | nil => simp [sizesL]
        | cons y l ih =>
          show _ + sizesL j (l ++ [c]) = _ + sizesL j l + _
          rw [ih]
          omega
      rw [e2, ← h, ← show sumN (fun i => if (k : Int) = (i : Int) then sizeM (stripOf j c) else 0) j.ss.length = sizeM (stripOf j c) by rw [sumN_point, if_pos (by omega)], ← sumN_add]
      exact sumN_congr _ fun i _ => e1 i)
    simpa using this
theorem all_strips {j : Job} {cuts : List Cut} (h : Fit j cuts) : sizesL j cuts = sumN (fun k => sizeM (j.ss.getD k strip0)) j.ss.length := by
  have h0 : sumN (fun k => if cutAt [] k = true then sizeM (j.ss.getD k strip0) else 0) j.ss.length = sizesL j [] := by
    have : ∀ k, cutAt [] k = false := fun k => by simp [cutAt]
    rw [sumN_congr (g := fun _ => 0) _ fun i _ => by rw [this]; rfl]
    exact sumN_zero _
  have h1 := strips_sum (j := j) cuts [] (by simpa using h.good) (by simpa using h.count) h0
  rw [List.nil_append] at h1
  rw [← h1]
  have h2 := count_all h.count
  refine sumN_congr _ fun i hi => ?_
  cases hci : cutAt cuts i with
  | true => rw [if_pos rfl]
  | false =>
    have := h2.1 ⟨i, hi, hci⟩
    have := h.len
    omega
/-- What is left is the rolls less the strips. -/
theorem left_zero {j : Job} {cuts : List Cut} (h : Fit j cuts) : sumN (fun r => (rollOf j ⟨0, r, 0⟩).l - gapLen (gapsM j cuts r)) j.rs.length = sumN (fun k => sizeM (j.ss.getD k strip0)) j.ss.length := by
  have hp := isort_perm (lt := ltA) cuts
  rw [← all_strips h, ← sizes_perm hp, ← rolls_sum _ (fun y hy => h.good y (hp.mem_iff.1 hy))]
  refine sumN_congr _ fun r hr => ?_
  rw [off_sum h hr]
  omega
end Go.AM.D
