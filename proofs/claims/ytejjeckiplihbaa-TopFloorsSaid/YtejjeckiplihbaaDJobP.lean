/-
Jobs and cuts (plain).
-/
import Derived.Test.YtejjeckiplihbaaDNextP
set_option linter.unusedSimpArgs false
set_option maxRecDepth 20000

namespace Go.AM.D
open Go

structure Job where
  ss : List Strip
  rs : List Roll
  rep : Int
def encJob (j : Job) : V := .agg [.sl false (j.ss.map encStrip), .sl false (j.rs.map encRoll), .int .i64 j.rep]
structure Cut where
  s : Int
  r : Int
  a : Int
def encCut (c : Cut) : V := .agg [.int .i64 c.s, .int .i64 c.r, .int .i64 c.a]
def jobOk (j : Job) : Bool := inB j.rep 1 144 && j.ss.all stripOk && j.rs.all fun r => rollOk r j.rep
def jobE (j : Job) : Int := if 6 < j.ss.length ∨ 5 < j.rs.length then 4 else if jobOk j = true then 0 else 1
structure Right (j : Job) : Prop where
  nss : j.ss.length ≤ 6
  nrs : j.rs.length ≤ 5
  rep : 1 ≤ j.rep ∧ j.rep ≤ 144
  ss : ∀ s ∈ j.ss, (-20 ≤ s.x ∧ s.x ≤ 60) ∧ 0 ≤ s.a ∧ s.a < s.b ∧ s.b ≤ 60
  rs : ∀ r ∈ j.rs, (1 ≤ r.l ∧ r.l ≤ 300) ∧ (0 ≤ r.ph ∧ r.ph ≤ j.rep - 1) ∧ (0 ≤ r.sh ∧ r.sh ≤ 99)
theorem jobOk_iff {j : Job} : jobOk j = true ↔ (1 ≤ j.rep ∧ j.rep ≤ 144) ∧ (∀ s ∈ j.ss, stripOk s = true) ∧ ∀ r ∈ j.rs, rollOk r j.rep = true := by
  unfold jobOk
  simp only [Bool.and_eq_true, inB_iff, List.all_eq_true, and_assoc]
theorem jobE_zero {j : Job} (h : jobE j = 0) : Right j ∧ jobOk j = true := by
  unfold jobE at h
  split at h
  · cases h
  · rename_i h1
    split at h
    · rename_i h2
      obtain ⟨h3, h4, h5⟩ := jobOk_iff.1 h2
      exact ⟨⟨by omega, by omega, h3, fun s hs => stripOk_iff.1 (h4 s hs), fun r hr => (rollOk_iff.1 (h5 r hr)).2⟩, h2⟩
    · cases h
theorem jobE_large {j : Job} (h : 6 < j.ss.length ∨ 5 < j.rs.length) : jobE j = 4 := by unfold jobE; rw [if_pos h]
theorem jobE_bad {j : Job} (h : ¬ (6 < j.ss.length ∨ 5 < j.rs.length)) (h2 : ¬ jobOk j = true) : jobE j = 1 := by unfold jobE; rw [if_neg h, if_neg h2]
theorem jobE_ok {j : Job} (h : ¬ (6 < j.ss.length ∨ 5 < j.rs.length)) (h2 : jobOk j = true) : jobE j = 0 := by unfold jobE; rw [if_neg h, if_pos h2]

def strip0 : Strip := ⟨0, 0, 0⟩
def roll0 : Roll := ⟨0, 0, 0⟩
def sizeM (s : Strip) : Int := s.b - s.a
def inCut (j : Job) (c : Cut) : Bool := decide (0 ≤ c.s) && decide (c.s < j.ss.length) && decide (0 ≤ c.r) && decide (c.r < j.rs.length)
theorem inCut_iff {j : Job} {c : Cut} : inCut j c = true ↔ 0 ≤ c.s ∧ c.s < j.ss.length ∧ 0 ≤ c.r ∧ c.r < j.rs.length := by
  unfold inCut
  simp only [Bool.and_eq_true, decide_eq_true_eq, and_assoc]
def stripOf (j : Job) (c : Cut) : Strip := j.ss.getD c.s.toNat strip0
def rollOf (j : Job) (c : Cut) : Roll := j.rs.getD c.r.toNat roll0
/-- Two cuts from a roll that overlap. -/
def clash (j : Job) (c y : Cut) : Bool := decide (y.r = c.r) && decide (y.a < c.a + sizeM (stripOf j c)) && decide (c.a < y.a + sizeM (stripOf j y))
def fits (j : Job) (c : Cut) : Bool := decide (0 ≤ c.a) && decide (c.a ≤ (rollOf j c).l - sizeM (stripOf j c))
def phased (j : Job) (c : Cut) : Bool := decide (((rollOf j c).ph + c.a) % j.rep = (stripOf j c).a % j.rep)
/-- The error of a cut behind others; c0 is the first of all. -/
def oneE (j : Job) (c0 : Cut) (pre : List Cut) (c : Cut) : Int :=
  if inCut j c = true then (if pre.any (fun y => decide (y.s = c.s)) = true then 8 else if fits j c = true then
    (if phased j c = true ∧ (rollOf j c).sh = (rollOf j c0).sh then (if pre.any (clash j c) = true then 10 else 0) else 13) else 11) else 5
def firstE (j : Job) (c0 : Cut) : List Cut → List Cut → Int
  | _, [] => 0
  | pre, c :: cs => if oneE j c0 pre c = 0 then firstE j c0 (pre ++ [c]) cs else oneE j c0 pre c
def head0 (cuts : List Cut) : Cut := cuts.getD 0 ⟨0, 0, 0⟩
def checkL (j : Job) (cuts : List Cut) : Int := if firstE j (head0 cuts) [] cuts = 0 then (if cuts.length < j.ss.length then 6 else 0) else firstE j (head0 cuts) [] cuts
def checkM (j : Job) (cuts : List Cut) : Int := if jobE j = 0 then checkL j cuts else jobE j

theorem oneE_5 {j : Job} {c0 : Cut} {pre : List Cut} {c : Cut} (h : inCut j c = false) : oneE j c0 pre c = 5 := by
  unfold oneE; rw [h]; rfl
theorem oneE_8 {j : Job} {c0 : Cut} {pre : List Cut} {c : Cut} (h : inCut j c = true) (h1 : pre.any (fun y => decide (y.s = c.s)) = true) : oneE j c0 pre c = 8 := by
  unfold oneE; rw [if_pos h, if_pos h1]
theorem oneE_11 {j : Job} {c0 : Cut} {pre : List Cut} {c : Cut} (h : inCut j c = true) (h1 : pre.any (fun y => decide (y.s = c.s)) = false) (h2 : fits j c = false) : oneE j c0 pre c = 11 := by
  unfold oneE; rw [if_pos h, h1, if_neg (by decide), h2, if_neg (by decide)]
theorem oneE_13 {j : Job} {c0 : Cut} {pre : List Cut} {c : Cut} (h : inCut j c = true) (h1 : pre.any (fun y => decide (y.s = c.s)) = false) (h2 : fits j c = true) (h3 : ¬ (phased j c = true ∧ (rollOf j c).sh = (rollOf j c0).sh)) : oneE j c0 pre c = 13 := by
  unfold oneE; rw [if_pos h, h1, if_neg (by decide), if_pos h2, if_neg h3]
theorem oneE_10 {j : Job} {c0 : Cut} {pre : List Cut} {c : Cut} (h : inCut j c = true) (h1 : pre.any (fun y => decide (y.s = c.s)) = false) (h2 : fits j c = true) (h3 : phased j c = true ∧ (rollOf j c).sh = (rollOf j c0).sh) (h4 : pre.any (clash j c) = true) : oneE j c0 pre c = 10 := by
  unfold oneE; rw [if_pos h, h1, if_neg (by decide), if_pos h2, if_pos h3, if_pos h4]
theorem oneE_0 {j : Job} {c0 : Cut} {pre : List Cut} {c : Cut} (h : inCut j c = true) (h1 : pre.any (fun y => decide (y.s = c.s)) = false) (h2 : fits j c = true) (h3 : phased j c = true ∧ (rollOf j c).sh = (rollOf j c0).sh) (h4 : pre.any (clash j c) = false) : oneE j c0 pre c = 0 := by
  unfold oneE; rw [if_pos h, h1, if_neg (by decide), if_pos h2, if_pos h3, h4, if_neg (by decide)]
structure OneOk (j : Job) (c0 : Cut) (pre : List Cut) (c : Cut) : Prop where
  inn : 0 ≤ c.s ∧ c.s < j.ss.length ∧ 0 ≤ c.r ∧ c.r < j.rs.length
  fresh : ∀ y ∈ pre, ¬ y.s = c.s
  fits : 0 ≤ c.a ∧ c.a ≤ (rollOf j c).l - sizeM (stripOf j c)
  phased : ((rollOf j c).ph + c.a) % j.rep = (stripOf j c).a % j.rep
  shade : (rollOf j c).sh = (rollOf j c0).sh
  apart : ∀ y ∈ pre, clash j c y = false
theorem oneE_zero {j : Job} {c0 : Cut} {pre : List Cut} {c : Cut} (h : oneE j c0 pre c = 0) : OneOk j c0 pre c := by
  unfold oneE at h
  split at h
  · rename_i h1
    split at h
    · cases h
    · rename_i h2
      split at h
      · rename_i h3
        split at h
        · rename_i h4
          split at h
          · cases h
          · rename_i h5
            refine ⟨inCut_iff.1 h1, ?_, ?_, by simpa [phased] using h4.1, h4.2, ?_⟩
            · simpa using h2
            · simpa [AM.D.fits] using h3
            · simpa using h5
        · cases h
      · cases h
  · cases h
theorem firstE_cons {j : Job} {c0 : Cut} {pre post : List Cut} {c : Cut} : firstE j c0 pre (c :: post) = if oneE j c0 pre c = 0 then firstE j c0 (pre ++ [c]) post else oneE j c0 pre c := rfl

/-- What is true of cuts that are right so far. -/
def Good (j : Job) (pre : List Cut) : Prop := ∀ y ∈ pre, (0 ≤ y.s ∧ y.s < j.ss.length ∧ 0 ≤ y.r ∧ y.r < j.rs.length) ∧ 0 ≤ y.a ∧ y.a ≤ 300
theorem getD_of {α : Type} {l : List α} {k : Nat} {x d : α} (h : l[k]? = some x) : l.getD k d = x := by rw [List.getD_eq_getElem?_getD, h]; rfl
theorem roll_get {j : Job} {c : Cut} (h : 0 ≤ c.r ∧ c.r < j.rs.length) : j.rs[c.r.toNat]? = some (rollOf j c) := by
  have h1 : j.rs[c.r.toNat]? = some (j.rs[c.r.toNat]'(by omega)) := List.getElem?_eq_getElem _
  unfold rollOf
  rw [getD_of h1, h1]
theorem strip_get {j : Job} {c : Cut} (h : 0 ≤ c.s ∧ c.s < j.ss.length) : j.ss[c.s.toNat]? = some (stripOf j c) := by
  have h1 : j.ss[c.s.toNat]? = some (j.ss[c.s.toNat]'(by omega)) := List.getElem?_eq_getElem _
  unfold stripOf
  rw [getD_of h1, h1]
theorem good_snoc {j : Job} (hj : Right j) {c0 : Cut} {pre : List Cut} {c : Cut} (hg : Good j pre) (h : OneOk j c0 pre c) : Good j (pre ++ [c]) := by
  intro y hy
  rcases List.mem_append.1 hy with hy | hy
  · exact hg y hy
  · rw [List.mem_singleton.1 hy]
    have h1 := h.inn
    have h2 := h.fits
    have h3 := hj.ss _ (List.mem_of_getElem? (strip_get (c := c) (j := j) ⟨h1.1, h1.2.1⟩))
    have h4 := hj.rs _ (List.mem_of_getElem? (roll_get (c := c) (j := j) ⟨h1.2.2.1, h1.2.2.2⟩))
    unfold sizeM at h2
    refine ⟨h1, h2.1, by omega⟩

/-- Which strips are cut. -/
def cutAt (pre : List Cut) (k : Nat) : Bool := pre.any fun y => decide (y.s = (k : Int))
theorem cutAt_snoc (pre : List Cut) (c : Cut) (k : Nat) : cutAt (pre ++ [c]) k = (cutAt pre k || decide (c.s = (k : Int))) := by
  unfold cutAt
  rw [List.any_append]
  simp
def doneL (n : Nat) (pre : List Cut) : List V := (List.range n).map fun k => .bool (cutAt pre k)
theorem done_len (n : Nat) (pre : List Cut) : (doneL n pre).length = n := by simp [doneL]
theorem done_get {n : Nat} {pre : List Cut} {k : Nat} (hk : k < n) : (doneL n pre)[k]? = some (.bool (cutAt pre k)) := by
  unfold doneL
  rw [List.getElem?_map, List.getElem?_range hk]
  rfl
theorem done_zero (n : Nat) : List.replicate n (V.bool false) = doneL n [] := by
  apply List.ext_getElem?
  intro k
  rw [List.getElem?_replicate]
  split
  · rename_i h
    rw [done_get h]
    rfl
  · rename_i h
    rw [List.getElem?_eq_none (by rw [done_len]; omega)]
theorem done_set {n : Nat} {pre : List Cut} {k : Nat} {c : Cut} (hc : c.s = k) : (doneL n pre).set k (.bool true) = doneL n (pre ++ [c]) := by
  apply List.ext_getElem?
  intro i
  rw [List.getElem?_set, done_len]
  by_cases hin : i < n
  · rw [done_get hin, done_get hin, cutAt_snoc]
    by_cases hik : k = i
    · subst hik
      rw [if_pos rfl, if_pos hin, decide_eq_true hc, Bool.or_true]
    · have : decide (c.s = (i : Int)) = false := decide_eq_false (by omega)
      rw [if_neg hik, this, Bool.or_false]
  · rw [List.getElem?_eq_none (l := doneL n (pre ++ [c])) (by rw [done_len]; omega), List.getElem?_eq_none (l := doneL n pre) (by rw [done_len]; omega)]
    split
    · rw [if_neg (by omega)]
    · rfl
theorem countP_point {p q : Nat → Bool} {k : Nat} (hp : p k = false) (hq : q k = true) (he : ∀ i, i ≠ k → p i = q i) : ∀ n : Nat, (List.range n).countP q = (List.range n).countP p + if k < n then 1 else 0
  | 0 => by simp
  | n + 1 => by
    rw [List.range_succ, List.countP_append, List.countP_append, countP_point hp hq he n]
    by_cases h : n = k
    · subst h
      simp [hp, hq]
    · have := he n h
      simp only [List.countP_cons, List.countP_nil, this]
      have e1 : k < n ↔ k < n + 1 := by omega
      simp only [e1]
      simp
      omega
def countS (n : Nat) (pre : List Cut) : Nat := (List.range n).countP (cutAt pre)
theorem count_snoc {n : Nat} {pre : List Cut} {c : Cut} (h : 0 ≤ c.s ∧ c.s < n) (hf : ∀ y ∈ pre, ¬ y.s = c.s) : countS n (pre ++ [c]) = countS n pre + 1 := by
  obtain ⟨k, hk⟩ : ∃ k : Nat, c.s = k := ⟨c.s.toNat, by omega⟩
  unfold countS
  rw [countP_point (k := k) (p := cutAt pre) (q := cutAt (pre ++ [c])), if_pos (by omega)]
  · unfold cutAt
    rw [List.any_eq_false]
    intro y hy
    have := hf y hy
    simp
    omega
  · rw [cutAt_snoc, decide_eq_true hk, Bool.or_true]
  · intro i hi
    have : decide (c.s = (i : Int)) = false := decide_eq_false (by omega)
    rw [cutAt_snoc, this, Bool.or_false]
/-- All strips are cut just if there are as many cuts as strips. -/
theorem count_all {n : Nat} {pre : List Cut} (h : countS n pre = pre.length) : (∃ k, k < n ∧ cutAt pre k = false) ↔ pre.length < n := by
  rw [← h]
  unfold countS
  constructor
  · rintro ⟨k, hk, hf⟩
    rcases Nat.lt_or_ge ((List.range n).countP (cutAt pre)) n with h1 | h1
    · exact h1
    · have h2 := List.countP_le_length (p := cutAt pre) (l := List.range n)
      rw [List.length_range] at h2
      have h3 := List.countP_eq_length.1 (show (List.range n).countP (cutAt pre) = (List.range n).length by rw [List.length_range]; omega) k (List.mem_range.2 hk)
      rw [hf] at h3
      cases h3
  · intro hlt
    by_cases hall : ∃ k, k < n ∧ cutAt pre k = false
    · exact hall
    · exfalso
      have h3 : (List.range n).countP (cutAt pre) = (List.range n).length := List.countP_eq_length.2 fun k hk => by
        cases hp : cutAt pre k with
        | true => rfl
        | false => exact absurd ⟨k, List.mem_range.1 hk, hp⟩ hall
      rw [List.length_range] at h3
      omega
theorem phase_iff {ph a f rep : Int} (h : 1 ≤ rep) : (ph + a - f).tmod rep = 0 ↔ (ph + a) % rep = f % rep := by
  rw [Int.emod_eq_emod_iff_emod_sub_eq_zero]
  constructor
  · intro h1
    exact Int.emod_eq_zero_of_dvd (Int.dvd_of_tmod_eq_zero h1)
  · intro h1
    exact Int.tmod_eq_zero_of_dvd (Int.dvd_of_emod_eq_zero h1)
end Go.AM.D
