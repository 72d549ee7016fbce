/-
The pattern of the plane over the strips of a room (plain).
-/
import Derived.Test.YtejjeckiplihbaaDLaid
import Derived.Test.YtejjeckiplihbaaDAccP
import Derived.Test.YtejjeckiplihbaaDStripV
set_option linter.unusedSimpArgs false
set_option maxRecDepth 20000

namespace Go.AM.D
open Go

/-- What the pattern goes over into itself by. -/
def Per (p : Pat) (a b : Int) : Prop := ∀ x y, colP p (x + a) (y + b) = colP p x y
theorem per_of {p : Pat} (hp : PatOk p) {a b : Int} (h : perP p a b = true) : Per p a b := fun x y => perP_all hp h x y
theorem Per.add {p : Pat} {a b c d : Int} (h1 : Per p a b) (h2 : Per p c d) : Per p (a + c) (b + d) := fun x y => by
  rw [show x + (a + c) = x + a + c by omega, show y + (b + d) = y + b + d by omega, h2, h1]
theorem Per.neg {p : Pat} {a b : Int} (h : Per p a b) : Per p (-a) (-b) := fun x y => by
  have := h (x + -a) (y + -b)
  rw [show x + -a + a = x by omega, show y + -b + b = y by omega] at this
  exact this.symm
theorem per_zero (p : Pat) : Per p 0 0 := fun x y => by rw [Int.add_zero, Int.add_zero]
theorem Per.nat {p : Pat} {a b : Int} (h : Per p a b) : ∀ n : Nat, Per p (n * a) (n * b)
  | 0 => by rw [Int.natCast_zero, Int.zero_mul, Int.zero_mul]; exact per_zero p
  | n + 1 => by
    have := (Per.nat h n).add h
    rw [Int.natCast_add, Int.natCast_one, Int.add_mul, Int.add_mul, Int.one_mul, Int.one_mul]
    exact this
theorem Per.int {p : Pat} {a b : Int} (h : Per p a b) (k : Int) : Per p (k * a) (k * b) := by
  rcases Int.le_total 0 k with q | q
  · have := h.nat k.toNat
    rwa [Int.toNat_of_nonneg q] at this
  · have := (h.nat (-k).toNat).neg
    rw [Int.toNat_of_nonneg (by omega)] at this
    rw [show k * a = -(-k * a) by rw [Int.neg_mul]; omega, show k * b = -(-k * b) by rw [Int.neg_mul]; omega]
    exact this
theorem per_wide {p : Pat} (hp : PatOk p) : Per p (leastW p : Nat) 0 := by
  have h := (leastW_spec hp).2.2.1
  unfold okW at h
  rw [Bool.and_eq_true] at h
  exact per_of hp h.2
theorem per_slant {p : Pat} (hp : PatOk p) : Per p (leastS p : Nat) (leastH p : Nat) := by
  have h := (leastS_spec hp).2.1
  unfold okS at h
  rw [Bool.and_eq_true] at h
  exact per_of hp h.2
theorem per_round {p : Pat} (hp : PatOk p) : Per p 0 (roundN (leastW p) (leastS p) (leastH p) : Nat) := by
  have hw := per_wide hp
  have hs := per_slant hp
  unfold roundN
  generalize leastW p = W at *
  generalize leastS p = S at *
  generalize leastH p = H at *
  obtain ⟨s, es⟩ := Nat.gcd_dvd_right W S
  obtain ⟨w, ew⟩ := Nat.gcd_dvd_left W S
  have h1 := (hs.nat (W / Nat.gcd W S)).add (hw.nat s).neg
  have e1 : ((W / Nat.gcd W S : Nat) : Int) * (S : Int) + -((s : Int) * (W : Int)) = 0 := by
    have : (W / Nat.gcd W S) * S = s * W := by
      rcases Nat.eq_zero_or_pos (Nat.gcd W S) with z | z
      · have hW : W = 0 := (Nat.gcd_eq_zero_iff.1 z).1
        have hS : S = 0 := (Nat.gcd_eq_zero_iff.1 z).2
        rw [hW, hS]; simp
      · have e2 : W / Nat.gcd W S = w := by rw [Nat.div_eq_iff_eq_mul_left z (Nat.gcd_dvd_left W S), Nat.mul_comm]; exact ew
        rw [e2]
        have a1 : w * S = w * (Nat.gcd W S * s) := by rw [← es]
        have a2 : s * W = s * (Nat.gcd W S * w) := by rw [← ew]
        rw [a1, a2, Nat.mul_left_comm, Nat.mul_left_comm s, Nat.mul_comm w s]
    rw [show ((W / Nat.gcd W S : Nat) : Int) * (S : Int) = (((W / Nat.gcd W S) * S : Nat) : Int) from (Int.natCast_mul _ _).symm, this, Int.natCast_mul]
    omega
  have e2 : ((W / Nat.gcd W S : Nat) : Int) * (H : Int) + -((s : Int) * 0) = ((H * (W / Nat.gcd W S) : Nat) : Int) := by
    rw [Int.mul_zero, Int.natCast_mul, Int.mul_comm]
    omega
  rw [e1, e2] at h1
  exact h1
/-- Every strip begins a number of widths from the offset. -/
theorem strF_x {f : Int → Int → Bool} {w : Int} : ∀ (n : Nat) (x : Int), ∀ s ∈ strF f w n x, ∃ k : Int, s.x = x + k * w
  | 0, _, s, h => by cases h
  | n + 1, x, s, h => by
    unfold strF at h
    split at h
    · split at h
      · rcases List.mem_cons.1 h with rfl | h
        · exact ⟨0, by unfold stripM; simp⟩
        · obtain ⟨k, e⟩ := strF_x n (x + w) s h
          exact ⟨k + 1, by rw [e, Int.add_mul]; omega⟩
      · obtain ⟨k, e⟩ := strF_x n (x + w) s h
        exact ⟨k + 1, by rw [e, Int.add_mul]; omega⟩
    · cases h
theorem strips_x {f : Int → Int → Bool} {w o : Int} {s : Strip} (h : s ∈ stripsM f w o) : ∃ k : Int, s.x = o + k * w := by
  obtain ⟨k, e⟩ := strF_x _ _ s h
  exact ⟨k - 1, by rw [e, Int.sub_mul]; omega⟩
theorem laidIn_find (p : Pat) (j : Job) (s : Strip) (x y : Int) (i : Nat) (no : V) : ∀ l : List Cut, (∃ c ∈ l, c.s = (i : Int)) → ∃ c ∈ l, c.s = (i : Int) ∧ laidIn p j s x y i no l = laidCut p j s x y c
  | [], ⟨c, h, _⟩ => by cases h
  | c :: r, h => by
    unfold laidIn
    by_cases e : c.s = (i : Int)
    · rw [if_pos e]
      exact ⟨c, List.mem_cons_self, e, rfl⟩
    · rw [if_neg e]
      obtain ⟨d, hd, he⟩ := h
      rcases List.mem_cons.1 hd with rfl | hd
      · exact absurd he e
      · obtain ⟨c', h1, h2, h3⟩ := laidIn_find p j s x y i no r ⟨d, hd, he⟩
        exact ⟨c', List.mem_cons_of_mem _ h1, h2, h3⟩
theorem laidGo_find (p : Pat) (j : Job) (w x y : Int) (cuts : List Cut) (hc : ∀ i, i < j.ss.length → ∃ c ∈ cuts, c.s = (i : Int)) : ∀ (l : List Strip) (i : Nat), j.ss.drop i = l → (∃ s ∈ l, lies w x y s = true) →
    ∃ (m : Nat) (s : Strip) (c : Cut), j.ss[m]? = some s ∧ lies w x y s = true ∧ c ∈ cuts ∧ c.s = (m : Int) ∧ laidGo p j w x y cuts i l = laidCut p j s x y c
  | [], _, _, ⟨s, h, _⟩ => by cases h
  | s :: r, i, hd, h => by
    have hlt : i < j.ss.length := by
      rcases Nat.lt_or_ge i j.ss.length with q | q
      · exact q
      · rw [List.drop_of_length_le q] at hd
        cases hd
    have gs : j.ss[i]? = some s := by
      have := List.getElem?_drop (xs := j.ss) (i := i) (j := 0)
      rw [hd] at this
      simpa using this.symm
    unfold laidGo
    cases hl : lies w x y s with
    | true =>
      rw [if_pos rfl]
      obtain ⟨c, h1, h2, h3⟩ := laidIn_find p j s x y i (laidGo p j w x y cuts (i + 1) r) cuts (hc i hlt)
      exact ⟨i, s, c, gs, hl, h1, h2, h3⟩
    | false =>
      rw [if_neg (by simp)]
      have hd' : j.ss.drop (i + 1) = r := by
        rw [← List.drop_drop, hd]
        rfl
      obtain ⟨s', hs', hl'⟩ := h
      rcases List.mem_cons.1 hs' with rfl | hs'
      · rw [hl] at hl'; cases hl'
      · exact laidGo_find p j w x y cuts hc r (i + 1) hd' ⟨s', hs', hl'⟩
/-- The colour of a laid cell is that of the plane. -/
theorem laid_plane {p : Pat} (hp : patE p = 0) {r : Room} {w o : Int} (hd : dividedE r w o = 0) {j : Job} (hss : j.ss = stripsV r w o) (hje : jobE j = 0) {l : List Cut} {n : Nat} (hf : fewM j = some (l, n)) {x y : Nat} (hx : x < 60) (hy : y < 60) (hc : cellM r.rects x y = true) :
    laidV p w j l x y = .tup [.int .i64 0, .int .i64 13] ∨ ∃ a, laidV p w j l x y = .tup [.int .i64 a, .int .i64 0] ∧ atV p (x - o) y = .tup [.int .i64 a, .int .i64 0] := by
  have hpo := patE_ok hp
  obtain ⟨h1, h2, h3, h4⟩ := dividedE_zero hd
  obtain ⟨hacc, _⟩ := accept hje hf
  have hfit := checkM_zero hacc
  obtain ⟨hj, hjo⟩ := jobE_zero hje
  have hchk : checkL j l = 0 := by
    unfold checkM at hacc
    rw [if_pos hje] at hacc
    exact hacc
  unfold laidV
  rw [if_neg (by omega), if_neg (by omega), if_neg (by rw [inB_iff.2 (by omega)]; simp)]
  by_cases hm : w.tmod (leastW p : Nat) = 0 ∧ j.rep.tmod (roundN (leastW p) (leastS p) (leastH p) : Nat) = 0
  rotate_left
  · rw [if_pos hm]
    exact .inl rfl
  right
  rw [if_neg (fun h => h hm), if_neg (by omega)]
  have hcov := covers_strips (cells_inside (roomE_all h1)) (w := w) (o := o) h2.1 h2.2 h3 h4
  unfold coversM at hcov
  have hcv := List.all_eq_true.1 (List.all_eq_true.1 hcov x (List.mem_range.2 hx)) y (List.mem_range.2 hy)
  rw [hc] at hcv
  simp only [Bool.not_true, Bool.false_or, decide_eq_true_eq] at hcv
  have hsv : stripsV r w o = stripsM (cellM r.rects) w o := if_pos hd
  rw [← hsv, ← hss] at hcv
  have hex : ∃ s ∈ j.ss, lies w x y s = true := by
    have : 0 < j.ss.countP (lies w x y) := by omega
    exact List.countP_pos_iff.1 this
  obtain ⟨m, s, c, gs, hl, hcm, hcs, hgo⟩ := laidGo_find p j w x y l (fun i hi => fit_all hfit hi) j.ss 0 rfl hex
  rw [hgo]
  unfold laidCut
  have hly := lies_iff.1 hl
  obtain ⟨pre, ho⟩ := fit_one hfit hcm
  have hst : stripOf j c = s := by
    rw [strip_idx hcs]
    unfold stripI
    exact getD_of gs
  have hph := ho.phased
  rw [hst] at hph
  have hrep := hj.rep
  have hsm : s ∈ stripsM (cellM r.rects) w o := by rw [← hsv, ← hss]; exact List.mem_of_getElem? gs
  obtain ⟨k, hk⟩ := strips_x hsm
  obtain ⟨u, hu⟩ := Int.dvd_of_tmod_eq_zero hm.1
  obtain ⟨v, hv⟩ := Int.dvd_of_tmod_eq_zero hm.2
  have hrow : ((rollOf j c).ph + c.a + y - s.a) % j.rep = (y : Int) % j.rep := by
    have hd0 : ((rollOf j c).ph + c.a - s.a) % j.rep = 0 := Int.emod_eq_emod_iff_emod_sub_eq_zero.1 hph
    obtain ⟨q, hq⟩ := Int.dvd_of_emod_eq_zero hd0
    rw [show (rollOf j c).ph + c.a + (y : Int) - s.a = y + j.rep * q by omega, Int.add_mul_emod_self_left]
  rw [hrow]
  have ey := Int.mul_ediv_add_emod (y : Int) j.rep
  have y1 := Int.emod_nonneg (y : Int) (show j.rep ≠ 0 by omega)
  have y2 := Int.emod_lt_of_pos (y : Int) (show 0 < j.rep by omega)
  have hcol : colP p ((x : Int) - s.x) ((y : Int) % j.rep) = colP p ((x : Int) - o) y := by
    have p1 := (per_wide hpo).int (-(k * u))
    have p2 := (per_round hpo).int (-(v * ((y : Int) / j.rep)))
    have p3 := p1.add p2
    have := p3 ((x : Int) - o) y
    rw [Int.mul_zero, Int.mul_zero, Int.add_zero, Int.zero_add] at this
    rw [← this]
    congr 1
    · rw [hk, hu, Int.neg_mul, show k * ((leastW p : Nat) * u) = k * u * (leastW p : Nat) by rw [Int.mul_comm ((leastW p : Nat) : Int) u, Int.mul_assoc]]
      omega
    · have e3 : v * ((y : Int) / j.rep) * (roundN (leastW p) (leastS p) (leastH p) : Nat) = j.rep * ((y : Int) / j.rep) := by
        rw [Int.mul_right_comm, Int.mul_comm v, ← hv]
      rw [Int.neg_mul, e3]
      omega
  refine ⟨colP p ((x : Int) - o) y, ?_, ?_⟩
  · have hn : (nearP ((x : Int) - s.x) && nearP ((y : Int) % j.rep)) = true := by
      rw [Bool.and_eq_true, nearP_iff, nearP_iff]
      omega
    unfold atV atP
    rw [if_pos hp, if_pos hn, hcol]
  · have hn : (nearP ((x : Int) - o) && nearP (y : Int)) = true := by
      rw [Bool.and_eq_true, nearP_iff, nearP_iff]
      omega
    unfold atV atP
    rw [if_pos hp, if_pos hn]
end Go.AM.D
