/-
The next place at which a strip can begin (plain).
-/
import Derived.Test.YtejjeckiplihbaaDLines
set_option linter.unusedSimpArgs false
set_option maxRecDepth 20000

namespace Go.AM.D
open Go

def nextM (phase rep at' a : Int) : Int := at' + (a - phase - at') % rep
theorem next_in {phase rep at' a : Int} (h : 1 ≤ rep) : at' ≤ nextM phase rep at' a ∧ nextM phase rep at' a < at' + rep := by
  have h1 := Int.emod_nonneg (a - phase - at') (show rep ≠ 0 by omega)
  have h2 := Int.emod_lt_of_pos (a - phase - at') (show 0 < rep by omega)
  unfold nextM
  omega
theorem next_eq {phase rep at' a : Int} (h : 1 ≤ rep) : (phase + nextM phase rep at' a) % rep = a % rep := by
  have h3 := Int.mul_ediv_add_emod (a - phase - at') rep
  unfold nextM
  rw [show phase + (at' + (a - phase - at') % rep) = a - rep * ((a - phase - at') / rep) by omega]
  rw [Int.sub_mul_emod_self_left]
theorem next_first {phase rep at' a t : Int} (h : 1 ≤ rep) (h1 : at' ≤ t) (h2 : (phase + t) % rep = a % rep) : nextM phase rep at' a ≤ t := by
  have h4 := next_eq (phase := phase) (at' := at') (a := a) h
  have h5 := next_in (phase := phase) (at' := at') (a := a) h
  rw [← h4] at h2
  have h3 := Int.emod_emod_of_dvd (0 : Int) (Int.dvd_refl rep)
  have hd : rep ∣ (phase + nextM phase rep at' a) - (phase + t) := Int.dvd_of_emod_eq_zero (Int.emod_eq_emod_iff_emod_sub_eq_zero.1 h2.symm)
  by_cases hlt : nextM phase rep at' a ≤ t
  · exact hlt
  · have := Int.le_of_dvd (by omega) hd
    omega
theorem next_code {phase rep at' a : Int} (h : 1 ≤ rep) : at' + ((a - phase - at').tmod rep + rep).tmod rep = nextM phase rep at' a := by
  have h1 : -rep < (a - phase - at').tmod rep := by
    have := Int.tmod_lt_of_pos (a - phase - at') (show 0 < rep by omega)
    have h2 := Int.lt_tmod_of_pos (a - phase - at') (show 0 < rep by omega)
    omega
  rw [Int.tmod_eq_emod_of_nonneg (by omega)]
  unfold nextM
  congr 1
  have h3 := Int.mul_tdiv_add_tmod (a - phase - at') rep
  generalize (a - phase - at').tmod rep = m at *
  rw [show m + rep = a - phase - at' + rep * (1 - (a - phase - at').tdiv rep) by rw [Int.mul_sub, Int.mul_one]; omega]
  rw [Int.add_mul_emod_self_left]
theorem next_miss {phase rep at' a : Int} {i : Nat} (h : 1 ≤ rep) (hi : i < ((a - phase - at') % rep).toNat) : ¬ (phase + (at' + i)) % rep = a % rep := by
  intro e
  have h1 := next_first (phase := phase) (at' := at') (a := a) (t := at' + i) h (by omega) e
  unfold nextM at h1
  omega
theorem next_end {phase rep at' a : Int} (h : 1 ≤ rep) : at' + ((((a - phase - at') % rep).toNat : Nat) : Int) = nextM phase rep at' a := by
  have h1 := Int.emod_nonneg (a - phase - at') (show rep ≠ 0 by omega)
  unfold nextM
  omega
theorem next_one {phase at' a : Int} : nextM phase 1 at' a = at' := by
  unfold nextM
  rw [Int.emod_one]
  omega

structure Roll where
  l : Int
  ph : Int
  sh : Int
def encRoll (r : Roll) : V := .agg [.int .i64 r.l, .int .i64 r.ph, .int .i64 r.sh]
def rollOk (r : Roll) (rep : Int) : Bool := inB rep 1 144 && inB r.l 1 300 && inB r.ph 0 (rep - 1) && inB r.sh 0 99
theorem rollOk_iff {r : Roll} {rep : Int} : rollOk r rep = true ↔ (1 ≤ rep ∧ rep ≤ 144) ∧ (1 ≤ r.l ∧ r.l ≤ 300) ∧ (0 ≤ r.ph ∧ r.ph ≤ rep - 1) ∧ (0 ≤ r.sh ∧ r.sh ≤ 99) := by
  unfold rollOk
  simp only [Bool.and_eq_true, inB_iff, and_assoc]
def stripOk (s : Strip) : Bool := inB s.x (-20) 60 && decide (0 ≤ s.a) && decide (s.a < s.b) && decide (s.b ≤ 60)
theorem stripOk_iff {s : Strip} : stripOk s = true ↔ (-20 ≤ s.x ∧ s.x ≤ 60) ∧ 0 ≤ s.a ∧ s.a < s.b ∧ s.b ≤ 60 := by
  unfold stripOk
  simp only [Bool.and_eq_true, inB_iff, and_assoc, decide_eq_true_eq]
end Go.AM.D
