/-
Natural numbers by words of 32 bits, the lowest first.
-/
import Derived.Test.YteocppddjlglbaaAmP
set_option linter.unusedVariables false
set_option linter.unusedSimpArgs false
set_option maxRecDepth 20000

namespace Go.AM.F

def valW : List Nat → Nat
  | [] => 0
  | w :: r => w + 4294967296 * valW r

def wordsOk (l : List Nat) : Prop := ∀ w ∈ l, w < 4294967296

theorem valW_lt : ∀ (l : List Nat), wordsOk l → valW l < 4294967296 ^ l.length
  | [], _ => by simp [valW]
  | w :: r, h => by
    have h1 := valW_lt r (fun x hx => h x (List.mem_cons_of_mem _ hx))
    have h2 := h w (List.mem_cons_self ..)
    simp only [valW, List.length_cons, Nat.pow_succ]
    generalize 4294967296 ^ r.length = P at h1 ⊢
    omega

def timesW (n : Nat) : Nat → List Nat → List Nat
  | _, [] => []
  | c, w :: r => (c + w * n) % 4294967296 :: timesW n ((c + w * n) / 4294967296) r

def plusW : Nat → List Nat → List Nat → List Nat
  | c, v :: r, w :: s => (c + (v + w)) % 4294967296 :: plusW ((c + (v + w)) / 4294967296) r s
  | _, _, _ => []

theorem timesW_len (n : Nat) : ∀ (l : List Nat) (c : Nat), (timesW n c l).length = l.length
  | [], _ => rfl
  | _ :: r, _ => by simp only [timesW, List.length_cons, timesW_len n r]

theorem timesW_ok (n : Nat) : ∀ (l : List Nat) (c : Nat), wordsOk (timesW n c l)
  | [], _ => by intro w hw; cases hw
  | _ :: r, _ => by
    intro w hw
    simp only [timesW, List.mem_cons] at hw
    rcases hw with rfl | hw
    · omega
    · exact timesW_ok n r _ w hw

theorem timesW_val (n : Nat) : ∀ (l : List Nat) (c : Nat), valW l * n + c < 4294967296 ^ l.length → valW (timesW n c l) = valW l * n + c
  | [], c, h => by simp [valW, timesW] at h ⊢; omega
  | w :: r, c, h => by
    simp only [valW, timesW, List.length_cons, Nat.pow_succ] at h ⊢
    have e1 : (w + 4294967296 * valW r) * n + c = (c + w * n) + 4294967296 * (valW r * n) := by
      rw [Nat.add_mul, Nat.mul_assoc]; omega
    rw [e1] at h ⊢
    have h2 : valW r * n + (c + w * n) / 4294967296 < 4294967296 ^ r.length := by
      generalize 4294967296 ^ r.length = P at h ⊢
      generalize valW r * n = Q at h ⊢
      generalize c + w * n = R at h ⊢
      omega
    rw [timesW_val n r _ h2]
    generalize valW r * n = Q
    generalize c + w * n = R
    omega

theorem plusW_len : ∀ (l m : List Nat) (c : Nat), l.length = m.length → (plusW c l m).length = l.length
  | [], [], _, _ => rfl
  | [], _ :: _, _, h => by cases h
  | _ :: _, [], _, h => by cases h
  | _ :: r, _ :: s, _, h => by
    simp only [plusW, List.length_cons, plusW_len r s _ (by simpa using h)]

theorem plusW_ok : ∀ (l m : List Nat) (c : Nat), wordsOk (plusW c l m)
  | [], [], _ => by intro w hw; simp [plusW] at hw
  | [], _ :: _, _ => by intro w hw; simp [plusW] at hw
  | _ :: _, [], _ => by intro w hw; simp [plusW] at hw
  | _ :: r, _ :: s, _ => by
    intro w hw
    simp only [plusW, List.mem_cons] at hw
    rcases hw with rfl | hw
    · omega
    · exact plusW_ok r s _ w hw

theorem plusW_val : ∀ (l m : List Nat) (c : Nat), l.length = m.length → valW l + valW m + c < 4294967296 ^ l.length → valW (plusW c l m) = valW l + valW m + c
  | [], [], c, _, h => by simp [valW, plusW] at h ⊢; omega
  | [], _ :: _, _, h, _ => by cases h
  | _ :: _, [], _, h, _ => by cases h
  | v :: r, w :: s, c, hl, h => by
    simp only [valW, plusW, List.length_cons, Nat.pow_succ] at h ⊢
    have hl' : r.length = s.length := by simpa using hl
    have h2 : valW r + valW s + (c + (v + w)) / 4294967296 < 4294967296 ^ r.length := by
      generalize 4294967296 ^ r.length = P at h ⊢
      omega
    rw [plusW_val r s _ hl' h2]
    omega
end Go.AM.F

