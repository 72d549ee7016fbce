import Derived.Test.YtffbfhjcpgcdeaaCRollL
import Derived.Test.YtffbfhjcpgcdeaaAmDynB
set_option linter.unusedVariables false
set_option linter.unusedSimpArgs false
set_option maxRecDepth 20000

namespace Go.AM.C
open Go Go.Proofs

def bestW (ms : List Mk) (l : List Art) (vs : List Int) (n : Nat) : Nat → Int × Int
  | 0 => (at0 vs (n - 1), -1)
  | k + 1 => match l[k]? with
    | some a => if fitA ms a ((n : Int) - a.len) = true ∧ (bestW ms l vs n k).1 < at0 vs ((n : Int) - a.len).toNat + a.price then (at0 vs ((n : Int) - a.len).toNat + a.price, (k : Int)) else bestW ms l vs n k
    | none => bestW ms l vs n k

theorem bestW_some {ms : List Mk} {l : List Art} {vs : List Int} {n k : Nat} {a : Art} (h : l[k]? = some a) :
    bestW ms l vs n (k + 1) = if fitA ms a ((n : Int) - a.len) = true ∧ (bestW ms l vs n k).1 < at0 vs ((n : Int) - a.len).toNat + a.price then (at0 vs ((n : Int) - a.len).toNat + a.price, (k : Int)) else bestW ms l vs n k := by
  rw [bestW, h]

def worthL (ms : List Mk) (l : List Art) : Nat → List (Int × Int)
  | 0 => [(0, -1)]
  | n + 1 => worthL ms l n ++ [bestW ms l ((worthL ms l n).map (·.1)) (n + 1) l.length]

def valsW (ms : List Mk) (l : List Art) (n : Nat) : List Int := (worthL ms l n).map (·.1)
def lastW (ms : List Mk) (l : List Art) (n : Nat) : List Int := (worthL ms l n).map (·.2)

theorem worth_len (ms : List Mk) (l : List Art) : ∀ n, (worthL ms l n).length = n + 1
  | 0 => rfl
  | n + 1 => by rw [worthL, List.length_append, worth_len ms l n]; rfl
theorem vals_len (ms : List Mk) (l : List Art) (n : Nat) : (valsW ms l n).length = n + 1 := by unfold valsW; rw [List.length_map, worth_len]
theorem last_len (ms : List Mk) (l : List Art) (n : Nat) : (lastW ms l n).length = n + 1 := by unfold lastW; rw [List.length_map, worth_len]
theorem vals_succ (ms : List Mk) (l : List Art) (n : Nat) : valsW ms l (n + 1) = valsW ms l n ++ [(bestW ms l (valsW ms l n) (n + 1) l.length).1] := by
  unfold valsW; rw [worthL, List.map_append]; rfl
theorem last_succ (ms : List Mk) (l : List Art) (n : Nat) : lastW ms l (n + 1) = lastW ms l n ++ [(bestW ms l (valsW ms l n) (n + 1) l.length).2] := by
  unfold lastW valsW; rw [worthL, List.map_append]; rfl

theorem at0_app {us vs : List Int} {i : Nat} (h : i < us.length) : at0 (us ++ vs) i = at0 us i := by
  unfold at0
  rw [List.getD_eq_getElem?_getD, List.getD_eq_getElem?_getD, List.getElem?_append_left h]

theorem at0_mid {us vs : List Int} {x : Int} {i : Nat} (h : i = us.length) : at0 (us ++ x :: vs) i = x := by
  subst h
  unfold at0
  rw [List.getD_eq_getElem?_getD, List.getElem?_append_right (Nat.le_refl _)]
  simp

theorem best_in {ms : List Mk} {l : List Art} (hl : validA l = 0) {vs : List Int} {n : Nat} (hn : 1 ≤ n) (hv : vs.length = n) (hb : ∀ i, i < n → 0 ≤ at0 vs i ∧ at0 vs i ≤ 10000 * i) : ∀ k, 0 ≤ (bestW ms l vs n k).1 ∧ (bestW ms l vs n k).1 ≤ 10000 * n
  | 0 => by
    have := hb (n - 1) (by omega)
    simp only [bestW]; omega
  | k + 1 => by
    have ih := best_in hl hn hv hb (ms := ms) k
    cases hk : l[k]? with
    | none => rw [bestW, hk]; exact ih
    | some a =>
      rw [bestW_some hk]
      split
      · rename_i h
        have a2 := (validA_len hl).2 a (List.mem_of_getElem? hk)
        have h1 := h.1
        unfold fitA at h1
        simp only [Bool.and_eq_true, decide_eq_true_eq] at h1
        have := hb ((n : Int) - a.len).toNat (by omega)
        dsimp only; omega
      · exact ih

theorem vals_in {ms : List Mk} {l : List Art} (hl : validA l = 0) : ∀ n i : Nat, i ≤ n → 0 ≤ at0 (valsW ms l n) i ∧ at0 (valsW ms l n) i ≤ 10000 * i
  | 0, i, h => by
    have : i = 0 := by omega
    subst this
    simp [valsW, worthL, at0]
  | n + 1, i, h => by
    have ih := vals_in hl (ms := ms) n
    rw [vals_succ]
    by_cases e : i ≤ n
    · rw [at0_app (by rw [vals_len]; omega)]; exact ih i e
    · have : i = n + 1 := by omega
      subst this
      rw [at0_mid (by rw [vals_len])]
      exact best_in hl (by omega) (vals_len ms l n) (fun i hi => ih i (by omega)) l.length

end Go.AM.C

