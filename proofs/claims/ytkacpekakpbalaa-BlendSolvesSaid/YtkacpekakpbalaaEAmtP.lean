/-
The amounts of a choice (plain).
-/
import Derived.Test.YtkacpekakpbalaaEEqs
import Derived.Test.YtkacpekakpbalaaEDetG
import Derived.Test.YtkacpekakpbalaaEOptG
set_option linter.unusedVariables false
set_option linter.unusedSimpArgs false
set_option maxRecDepth 20000

namespace Go.AM.E
open Go

theorem eqRows_head (b : Blend) (vc vp : List Int) : ∀ k, ∃ rest, eqRows b vc vp k = eqOnes vc b.cs.length :: rest
  | 0 => ⟨[], rfl⟩
  | k + 1 => by
    obtain ⟨rest, h⟩ := eqRows_head b vc vp k
    unfold eqRows
    split
    · exact ⟨rest, h⟩
    · exact ⟨rest ++ [eqRow b.cs vc k b.cs.length], by rw [h]; rfl⟩
theorem eqRow_ones (cs : List Cem) (vc : List Int) (k : Nat) : ∀ i, (eqRow cs vc k i).length = (eqOnes vc i).length
  | 0 => rfl
  | i + 1 => by
    have := eqRow_ones cs vc k i
    unfold eqRow eqOnes
    split
    · simp; omega
    · exact this
theorem eqRows_all (b : Blend) (vc vp : List Int) : ∀ k, ∀ l ∈ eqRows b vc vp k, l.length = (eqOnes vc b.cs.length).length
  | 0, l, h => by simp [eqRows] at h; rw [h]
  | k + 1, l, h => by
    unfold eqRows at h
    split at h
    · exact eqRows_all b vc vp k l h
    · rcases List.mem_append.1 h with h | h
      · exact eqRows_all b vc vp k l h
      · rw [List.mem_singleton.1 h, eqRow_ones]
theorem eqOnes_mono (vc : List Int) : ∀ {i m : Nat}, i ≤ m → (eqOnes vc i).length ≤ (eqOnes vc m).length := by
  intro i m h
  induction m with
  | zero => have : i = 0 := by omega
            rw [this]; exact Nat.le_refl _
  | succ m ih =>
    rcases Nat.lt_or_ge i (m + 1) with h1 | h1
    · have := ih (by omega)
      have e : (eqOnes vc m).length ≤ (eqOnes vc (m + 1)).length := by
        show _ ≤ (if vc.getD m 0 = 2 then eqOnes vc m ++ [1] else eqOnes vc m).length
        split <;> simp
      omega
    · have : i = m + 1 := by omega
      rw [this]; exact Nat.le_refl _
def xRef (cs : List Cem) (n : Nat) (rows : List (List Int)) (right : List Int) (sg dn : Int) (vc : List Int) (i : Nat) : Int :=
  if vc.getD i 0 = 0 then 0 else if vc.getD i 0 = 1 then (cs.getD i cem0).st * dn else IntKind.i64.wrap (sg * IntKind.i64.wrap (detF n (replM (rows.map fun l => (true, l)) (eqOnes vc i).length right)))
def xsRef (f : Nat → Int) (m : Nat) : List Int := (List.range m).map f
theorem xsRef_succ (f : Nat → Int) (m : Nat) : xsRef f (m + 1) = xsRef f m ++ [f m] := by unfold xsRef; rw [List.range_succ, List.map_append]; rfl
theorem xsRef_len (f : Nat → Int) (m : Nat) : (xsRef f m).length = m := by simp [xsRef]
def okRef (cs : List Cem) (dn : Int) (f : Nat → Int) (m : Nat) : Bool := (List.range m).all fun i => inB (f i) 0 ((cs.getD i cem0).st * dn)
theorem okRef_succ (cs : List Cem) (dn : Int) (f : Nat → Int) (m : Nat) : okRef cs dn f (m + 1) = (okRef cs dn f m && inB (f m) 0 ((cs.getD m cem0).st * dn)) := by unfold okRef; rw [List.range_succ, List.all_append]; simp
theorem okRef_no {cs : List Cem} {dn : Int} {f : Nat → Int} {i m : Nat} (h : okRef cs dn f i = false) (hi : i ≤ m) : okRef cs dn f m = false := by
  induction m with
  | zero => have : i = 0 := by omega
            rw [← this]; exact h
  | succ m ih =>
    rcases Nat.lt_or_ge i (m + 1) with h1 | h1
    · rw [okRef_succ, ih (by omega)]; rfl
    · have : i = m + 1 := by omega
      rw [← this]; exact h
theorem okRef_at {cs : List Cem} {dn : Int} {f : Nat → Int} {m : Nat} (h : okRef cs dn f m = true) {i : Nat} (hi : i < m) : inB (f i) 0 ((cs.getD i cem0).st * dn) = true := List.all_eq_true.1 h i (List.mem_range.2 hi)
theorem replM_len {M : List (Bool × List Int)} {j : Nat} {c : List Int} (h : c.length = M.length) : (replM M j c).length = M.length := by unfold replM; simp; omega
theorem replM_all {M : List (Bool × List Int)} {j : Nat} {c : List Int} {n : Nat} (h : ∀ l ∈ M, l.2.length = n) : ∀ l ∈ replM M j c, l.length = n := by
  intro l hl
  obtain ⟨p, hp, rfl⟩ := List.mem_map.1 hl
  rw [List.length_set]
  exact h p.1 (List.of_mem_zip hp).1
def amRef (b : Blend) (vc vp : List Int) : Option (List Int × Int) :=
  let rows := eqRows b vc vp b.lo.length
  let d := detF rows.length rows
  if rows.length ≠ (eqOnes vc b.cs.length).length then none else if d = 0 then none else
  let f := xRef b.cs rows.length rows (eqRight b vc vp b.lo.length) (sgD d) (sgD d * d) vc
  if okRef b.cs (sgD d * d) f b.cs.length = true then some (xsRef f b.cs.length, sgD d * d) else none
def encAm3 (b : Blend) : Option (List Int × Int) → V
  | none => .tup [.sl true [], .int .i64 0, .bool false]
  | some (x, d) => .tup [.sl true (x.map vI), .int .i64 d, .bool (keptB b x d)]
end Go.AM.E

