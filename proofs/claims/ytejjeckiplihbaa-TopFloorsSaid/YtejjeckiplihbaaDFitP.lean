/-
What is known of accepted cuts.
-/
import Derived.Test.YtejjeckiplihbaaDCheckG
set_option linter.unusedSimpArgs false
set_option maxRecDepth 20000

namespace Go.AM.D
open Go Go.AM Go.Proofs

/-- What is known of cuts without an error. -/
theorem firstE_good {j : Job} (hj : Right j) {c0 : Cut} : ∀ (post pre : List Cut), firstE j c0 pre post = 0 → Good j pre → countS j.ss.length pre = pre.length → Good j (pre ++ post) ∧ countS j.ss.length (pre ++ post) = (pre ++ post).length
  | [], pre, _, hg, hc => by rw [List.append_nil]; exact ⟨hg, hc⟩
  | c :: post, pre, h, hg, hc => by
    have ho : oneE j c0 pre c = 0 := by
      rw [firstE_cons] at h
      split at h
      · rename_i h1; exact h1
      · exact h
    rw [firstE_next ho] at h
    have h1 := oneE_zero ho
    have := firstE_good hj post (pre ++ [c]) h (good_snoc hj hg h1) (by rw [count_snoc ⟨h1.inn.1, h1.inn.2.1⟩ h1.fresh, hc]; simp)
    simpa using this
structure Fit (j : Job) (cuts : List Cut) : Prop where
  job : Right j
  good : Good j cuts
  count : countS j.ss.length cuts = cuts.length
  len : cuts.length = j.ss.length
  first : firstE j (head0 cuts) [] cuts = 0
theorem countS_le (n : Nat) (pre : List Cut) : countS n pre ≤ n := by
  have := List.countP_le_length (p := cutAt pre) (l := List.range n)
  rw [List.length_range] at this
  exact this
theorem checkM_zero {j : Job} {cuts : List Cut} (h : checkM j cuts = 0) : Fit j cuts := by
  unfold checkM at h
  split at h
  · rename_i he
    have hj := (jobE_zero he).1
    unfold checkL at h
    split at h
    · rename_i hf
      split at h
      · cases h
      · rename_i hl
        obtain ⟨h1, h2⟩ := firstE_good hj cuts [] hf (fun _ h => by cases h) (by simp [countS, cutAt])
        rw [List.nil_append] at h1 h2
        have := countS_le j.ss.length cuts
        exact ⟨hj, h1, h2, by omega, hf⟩
    · rename_i hf
      exact absurd h hf
  · rename_i he
    exact absurd h he

def rollUsed (cuts : List Cut) (r : Nat) : Bool := cuts.any fun c => decide (c.r = (r : Int))
def usedN (j : Job) (cuts : List Cut) : Nat := (List.range j.rs.length).countP (rollUsed cuts)
def usedV (j : Job) (cuts : List Cut) : Int := if checkM j cuts = 0 then (usedN j cuts : Nat) else 0

end Go.AM.D
