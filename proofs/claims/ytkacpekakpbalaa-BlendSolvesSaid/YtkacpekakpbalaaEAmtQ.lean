/-
The document's search for the least cost (plain).
-/
import Derived.Test.YtkacpekakpbalaaEAmtP
import Derived.Test.YtkacpekakpbalaaEChoose
set_option linter.unusedVariables false
set_option linter.unusedSimpArgs false
set_option maxRecDepth 20000

namespace Go.AM.E
open Go

theorem eqOnes_one (vc : List Int) : ∀ i, ∀ x ∈ eqOnes vc i, x = 1
  | 0, x, h => by simp [eqOnes] at h
  | i + 1, x, h => by
    unfold eqOnes at h
    split at h
    · rcases List.mem_append.1 h with h | h
      · exact eqOnes_one vc i x h
      · exact List.mem_singleton.1 h
    · exact eqOnes_one vc i x h
theorem eqRow_in {cs : List Cem} {vc : List Int} {k : Nat} (hp : ∀ i, -20 ≤ (cs.getD i cem0).ps.getD k 0 ∧ (cs.getD i cem0).ps.getD k 0 ≤ 20) : ∀ i, ∀ x ∈ eqRow cs vc k i, -20 ≤ x ∧ x ≤ 20
  | 0, x, h => by simp [eqRow] at h
  | i + 1, x, h => by
    unfold eqRow at h
    split at h
    · rcases List.mem_append.1 h with h | h
      · exact eqRow_in hp i x h
      · rw [List.mem_singleton.1 h]; exact hp i
    · exact eqRow_in hp i x h
theorem ps_in {b : Blend} (hb : Valid b) (k i : Nat) : -20 ≤ (b.cs.getD i cem0).ps.getD k 0 ∧ (b.cs.getD i cem0).ps.getD k 0 ≤ 20 := by
  cases hc : b.cs[i]? with
  | none =>
    have e : b.cs.getD i cem0 = cem0 := by rw [List.getD_eq_getElem?_getD, hc]; rfl
    rw [e]
    simp [cem0]
  | some c =>
    have e : b.cs.getD i cem0 = c := by rw [List.getD_eq_getElem?_getD, hc]; rfl
    rw [e]
    have := prop_f hb k c (List.mem_of_getElem? hc)
    omega
theorem eqRows_rest (b : Blend) (vc vp : List Int) (hb : Valid b) : ∀ k, ∃ rest, eqRows b vc vp k = eqOnes vc b.cs.length :: rest ∧ ∀ l ∈ rest, ∀ x ∈ l, -20 ≤ x ∧ x ≤ 20
  | 0 => ⟨[], rfl, fun l h => by cases h⟩
  | k + 1 => by
    obtain ⟨rest, h, h2⟩ := eqRows_rest b vc vp hb k
    unfold eqRows
    split
    · exact ⟨rest, h, h2⟩
    · refine ⟨rest ++ [eqRow b.cs vc k b.cs.length], by rw [h]; rfl, fun l hl => ?_⟩
      rcases List.mem_append.1 hl with hl | hl
      · exact h2 l hl
      · rw [List.mem_singleton.1 hl]; exact eqRow_in (fun i => ps_in hb k i) _
theorem det_ones {n : Nat} {r : List Int} {rest : List (List Int)} (hn : n ≤ 4) (hr : r.length = n) (hR : rest.length + 1 = n) (h1 : ∀ x ∈ r, x = 1) (hl : ∀ l ∈ rest, l.length = n) (hx : ∀ l ∈ rest, ∀ x ∈ l, -20 ≤ x ∧ x ≤ 20) : -192000 ≤ detF n (r :: rest) ∧ detF n (r :: rest) ≤ 192000 := by
  obtain ⟨m, rfl⟩ : ∃ m, n = m + 1 := ⟨n - 1, by omega⟩
  have hBn : detBound m ≤ 48000 := by
    have h : ∀ n, n ≤ 3 → detBound n ≤ 48000 := by decide
    exact h m (by omega)
  have hlap := lap_in (f := fun k => detF m (rest.map fun l => l.eraseIdx k)) (r := r) (a := 1) (B := 48000) (fun x h => by rw [h1 x h]; omega) (by decide) (fun i hi => by
    have := det_in m (rest.map fun l => l.eraseIdx i) (fun l h => by
      obtain ⟨l0, h0, rfl⟩ := List.mem_map.1 h
      rw [List.length_eraseIdx, hl l0 h0, if_pos (by omega)]; omega) (fun l h x hx2 => by
      obtain ⟨l0, h0, rfl⟩ := List.mem_map.1 h
      exact hx l0 h0 x (List.mem_of_mem_eraseIdx hx2))
    omega) r.length (Nat.le_refl _)
  show -192000 ≤ lapTo (fun k => detF m (rest.map fun l => l.eraseIdx k)) r r.length ∧ lapTo (fun k => detF m (rest.map fun l => l.eraseIdx k)) r r.length ≤ 192000
  rw [hr] at hlap ⊢
  omega
theorem eqDet_in {b : Blend} (hb : Valid b) (vc vp : List Int) (h : (eqRows b vc vp b.lo.length).length = (eqOnes vc b.cs.length).length) :
    -192000 ≤ detF (eqRows b vc vp b.lo.length).length (eqRows b vc vp b.lo.length) ∧ detF (eqRows b vc vp b.lo.length).length (eqRows b vc vp b.lo.length) ≤ 192000 := by
  obtain ⟨rest, hr, hx⟩ := eqRows_rest b vc vp hb b.lo.length
  have hall := eqRows_all b vc vp b.lo.length
  have hlen := eqRows_len b vc vp b.lo.length
  have hl3 := hb.2.2.1
  rw [hr] at h hall hlen ⊢
  exact det_ones (by omega) h.symm rfl (eqOnes_one vc _) (fun l hl => by rw [hall l (by simp [hl]), ← h]) hx

def amN (b : Blend) (n : Nat) : Option (List Int × Int) := amRef b (digs n b.cs.length) (digs (n / 3 ^ b.cs.length) b.lo.length)
def accR (b : Blend) (n : Nat) : Option (Int × Int) := match amN b n with
  | some (x, d) => if keptB b x d = true then some (costM b x, d) else none
  | none => none
structure Lst where
  num : Int
  den : Int
  found : Bool
def lstStep (s : Lst) (r : Option (Int × Int)) : Lst := match r with
  | some (c, d) => if s.found = false ∨ c * s.den < s.num * d then ⟨c, d, true⟩ else s
  | none => s
def lstTo (b : Blend) : Nat → Lst
  | 0 => ⟨0, 1, false⟩
  | n + 1 => lstStep (lstTo b n) (accR b n)
theorem amRef_right {b : Blend} (hb : Valid b) {vc vp : List Int} {x : List Int} {d : Int} (h : amRef b vc vp = some (x, d)) : x.length = b.cs.length ∧ (∀ n ∈ x, 0 ≤ n ∧ n ≤ 192000000) ∧ 1 ≤ d ∧ d ≤ 192000 := by
  unfold amRef at h
  dsimp only at h
  split at h
  · cases h
  rename_i h1
  split at h
  · cases h
  rename_i h2
  split at h
  case isFalse => cases h
  rename_i h3
  cases h
  have hd := eqDet_in hb vc vp (by simpa using h1)
  generalize detF (eqRows b vc vp b.lo.length).length (eqRows b vc vp b.lo.length) = d at *
  have hdn : 1 ≤ sgD d * d ∧ sgD d * d ≤ 192000 := by unfold sgD; split <;> omega
  refine ⟨xsRef_len _ _, fun n hn => ?_, hdn⟩
  obtain ⟨i, hi, rfl⟩ := List.mem_map.1 hn
  have hi := List.mem_range.1 hi
  have h4 := inB_iff.1 (okRef_at h3 hi)
  have h5 : b.cs.getD i cem0 = b.cs[i] := by rw [List.getD_eq_getElem?_getD, List.getElem?_eq_getElem hi]; rfl
  have h6 := (cemOk_iff.1 (hb.2.2.2.2.2.2.2 b.cs[i] (List.getElem_mem _))).1
  have h7 := mul_in h6 (show 0 ≤ sgD d * d ∧ sgD d * d ≤ 192000 by omega)
  rw [h5] at h4
  omega
end Go.AM.E

