/-
Packing a roll (plain): for each set of strips the least end, and the last strip.
-/
import Derived.Test.YtejjeckiplihbaaDFitP
set_option linter.unusedSimpArgs false
set_option maxRecDepth 20000

namespace Go.AM.D
open Go

def NEV : Int := 1048576
def bitP (set i : Nat) : Bool := set / 2 ^ i % 2 == 1
def stripI (j : Job) (i : Nat) : Strip := j.ss.getD i strip0
/-- One strip more is tried as the last of a set. -/
def packStep (j : Job) (r : Roll) (T : Nat → Int × Int) (set : Nat) (acc : Int × Int) (i : Nat) : Int × Int :=
  if bitP set i = false ∨ NEV ≤ (T (set - 2 ^ i)).1 then acc
  else if nextM r.ph j.rep (T (set - 2 ^ i)).1 (stripI j i).a + sizeM (stripI j i) ≤ r.l ∧ nextM r.ph j.rep (T (set - 2 ^ i)).1 (stripI j i).a + sizeM (stripI j i) < acc.1
  then (nextM r.ph j.rep (T (set - 2 ^ i)).1 (stripI j i).a + sizeM (stripI j i), (i : Int)) else acc
def packTo (j : Job) (r : Roll) (T : Nat → Int × Int) (set n : Nat) : Int × Int := (List.range n).foldl (packStep j r T set) (NEV, 0)
theorem packTo_succ (j : Job) (r : Roll) (T : Nat → Int × Int) (set n : Nat) : packTo j r T set (n + 1) = packStep j r T set (packTo j r T set n) n := by
  unfold packTo
  rw [List.range_succ, List.foldl_append]
  rfl
def tabF (j : Job) (r : Roll) : Nat → Nat → Int × Int
  | 0 => fun _ => (0, 0)
  | k + 1 => fun q => if q = k + 1 then packTo j r (tabF j r k) (k + 1) j.ss.length else tabF j r k q
def ent (j : Job) (r : Roll) (q : Nat) : Int × Int := tabF j r q q
theorem tabF_low (j : Job) (r : Roll) {q : Nat} : ∀ k, q ≤ k → tabF j r k q = ent j r q
  | 0, h => by
    obtain rfl : q = 0 := by omega
    rfl
  | k + 1, h => by
    by_cases e : q = k + 1
    · subst e; rfl
    · rw [← tabF_low j r k (by omega)]
      show (if q = k + 1 then _ else _) = _
      rw [if_neg e]
theorem bit_le {set i : Nat} (h : bitP set i = true) : 2 ^ i ≤ set := by
  unfold bitP at h
  rcases Nat.lt_or_ge set (2 ^ i) with g | g
  · rw [Nat.div_eq_of_lt g] at h
    cases h
  · exact g
theorem bit_lt {set i : Nat} (h : bitP set i = true) : set - 2 ^ i < set := by
  have := bit_le h
  have := Nat.two_pow_pos i
  omega
theorem packStep_congr {j : Job} {r : Roll} {T U : Nat → Int × Int} {set : Nat} (h : ∀ q, q < set → T q = U q) (acc : Int × Int) (i : Nat) : packStep j r T set acc i = packStep j r U set acc i := by
  unfold packStep
  cases hb : bitP set i with
  | false => simp
  | true => rw [h _ (bit_lt hb)]
theorem packTo_congr {j : Job} {r : Roll} {T U : Nat → Int × Int} {set : Nat} (h : ∀ q, q < set → T q = U q) : ∀ n, packTo j r T set n = packTo j r U set n
  | 0 => rfl
  | n + 1 => by rw [packTo_succ, packTo_succ, packTo_congr h n, packStep_congr h]
theorem ent_zero (j : Job) (r : Roll) : ent j r 0 = (0, 0) := rfl
theorem ent_eq {j : Job} {r : Roll} {set : Nat} (h : 1 ≤ set) : ent j r set = packTo j r (ent j r) set j.ss.length := by
  obtain ⟨k, rfl⟩ : ∃ k, set = k + 1 := ⟨set - 1, by omega⟩
  show (if k + 1 = k + 1 then _ else _) = _
  rw [if_pos rfl]
  exact packTo_congr (fun q hq => tabF_low j r k (by omega)) _
structure EntIn (r : Roll) (x : Int × Int) : Prop where
  lo : 0 ≤ x.1
  hi : x.1 = NEV ∨ x.1 ≤ r.l
  k0 : 0 ≤ x.2
  k1 : x.2 ≤ 6
theorem packStep_in {j : Job} {r : Roll} (hj : Right j) (hr : rollOk r j.rep = true) (hs : ∀ s ∈ j.ss, stripOk s = true) {T : Nat → Int × Int} (hT : ∀ q, EntIn r (T q)) {set i : Nat} (hi : i < j.ss.length) {acc : Int × Int} (h : EntIn r acc) : EntIn r (packStep j r T set acc i) := by
  unfold packStep
  split
  · exact h
  · split
    · rename_i h1 h2
      have h6 := hj.nss
      have hr := rollOk_iff.1 hr
      have ht := hT (set - 2 ^ i)
      have hn := next_in (phase := r.ph) (rep := j.rep) (at' := (T (set - 2 ^ i)).1) (a := (stripI j i).a) hr.1.1
      have hsz : 0 ≤ sizeM (stripI j i) := by
        have g : j.ss[i]? = some (stripI j i) := by
          unfold stripI
          rw [List.getD_eq_getElem?_getD, List.getElem?_eq_getElem hi]
          rfl
        have := stripOk_iff.1 (hs _ (List.mem_of_getElem? g))
        unfold sizeM
        omega
      have := ht.lo
      exact ⟨by dsimp only; omega, .inr h2.1, by dsimp only; omega, by dsimp only; omega⟩
    · exact h
theorem packTo_in {j : Job} {r : Roll} (hj : Right j) (hr : rollOk r j.rep = true) (hs : ∀ s ∈ j.ss, stripOk s = true) {T : Nat → Int × Int} (hT : ∀ q, EntIn r (T q)) {set : Nat} : ∀ n, n ≤ j.ss.length → EntIn r (packTo j r T set n)
  | 0, _ => ⟨show (0 : Int) ≤ NEV by decide, .inl rfl, show (0 : Int) ≤ 0 by decide, show (0 : Int) ≤ 6 by decide⟩
  | n + 1, h => by
    rw [packTo_succ]
    exact packStep_in hj hr hs hT (by omega) (packTo_in hj hr hs hT n (by omega))
theorem tabF_in {j : Job} {r : Roll} (hj : Right j) (hr : rollOk r j.rep = true) (hs : ∀ s ∈ j.ss, stripOk s = true) : ∀ k q, EntIn r (tabF j r k q)
  | 0, _ => ⟨Int.le_refl _, .inr (by have := rollOk_iff.1 hr; show (0 : Int) ≤ _; omega), Int.le_refl _, show (0 : Int) ≤ 6 by decide⟩
  | k + 1, q => by
    show EntIn r (if q = k + 1 then _ else _)
    split
    · exact packTo_in hj hr hs (tabF_in hj hr hs k) _ (Nat.le_refl _)
    · exact tabF_in hj hr hs k q
theorem ent_in {j : Job} {r : Roll} (hj : Right j) (hr : rollOk r j.rep = true) (hs : ∀ s ∈ j.ss, stripOk s = true) (q : Nat) : EntIn r (ent j r q) := tabF_in hj hr hs q q
/-- What the last strip of a packed set is. -/
structure LastOk (j : Job) (r : Roll) (T : Nat → Int × Int) (set : Nat) (x : Int × Int) (i : Nat) : Prop where
  lt : i < j.ss.length
  bit : bitP set i = true
  eq : x.2 = i
  sub : (T (set - 2 ^ i)).1 < NEV
  at' : x.1 = nextM r.ph j.rep (T (set - 2 ^ i)).1 (stripI j i).a + sizeM (stripI j i)
  fit : x.1 ≤ r.l
theorem packTo_last (j : Job) (r : Roll) (T : Nat → Int × Int) (set : Nat) : ∀ n, n ≤ j.ss.length → (packTo j r T set n = (NEV, 0) ∨ ∃ i, LastOk j r T set (packTo j r T set n) i)
  | 0, _ => .inl rfl
  | n + 1, h => by
    rw [packTo_succ]
    unfold packStep
    split
    · exact packTo_last j r T set n (by omega)
    · split
      · rename_i h1 h2
        rw [not_or] at h1
        exact .inr ⟨n, by omega, by simpa using h1.1, rfl, by omega, rfl, h2.1⟩
      · exact packTo_last j r T set n (by omega)
theorem ent_last {j : Job} {r : Roll} {set : Nat} (h : 1 ≤ set) (hn : (ent j r set).1 < NEV) : ∃ i, LastOk j r (ent j r) set (ent j r set) i := by
  rw [ent_eq h] at hn ⊢
  rcases packTo_last j r (ent j r) set j.ss.length (Nat.le_refl _) with e | e
  · rw [e] at hn
    exact absurd hn (Int.lt_irrefl _)
  · exact e
/-- The cuts of a set of strips from a roll. -/
def cutsF (j : Job) (r : Roll) (k : Int) : Nat → Nat → List Cut
  | 0, _ => []
  | f + 1, set => if set = 0 then [] else ⟨(ent j r set).2, k, (ent j r set).1 - sizeM (stripI j (ent j r set).2.toNat)⟩ :: cutsF j r k f (set - 2 ^ (ent j r set).2.toNat)
theorem cutsF_fuel (j : Job) (r : Roll) (k : Int) : ∀ (f g set : Nat), set ≤ f → set ≤ g → cutsF j r k f set = cutsF j r k g set
  | 0, 0, _, _, _ => rfl
  | 0, g + 1, set, h, _ => by
    obtain rfl : set = 0 := by omega
    rfl
  | f + 1, 0, set, _, h => by
    obtain rfl : set = 0 := by omega
    rfl
  | f + 1, g + 1, set, h1, h2 => by
    unfold cutsF
    split
    · rfl
    · have := Nat.two_pow_pos (ent j r set).2.toNat
      rw [cutsF_fuel j r k f g _ (by omega) (by omega)]
def cutsR (j : Job) (r : Roll) (k : Int) (set : Nat) : List Cut := cutsF j r k set set
theorem cutsR_zero (j : Job) (r : Roll) (k : Int) : cutsR j r k 0 = [] := rfl
theorem cutsR_eq {j : Job} {r : Roll} {k : Int} {set : Nat} (h : 1 ≤ set) : cutsR j r k set = ⟨(ent j r set).2, k, (ent j r set).1 - sizeM (stripI j (ent j r set).2.toNat)⟩ :: cutsR j r k (set - 2 ^ (ent j r set).2.toNat) := by
  obtain ⟨f, rfl⟩ : ∃ f, set = f + 1 := ⟨set - 1, by omega⟩
  have e : cutsR j r k (f + 1) = if f + 1 = 0 then [] else ⟨(ent j r (f + 1)).2, k, (ent j r (f + 1)).1 - sizeM (stripI j (ent j r (f + 1)).2.toNat)⟩ :: cutsF j r k f (f + 1 - 2 ^ (ent j r (f + 1)).2.toNat) := rfl
  rw [e, if_neg (by omega)]
  have := Nat.two_pow_pos (ent j r (f + 1)).2.toNat
  rw [cutsF_fuel j r k f (f + 1 - 2 ^ (ent j r (f + 1)).2.toNat) _ (by omega) (by omega)]
  rfl
end Go.AM.D
