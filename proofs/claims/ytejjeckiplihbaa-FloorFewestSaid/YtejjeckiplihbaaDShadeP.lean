/-
The least number of rolls, as the document counts it (plain).
-/
import Derived.Test.YtejjeckiplihbaaDAccP
import Derived.Test.YtejjeckiplihbaaDEnds
set_option linter.unusedSimpArgs false
set_option maxRecDepth 20000

namespace Go.AM.D
open Go

def divB (j : Job) (S : List Nat) (set : Nat) : Prop := ¬ divM j S set = none
theorem div_nil {j : Job} {set : Nat} : divB j [] set ↔ set = 0 := by
  unfold divB divM
  split <;> simp_all
theorem div_cons {j : Job} {k : Nat} {S : List Nat} {set : Nat} (hs : set < 64) : divB j (k :: S) set ↔ ∃ q, 1 ≤ q ∧ q < 64 ∧ subB q set = true ∧ (ent j (rollAt j k) q).1 < NEV ∧ divB j S (set - q) := by
  constructor
  · intro h
    unfold divB at h
    cases hd : divM j (k :: S) set with
    | none => exact absurd hd h
    | some l =>
      unfold divM at hd
      obtain ⟨q, q1, q2, q3, q4⟩ := search_some hs _ set (Nat.le_refl _) hs (sub_self set) hd
      split at q4
      · cases q4
      · rw [Option.map_eq_some_iff] at q4
        obtain ⟨rest, hr, _⟩ := q4
        exact ⟨q, q1, q2, q3, by omega, by unfold divB; rw [hr]; simp⟩
  · rintro ⟨q, q1, q2, q3, q4, q5⟩ hn
    unfold divM at hn
    have h1 := search_none hs _ _ (Nat.le_refl _) hs (sub_self _) hn q q1 (sub_all hs q2 q3).2.1 q3
    rw [if_neg (by omega), Option.map_eq_none_iff] at h1
    exact q5 h1
theorem sub_swap {s p q : Nat} (hs : s < 64) (hp : p < 64) (hq : q < 64) (h1 : subB q s = true) (h2 : subB p (s - q) = true) : subB p s = true ∧ subB q (s - p) = true := by
  have a1 := (sub_bits hs hq).1 h1
  have a2 := (sub_bits (show s - q < 64 by omega) hp).1 h2
  have d1 := fun i (hi : i < 6) => diff_bit hs hq h1 hi
  have hps : subB p s = true := (sub_bits hs hp).2 fun i hi hb => by
    have := a2 i hi hb
    rw [d1 i hi] at this
    simp at this
    exact this.1
  refine ⟨hps, (sub_bits (by omega) hq).2 fun i hi hb => ?_⟩
  rw [diff_bit hs hp hps hi, a1 i hi hb]
  cases hpi : bitP p i with
  | false => rfl
  | true =>
    have := a2 i hi hpi
    rw [d1 i hi, hb] at this
    simp at this
theorem div_snoc {j : Job} {k : Nat} : ∀ (S : List Nat) (set : Nat), set < 64 → (divB j (S ++ [k]) set ↔ ∃ q, 1 ≤ q ∧ q < 64 ∧ subB q set = true ∧ (ent j (rollAt j k) q).1 < NEV ∧ divB j S (set - q))
  | [], set, hs => div_cons hs
  | a :: S, set, hs => by
    rw [List.cons_append, div_cons hs]
    constructor
    · rintro ⟨q, q1, q2, q3, q4, q5⟩
      obtain ⟨p, p1, p2, p3, p4, p5⟩ := (div_snoc S (set - q) (by omega)).1 q5
      have sw := sub_swap hs p2 q2 q3 p3
      exact ⟨p, p1, p2, sw.1, p4, (div_cons (by omega)).2 ⟨q, q1, q2, sw.2, q4, by rw [Nat.sub_right_comm]; exact p5⟩⟩
    · rintro ⟨p, p1, p2, p3, p4, p5⟩
      obtain ⟨q, q1, q2, q3, q4, q5⟩ := (div_cons (by omega)).1 p5
      have sw := sub_swap hs q2 p2 p3 q3
      exact ⟨q, q1, q2, sw.1, q4, (div_snoc S (set - q) (by omega)).2 ⟨p, p1, p2, sw.2, p4, by rw [Nat.sub_right_comm]; exact q5⟩⟩

/-- A number is the least length of a list of these rolls that takes the set; -1 if there is none. -/
structure Least (j : Job) (ks : List Nat) (set : Nat) (v : Int) : Prop where
  low : -1 ≤ v
  none : v < 0 → ∀ S, S.Sublist ks → ¬ divB j S set
  some : 0 ≤ v → ∃ S, S.Sublist ks ∧ (S.length : Int) = v ∧ divB j S set
  least : ∀ S, S.Sublist ks → divB j S set → 0 ≤ v ∧ v ≤ S.length
def goodP (fit old : Nat → Int) (set p : Nat) : Prop := subB p set = true ∧ 0 ≤ fit p ∧ 0 ≤ old (set - p)
instance (fit old : Nat → Int) (set p : Nat) : Decidable (goodP fit old set p) := by unfold goodP; infer_instance
def minTo (fit old : Nat → Int) (set : Nat) : Nat → Int
  | 0 => old set
  | m + 1 => if goodP fit old set (m + 1) ∧ (minTo fit old set m < 0 ∨ old (set - (m + 1)) + 1 < minTo fit old set m) then old (set - (m + 1)) + 1 else minTo fit old set m
structure MinOk (fit old : Nat → Int) (set m : Nat) (v : Int) : Prop where
  low : -1 ≤ v
  old' : 0 ≤ old set → 0 ≤ v ∧ v ≤ old set
  part : ∀ p, 1 ≤ p → p ≤ m → goodP fit old set p → 0 ≤ v ∧ v ≤ old (set - p) + 1
  own : v = old set ∨ ∃ p, 1 ≤ p ∧ p ≤ m ∧ goodP fit old set p ∧ v = old (set - p) + 1
theorem min_ok {fit old : Nat → Int} {set : Nat} (h : -1 ≤ old set) : ∀ m, MinOk fit old set m (minTo fit old set m)
  | 0 => ⟨h, fun h => ⟨h, Int.le_refl _⟩, fun p h1 h2 => by omega, .inl rfl⟩
  | m + 1 => by
    have ih := min_ok (fit := fit) h m
    unfold minTo
    generalize minTo fit old set m = v at *
    split
    · rename_i hc
      have hg := hc.1.2.2
      refine ⟨by omega, fun h0 => ?_, fun p h1 h2 hp => ?_, .inr ⟨m + 1, by omega, Nat.le_refl _, hc.1, rfl⟩⟩
      · have := ih.old' h0
        omega
      · by_cases e : p = m + 1
        · subst e; omega
        · have := ih.part p h1 (by omega) hp
          omega
    · rename_i hc
      refine ⟨ih.low, ih.old', fun p h1 h2 hp => ?_, ?_⟩
      · by_cases e : p = m + 1
        · subst e
          by_cases q : v < 0
          · exact absurd ⟨hp, .inl q⟩ hc
          · by_cases q2 : old (set - (m + 1)) + 1 < v
            · exact absurd ⟨hp, .inr q2⟩ hc
            · omega
        · exact ih.part p h1 (by omega) hp
      · rcases ih.own with e | ⟨p, h1, h2, h3, h4⟩
        · exact .inl e
        · exact .inr ⟨p, h1, by omega, h3, h4⟩
theorem neg_fit {j : Job} {r : Roll} {p : Nat} (hin : EntIn r (ent j r p)) (hl : r.l ≤ 300) : 0 ≤ endR j r p ↔ (ent j r p).1 < NEV := by
  unfold endR negI
  have := hin.lo
  split <;> omega
theorem sub_one {α : Type} {S : List α} {k : α} (h : S.Sublist [k]) : S = [] ∨ S = [k] := by
  cases h with
  | cons _ h => exact .inl (List.sublist_nil.1 h)
  | cons_cons _ h => exact .inr (by rw [List.sublist_nil.1 h])
theorem least_step {j : Job} {ks : List Nat} {k : Nat} {N : Nat} (hN : N ≤ 64) (hin : ∀ p, EntIn (rollAt j k) (ent j (rollAt j k) p)) (hl : (rollAt j k).l ≤ 300) {old : Nat → Int} (ho : ∀ set, set < N → Least j ks set (old set)) {set : Nat} (hs : set < N) :
    Least j (ks ++ [k]) set (minTo (endR j (rollAt j k)) old set set) := by
  have hm := min_ok (fit := endR j (rollAt j k)) (old := old) (set := set) (ho set hs).low set
  generalize minTo (endR j (rollAt j k)) old set set = v at *
  have key : ∀ S, S.Sublist (ks ++ [k]) → divB j S set → 0 ≤ v ∧ v ≤ S.length := fun S hS hd => by
    obtain ⟨l1, l2, rfl, h1, h2⟩ := List.sublist_append_iff.1 hS
    rcases sub_one h2 with rfl | rfl
    · rw [List.append_nil] at *
      have h0 := (ho set hs).least l1 h1 hd
      have := hm.old' h0.1
      omega
    · obtain ⟨q, q1, q2, q3, q4, q5⟩ := (div_snoc l1 set (by omega)).1 hd
      have hle := (sub_all (by omega) q2 q3).2.1
      have h0 := (ho (set - q) (by omega)).least l1 h1 q5
      have := hm.part q q1 hle ⟨q3, (neg_fit (hin q) hl).2 q4, h0.1⟩
      rw [List.length_append, List.length_singleton]
      omega
  refine ⟨hm.low, fun hv S hS hd => ?_, fun hv => ?_, key⟩
  · have := key S hS hd
    omega
  · rcases hm.own with e | ⟨p, p1, p2, ⟨g1, g2, g3⟩, e⟩
    · obtain ⟨S, h1, h2, h3⟩ := (ho set hs).some (by omega)
      exact ⟨S, h1.trans (List.sublist_append_left _ _), by omega, h3⟩
    · obtain ⟨S, h1, h2, h3⟩ := (ho (set - p) (by omega)).some g3
      refine ⟨S ++ [k], List.Sublist.append h1 (List.Sublist.refl _), by rw [List.length_append, List.length_singleton]; omega, ?_⟩
      exact (div_snoc S set (by omega)).2 ⟨p, p1, by omega, g1, (neg_fit (hin p) hl).1 g2, h3⟩
theorem least_nil {j : Job} (set : Nat) : Least j [] set (if set = 0 then 0 else -1) := by
  by_cases e : set = 0
  · rw [if_pos e]
    exact ⟨by decide, fun h => by omega, fun _ => ⟨[], List.Sublist.refl _, rfl, div_nil.2 e⟩, fun S hS _ => ⟨Int.le_refl _, by omega⟩⟩
  · rw [if_neg e]
    have hno : ∀ S : List Nat, S.Sublist [] → ¬ divB j S set := fun S hS hd => by
      rw [List.sublist_nil.1 hS] at hd
      exact e (div_nil.1 hd)
    exact ⟨Int.le_refl _, fun _ => hno, fun h => by omega, fun S hS hd => absurd hd (hno S hS)⟩
end Go.AM.D
