import Derived.Test.YtffbfhjcpgcdeaaCRollV
set_option linter.unusedVariables false
set_option linter.unusedSimpArgs false
set_option maxRecDepth 20000

namespace Go.AM.C
open Go Go.Proofs

def wasteL (l : List Art) (n : Int) : Int → List (Int × Int) → List (Int × Int)
  | e, [] => if e < n then [(e, n)] else []
  | e, p :: ps => (if e < p.1 then [(e, p.1)] else []) ++ wasteL l n (p.1 + lenAt l p.2) ps

def inP (l : List Art) (ps : List (Int × Int)) (x : Int) : Prop := ∃ p ∈ ps, p.1 ≤ x ∧ x < p.1 + lenAt l p.2

theorem sep_cons {s : Int × Int} {l : List (Int × Int)} (h : Sep l) (hs : s.1 < s.2) (hl : ∀ t ∈ l, s.2 < t.1) : Sep (s :: l) := by
  cases l with
  | nil => exact hs
  | cons t l => exact ⟨hs, hl t List.mem_cons_self, h⟩

theorem covers_cons {s : Int × Int} {l : List (Int × Int)} {i : Int} : covers (s :: l) i ↔ (s.1 ≤ i ∧ i < s.2) ∨ covers l i := by
  rw [show s :: l = [s] ++ l from rfl, covers_app, covers_one]

theorem waste_ok {ms : List Mk} {l : List Art} (hl : validA l = 0) : ∀ {ps : List (Int × Int)} {e : Int}, checkL ms l e ps = 0 → Sep (wasteL l ms.length e ps) ∧ (∀ s ∈ wasteL l ms.length e ps, e ≤ s.1) ∧ ∀ x, covers (wasteL l ms.length e ps) x ↔ (e ≤ x ∧ x < ms.length ∧ ¬ inP l ps x)
  | [], e, _ => by
    unfold wasteL
    by_cases h : e < (ms.length : Int)
    · rw [if_pos h]
      refine ⟨h, fun s hs => ?_, fun x => ?_⟩
      · simp only [List.mem_singleton] at hs; subst hs; exact Int.le_refl _
      · rw [covers_one]
        constructor
        · rintro ⟨a, b⟩; exact ⟨a, b, fun ⟨p, hp, _⟩ => by cases hp⟩
        · rintro ⟨a, b, _⟩; exact ⟨a, b⟩
    · rw [if_neg h]
      refine ⟨trivial, ?_, ?_⟩
      · intro s hs; cases hs
      · intro x
        constructor
        · rintro ⟨s, hs, _⟩; cases hs
        · rintro ⟨a, b, _⟩; omega
  | p :: ps, e, h => by
    rw [checkL] at h
    split at h
    · rename_i hf
      split at h
      · cases h
      · rename_i hlt
        obtain ⟨a, f1, f2, f3, f4, f5, f6, f7, _⟩ := fits_in hf
        have al := ((validA_len hl).2 a (List.mem_of_getElem? f1)).1
        obtain ⟨i1, i2, i3⟩ := waste_ok hl h
        have hin : ∀ x, inP l (p :: ps) x ↔ ((p.1 ≤ x ∧ x < p.1 + lenAt l p.2) ∨ inP l ps x) := by
          intro x
          unfold inP
          constructor
          · rintro ⟨q, hq, y⟩
            rcases List.mem_cons.1 hq with rfl | hq
            · exact .inl y
            · exact .inr ⟨q, hq, y⟩
          · rintro (y | ⟨q, hq, y⟩)
            · exact ⟨p, List.mem_cons_self, y⟩
            · exact ⟨q, List.mem_cons_of_mem _ hq, y⟩
        have hlater : ∀ x, x < p.1 + lenAt l p.2 → ¬ inP l ps x := by
          have key : ∀ {qs : List (Int × Int)} {e' : Int}, checkL ms l e' qs = 0 → ∀ q ∈ qs, e' ≤ q.1 := by
            intro qs
            induction qs with
            | nil => intro e' _ q hq; cases hq
            | cons r qs ih =>
              intro e' hc q hq
              rw [checkL] at hc
              split at hc
              · rename_i hfr
                split at hc
                · cases hc
                · rename_i hge
                  rcases List.mem_cons.1 hq with rfl | hq
                  · omega
                  · obtain ⟨b, b1, b2, b3, b4, b5, b6, _⟩ := fits_in hfr
                    have bl := ((validA_len hl).2 b (List.mem_of_getElem? b1)).1
                    have := ih hc q hq
                    omega
              · cases hc
          rintro x hx ⟨q, hq, y, _⟩
          have := key h q hq
          omega
        unfold wasteL
        by_cases c : e < p.1
        · rw [if_pos c]
          refine ⟨sep_cons i1 c (fun t ht => by have := i2 t ht; dsimp only; omega), fun s hs => ?_, fun x => ?_⟩
          · rcases List.mem_cons.1 hs with rfl | hs
            · exact Int.le_refl _
            · have := i2 s hs; omega
          · rw [show [(e, p.1)] ++ wasteL l ms.length (p.1 + lenAt l p.2) ps = (e, p.1) :: wasteL l ms.length (p.1 + lenAt l p.2) ps from rfl, covers_cons, i3, hin]
            dsimp only
            constructor
            · rintro (⟨y, z⟩ | ⟨y, z, w⟩)
              · exact ⟨y, by omega, fun hh => hh.elim (fun q => by omega) (hlater x (by omega))⟩
              · exact ⟨by omega, z, fun hh => hh.elim (fun q => by omega) w⟩
            · rintro ⟨y, z, w⟩
              by_cases d : x < p.1
              · exact .inl ⟨y, d⟩
              · have : ¬ (p.1 ≤ x ∧ x < p.1 + lenAt l p.2) := fun q => w (.inl q)
                exact .inr ⟨by omega, z, fun q => w (.inr q)⟩
        · rw [if_neg c, List.nil_append]
          refine ⟨i1, fun s hs => by have := i2 s hs; omega, fun x => ?_⟩
          rw [i3, hin]
          constructor
          · rintro ⟨y, z, w⟩; exact ⟨by omega, z, fun hh => hh.elim (fun q => by omega) w⟩
          · rintro ⟨y, z, w⟩
            have : ¬ (p.1 ≤ x ∧ x < p.1 + lenAt l p.2) := fun q => w (.inl q)
            exact ⟨by omega, z, fun q => w (.inr q)⟩
    · cases h

theorem waste_len (l : List Art) (n : Int) : ∀ (ps : List (Int × Int)) (e : Int), (wasteL l n e ps).length ≤ ps.length + 1
  | [], e => by unfold wasteL; split <;> simp
  | p :: ps, e => by
    have := waste_len l n ps (p.1 + lenAt l p.2)
    rw [wasteL, List.length_append, List.length_cons]
    split <;> simp <;> omega

def gapsL (l : List Art) : Int → List (Int × Int) → List (Int × Int)
  | _, [] => []
  | e, p :: ps => (if e < p.1 then [(e, p.1)] else []) ++ gapsL l (p.1 + lenAt l p.2) ps

def endL (l : List Art) : Int → List (Int × Int) → Int
  | e, [] => e
  | _, p :: ps => endL l (p.1 + lenAt l p.2) ps

theorem gaps_snoc (l : List Art) (p : Int × Int) : ∀ (ps : List (Int × Int)) (e : Int), gapsL l e (ps ++ [p]) = gapsL l e ps ++ (if endL l e ps < p.1 then [(endL l e ps, p.1)] else [])
  | [], e => by simp only [List.nil_append, gapsL, endL, List.append_nil]; rfl
  | q :: ps, e => by rw [List.cons_append, gapsL, gaps_snoc l p ps, gapsL, endL, List.append_assoc]
theorem endL_snoc (l : List Art) (p : Int × Int) : ∀ (ps : List (Int × Int)) (e : Int), endL l e (ps ++ [p]) = p.1 + lenAt l p.2
  | [], e => rfl
  | q :: ps, e => by rw [List.cons_append, endL, endL_snoc l p ps]
theorem waste_gaps (l : List Art) (n : Int) : ∀ (ps : List (Int × Int)) (e : Int), wasteL l n e ps = gapsL l e ps ++ (if endL l e ps < n then [(endL l e ps, n)] else [])
  | [], e => by simp only [List.nil_append, wasteL, gapsL, endL]; rfl
  | q :: ps, e => by rw [wasteL, waste_gaps l n ps, gapsL, endL, List.append_assoc]
theorem gaps_len (l : List Art) : ∀ (ps : List (Int × Int)) (e : Int), (gapsL l e ps).length ≤ ps.length
  | [], e => by simp [gapsL]
  | p :: ps, e => by
    have := gaps_len l ps (p.1 + lenAt l p.2)
    rw [gapsL, List.length_append, List.length_cons]
    split <;> simp <;> omega

end Go.AM.C

