import Derived.Test.YtffbfhjcpgcdeaaCRollZ
import Derived.Test.YtffbfhjcpgcdeaaCRollV
set_option linter.unusedVariables false
set_option linter.unusedSimpArgs false
set_option maxRecDepth 20000

namespace Go.AM.C
open Go Go.Proofs

def behind (l : List Art) (p q : Int × Int) : Prop := p.1 + lenAt l p.2 ≤ q.1

theorem check_pair {ms : List Mk} {l : List Art} (hl : validA l = 0) : ∀ {ps : List (Int × Int)} {e : Int}, checkL ms l e ps = 0 ↔ (∀ p ∈ ps, fitsM ms l p.1 p.2 = true ∧ e ≤ p.1) ∧ ps.Pairwise (behind l)
  | [], e => by simp [checkL]
  | p :: ps, e => by
    rw [checkL, List.pairwise_cons]
    constructor
    · intro h
      split at h
      · rename_i hf
        split at h
        · cases h
        · rename_i hlt
          obtain ⟨i1, i2⟩ := (check_pair hl).1 h
          obtain ⟨a, f1, f2, f3, f4, f5, f6, f7, _⟩ := fits_in hf
          have al := ((validA_len hl).2 a (List.mem_of_getElem? f1)).1
          refine ⟨fun q hq => ?_, fun q hq => (i1 q hq).2, i2⟩
          rcases List.mem_cons.1 hq with rfl | hq
          · exact ⟨hf, by omega⟩
          · exact ⟨(i1 q hq).1, by have := (i1 q hq).2; omega⟩
      · cases h
    · rintro ⟨h1, h2, h3⟩
      obtain ⟨hf, he⟩ := h1 p List.mem_cons_self
      rw [if_pos hf, if_neg (by omega)]
      exact (check_pair hl).2 ⟨fun q hq => ⟨(h1 q (List.mem_cons_of_mem _ hq)).1, h2 q hq⟩, h3⟩

def revP (l : List Art) (n : Int) (ps : List (Int × Int)) : List (Int × Int) := (ps.map fun p => (n - p.1 - lenAt l p.2, p.2)).reverse

theorem fits_rev {ms : List Mk} {l : List Art} (hl : validA l = 0) {x k : Int} (h : fitsM ms l x k = true) : fitsM ms.reverse l ((ms.length : Int) - x - lenAt l k) k = true := by
  obtain ⟨a, f1, f2, f3, f4, f5, f6, f7, f8⟩ := fits_in h
  have al := ((validA_len hl).2 a (List.mem_of_getElem? f1)).1
  rw [fitsM_some f2 f1]
  unfold fitA
  rw [f6, List.length_reverse]
  simp only [Bool.and_eq_true, decide_eq_true_eq]
  refine ⟨by omega, by omega, ?_⟩
  have e1 : ((ms.reverse.drop ((ms.length : Int) - x - a.len).toNat).take a.len.toNat) = ((ms.drop x.toNat).take a.len.toNat).reverse := by
    rw [List.drop_reverse, List.take_reverse]
    congr 1
    rw [List.length_take, List.take_drop]
    have e2 : ms.length - ((ms.length : Int) - x - a.len).toNat = x.toNat + a.len.toNat := by omega
    rw [e2, show min (x.toNat + a.len.toNat) ms.length - a.len.toNat = x.toNat by omega]
  rw [e1, List.all_reverse]
  exact f8

theorem check_rev {ms : List Mk} {l : List Art} (hl : validA l = 0) {ps : List (Int × Int)} (h : checkL ms l 0 ps = 0) : checkL ms.reverse l 0 (revP l ms.length ps) = 0 := by
  obtain ⟨h1, h2⟩ := (check_pair hl).1 h
  refine (check_pair hl).2 ⟨fun q hq => ?_, ?_⟩
  · unfold revP at hq
    rw [List.mem_reverse, List.mem_map] at hq
    obtain ⟨p, hp, rfl⟩ := hq
    obtain ⟨hf, _⟩ := h1 p hp
    refine ⟨fits_rev hl hf, ?_⟩
    obtain ⟨a, f1, f2, f3, f4, f5, f6, f7, f8⟩ := fits_in hf
    dsimp only
    omega
  · unfold revP
    rw [List.pairwise_reverse, List.pairwise_map]
    refine h2.imp fun {p q} hpq => ?_
    unfold behind at hpq ⊢
    dsimp only
    omega

theorem sum_rev (l : List Art) (n : Int) (ps : List (Int × Int)) : sumP l (revP l n ps) = sumP l ps := by
  unfold revP
  rw [sumP_rev]
  unfold sumP
  rw [List.map_map]
  rfl

theorem topW_le_rev {ms : List Mk} {l : List Art} (hl : validA l = 0) (hN : ms.length ≤ 300) : topW ms l ≤ topW ms.reverse l := by
  obtain ⟨a, b, c⟩ := bestPs_ok (ms := ms) hl
  have := vals_most hl (by rw [List.length_reverse]; exact hN) (check_rev hl a)
  rw [sum_rev, b] at this
  exact this

theorem topW_rev {ms : List Mk} {l : List Art} (hl : validA l = 0) (hN : ms.length ≤ 300) : topW ms.reverse l = topW ms l := by
  have h1 := topW_le_rev hl hN
  have h2 := topW_le_rev (ms := ms.reverse) hl (by rw [List.length_reverse]; exact hN)
  rw [List.reverse_reverse] at h2
  omega

theorem waste_app (l : List Art) (n : Int) (qs : List (Int × Int)) : ∀ (ps : List (Int × Int)) (e : Int), wasteL l n e (ps ++ qs) = gapsL l e ps ++ wasteL l n (endL l e ps) qs
  | [], e => rfl
  | p :: ps, e => by rw [List.cons_append, wasteL, waste_app l n qs ps, gapsL, endL, List.append_assoc]

theorem waste_head {ms : List Mk} {l : List Art} (hl : validA l = 0) {p : Int × Int} {ps : List (Int × Int)} {e : Int} (h : checkL ms l e (p :: ps) = 0) (he : ¬ e < p.1) :
    wasteL l ms.length e (p :: ps) = wasteL l ms.length (p.1 + lenAt l p.2) ps ∧ ∀ s ∈ wasteL l ms.length (p.1 + lenAt l p.2) ps, e < s.1 := by
  refine ⟨by rw [wasteL, if_neg he, List.nil_append], fun s hs => ?_⟩
  rw [checkL] at h
  split at h
  · rename_i hf
    split at h
    · cases h
    · obtain ⟨a, f1, f2, f3, f4, f5, f6, f7, f8⟩ := fits_in hf
      have al := ((validA_len hl).2 a (List.mem_of_getElem? f1)).1
      have := (waste_ok hl h).2.1 s hs
      omega
  · cases h

theorem check_tail {ms : List Mk} {l : List Art} : ∀ {pre ps : List (Int × Int)} {e : Int}, checkL ms l e (pre ++ ps) = 0 → checkL ms l (endL l e pre) ps = 0
  | [], ps, e, h => h
  | p :: pre, ps, e, h => by
    rw [List.cons_append, checkL] at h
    split at h
    · split at h
      · cases h
      · exact check_tail (pre := pre) (ps := ps) (e := p.1 + lenAt l p.2) h
    · cases h

theorem endL_in {ms : List Mk} {l : List Art} (hl : validA l = 0) : ∀ {ps : List (Int × Int)} {e : Int}, 0 ≤ e → e ≤ ms.length → checkL ms l e ps = 0 → 0 ≤ endL l e ps ∧ endL l e ps ≤ ms.length
  | [], e, h0, h1, _ => ⟨h0, h1⟩
  | p :: ps, e, h0, h1, h => by
    rw [checkL] at h
    split at h
    · rename_i hf
      split at h
      · cases h
      · obtain ⟨a, f1, f2, f3, f4, f5, f6, f7, f8⟩ := fits_in hf
        have al := ((validA_len hl).2 a (List.mem_of_getElem? f1)).1
        exact endL_in (ps := ps) (e := p.1 + lenAt l p.2) hl (by omega) (by omega) h
    · cases h

theorem check_pre {ms : List Mk} {l : List Art} : ∀ {pre ps : List (Int × Int)} {e : Int}, checkL ms l e (pre ++ ps) = 0 → checkL ms l e pre = 0
  | [], ps, e, h => rfl
  | p :: pre, ps, e, h => by
    rw [List.cons_append, checkL] at h
    rw [checkL]
    split at h
    · rename_i hf
      rw [if_pos hf]
      split at h
      · cases h
      · rename_i hlt
        rw [if_neg hlt]
        exact check_pre (pre := pre) (ps := ps) (e := p.1 + lenAt l p.2) h
    · cases h

theorem take_join {α : Type} (ms : List α) {a b : Int} (h0 : 0 ≤ a) (h : a ≤ b) (h1 : b ≤ ms.length) : ms.take a.toNat ++ (ms.take b.toNat).drop a.toNat = ms.take b.toNat := by
  have : ms.take a.toNat = (ms.take b.toNat).take a.toNat := by
    rw [List.take_take, Nat.min_eq_left (by omega)]
  rw [this, List.take_append_drop]

end Go.AM.C

