import Derived.Test.YtffbfhjcpgcdeaaCRollS
set_option linter.unusedSimpArgs false

namespace Go.AM.C
open Go Go.Proofs

theorem fits_take {ms : List Mk} {l : List Art} {t : Nat} (ht : t ≤ ms.length) {x k : Int} (h : fitsM (ms.take t) l x k = true) : fitsM ms l x k = true ∧ x + lenAt l k ≤ t := by
  obtain ⟨a, f1, f2, f3, f4, f5, f6, f7, f8⟩ := fits_in h
  have hlen : ((ms.take t).length : Int) = t := by rw [List.length_take]; omega
  rw [hlen] at f5
  refine ⟨?_, by omega⟩
  rw [fitsM_some f2 f1]
  unfold fitA
  rw [decide_eq_true f4, decide_eq_true (show x ≤ (ms.length : Int) - a.len by omega), Bool.true_and, Bool.true_and, ← f8]
  congr 1
  rw [List.drop_take, List.take_take, Nat.min_eq_left (by omega)]

theorem fits_drop {ms : List Mk} {l : List Art} {t : Nat} {x k : Int} (ht : t ≤ ms.length) (h : fitsM (ms.drop t) l x k = true) : fitsM ms l (x + t) k = true := by
  obtain ⟨a, f1, f2, f3, f4, f5, f6, f7, f8⟩ := fits_in h
  have hlen : ((ms.drop t).length : Int) = (ms.length : Int) - t := by rw [List.length_drop]; omega
  rw [hlen] at f5
  rw [fitsM_some f2 f1]
  unfold fitA
  rw [decide_eq_true (show 0 ≤ x + (t : Int) by omega), decide_eq_true (show x + (t : Int) ≤ (ms.length : Int) - a.len by omega), Bool.true_and, Bool.true_and, ← f8]
  congr 1
  rw [List.drop_drop, show t + x.toNat = (x + (t : Int)).toNat by omega]

theorem check_take {ms : List Mk} {l : List Art} {t : Nat} (ht : t ≤ ms.length) {Q : List (Int × Int)} (hQ : checkL ms l t Q = 0) : ∀ {ps : List (Int × Int)} {e : Int}, e ≤ t → checkL (ms.take t) l e ps = 0 → checkL ms l e (ps ++ Q) = 0
  | [], e, he, _ => check_mono he hQ
  | p :: ps, e, he, h => by
    rw [checkL] at h
    rw [List.cons_append, checkL]
    split at h
    · rename_i hf
      obtain ⟨g1, g2⟩ := fits_take ht hf
      rw [if_pos g1]
      split at h
      · cases h
      · rename_i hlt
        rw [if_neg hlt]
        exact check_take ht hQ (by omega) h
    · cases h

def shiftP (t : Int) (ps : List (Int × Int)) : List (Int × Int) := ps.map fun p => (p.1 + t, p.2)

theorem check_drop {ms : List Mk} {l : List Art} {t : Nat} (ht : t ≤ ms.length) : ∀ {ps : List (Int × Int)} {e : Int}, checkL (ms.drop t) l e ps = 0 → checkL ms l (e + t) (shiftP t ps) = 0
  | [], e, _ => rfl
  | p :: ps, e, h => by
    rw [checkL] at h
    rw [show shiftP t (p :: ps) = (p.1 + (t : Int), p.2) :: shiftP t ps from rfl, checkL]
    split at h
    · rename_i hf
      rw [if_pos (fits_drop ht hf)]
      split at h
      · cases h
      · rename_i hlt
        rw [if_neg (by dsimp only; omega)]
        have := check_drop ht h
        dsimp only
        rw [show p.1 + (t : Int) + lenAt l p.2 = p.1 + lenAt l p.2 + t by omega]
        exact this
    · cases h

theorem sumP_shift (l : List Art) (t : Int) (ps : List (Int × Int)) : sumP l (shiftP t ps) = sumP l ps := by
  unfold sumP shiftP; rw [List.map_map]; rfl

theorem sumP_app (l : List Art) (ps qs : List (Int × Int)) : sumP l (ps ++ qs) = sumP l ps + sumP l qs := by simp [sumP]

def topW (ms : List Mk) (l : List Art) : Int := at0 (valsW ms l ms.length) ms.length

theorem topW_pos {ms : List Mk} {l : List Art} (hl : validA l = 0) : 0 ≤ topW ms l ∧ topW ms l ≤ 10000 * ms.length := vals_in hl ms.length ms.length (Nat.le_refl _)

theorem split_le {ms : List Mk} {l : List Art} (hl : validA l = 0) (hN : ms.length ≤ 300) {t : Nat} (ht : t ≤ ms.length) : topW (ms.take t) l + topW (ms.drop t) l ≤ topW ms l := by
  obtain ⟨a1, a2, _⟩ := bestPs_ok (ms := ms.take t) hl
  obtain ⟨b1, b2, _⟩ := bestPs_ok (ms := ms.drop t) hl
  have h1 := check_drop ht b1
  rw [Int.zero_add] at h1
  have h2 := check_take ht h1 (by omega) a1
  have h3 := vals_most hl hN h2
  rw [sumP_app, sumP_shift, a2, b2] at h3
  exact h3

theorem fewer_fits {ms : List Mk} {l : List Art} {n : Nat} {x k : Int} (h : fitsM ms (l.take n) x k = true) : fitsM ms l x k = true ∧ lenAt (l.take n) k = lenAt l k ∧ priceAt (l.take n) k = priceAt l k := by
  obtain ⟨a, f1, f2, f3, f4, f5, f6, f7, f8⟩ := fits_in h
  have f9 : l[k.toNat]? = some a := by
    rw [List.getElem?_take] at f1
    split at f1
    · exact f1
    · cases f1
  refine ⟨?_, by rw [f6]; unfold lenAt; rw [f9], by rw [f7]; unfold priceAt; rw [f9]⟩
  rw [fitsM_some f2 f1] at h
  rw [fitsM_some f2 f9]; exact h

theorem fewer_check {ms : List Mk} {l : List Art} {n : Nat} : ∀ {ps : List (Int × Int)} {e : Int}, checkL ms (l.take n) e ps = 0 → checkL ms l e ps = 0 ∧ sumP (l.take n) ps = sumP l ps
  | [], e, _ => ⟨rfl, rfl⟩
  | p :: ps, e, h => by
    rw [checkL] at h
    split at h
    · rename_i hf
      obtain ⟨g1, g2, g3⟩ := fewer_fits hf
      split at h
      · cases h
      · rename_i hlt
        rw [g2] at h
        obtain ⟨i1, i2⟩ := fewer_check h
        refine ⟨by rw [checkL, if_pos g1, if_neg hlt]; exact i1, ?_⟩
        have s1 : ∀ l' : List Art, sumP l' (p :: ps) = priceAt l' p.2 + sumP l' ps := fun l' => by simp [sumP]
        rw [s1, s1, g3, i2]
    · cases h

theorem validA_take {l : List Art} (n : Nat) (h : validA l = 0) : validA (l.take n) = 0 := by
  obtain ⟨h1, h2⟩ := validA_len h
  unfold validA at h ⊢
  split at h
  · cases h
  · split at h
    · rename_i a b
      rw [if_neg (by rw [List.length_take]; omega), if_pos]
      rw [List.all_eq_true] at b ⊢
      exact fun x hx => b x (List.mem_of_mem_take hx)
    · cases h

theorem fewer_le {ms : List Mk} {l : List Art} (hl : validA l = 0) (hN : ms.length ≤ 300) (n : Nat) : topW ms (l.take n) ≤ topW ms l := by
  obtain ⟨a1, a2, _⟩ := bestPs_ok (ms := ms) (validA_take n hl)
  obtain ⟨b1, b2⟩ := fewer_check a1
  have := vals_most hl hN b1
  rw [← b2, a2] at this
  exact this

theorem slice_err {rs : List Run} {lo hi : Int} (h : ¬ (validate rs = 0 ∧ spanM rs lo hi = true)) : (sliceM rs lo hi).2 ≠ 0 := by
  unfold sliceM
  by_cases h1 : validate rs = 0
  · rw [if_pos h1, if_neg (fun h2 => h ⟨h1, h2⟩)]; simp
  · rw [if_neg h1]; exact h1

/-- A part of a band that can be cut can be cut. -/
theorem part_err {xs : List Run} {l : List Art} {lo hi : Int} (he : errM xs l = 0) (hs : spanM xs lo hi = true) : errM (rle (((expand xs).take hi.toNat).drop lo.toNat)) l = 0 := by
  obtain ⟨e1, e2, e3⟩ := errM_zero he
  obtain ⟨v1, v2⟩ := slice_valid e1 hs
  have o := (valid_okay v1).1
  have h1 := expand_len o
  have h2 := expand_len (valid_okay e1).1
  rw [v2] at h1
  simp only [List.length_drop, List.length_take] at h1
  unfold errM
  rw [if_pos v1, if_neg (by omega)]
  exact e3

theorem sized_art (l : List Art) : sized 6 (l.map encArt) = true := sized_map (fun a => ⟨[.int .i64 a.len, .int .i64 a.q.least, .int .i64 a.q.most, .int .i64 a.q.shade, .int .i64 a.q.flaws, .int .i64 a.price], rfl, rfl⟩) l

end Go.AM.C
