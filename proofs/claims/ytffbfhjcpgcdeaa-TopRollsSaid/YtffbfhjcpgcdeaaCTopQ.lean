/-
What is put together of the pieces and the waste.
-/
import Derived.Test.YtffbfhjcpgcdeaaCSameR
set_option linter.unusedVariables false
set_option linter.unusedSimpArgs false
set_option maxRecDepth 20000

namespace Go.AM.C
open Go Go.Proofs

structure Reads (v : V) (b : Bool) (A : List Run) : Prop where
  res : ∀ objs, resolve objs 6 v = some (.sl b (A.map encRun))
  ids : ids v = []
  kill : ∀ id, kill id v = v

theorem reads_emp : Reads .emp true [] := ⟨fun _ => rfl, rfl, fun _ => rfl⟩
theorem reads_sl (A : List Run) : Reads (.sl false (A.map encRun)) false A := ⟨fun _ => rfl, rfl, fun _ => rfl⟩

structure Alls (ms : List Mk) (a : Int) (A : List Run) : Prop where
  ex : expand A = ms.take a.toNat
  pos : ∀ r ∈ A, 1 ≤ r.len

theorem len_expand : ∀ {A : List Run}, (∀ r ∈ A, 1 ≤ r.len) → A.length ≤ (expand A).length ∧ ∀ r ∈ A, r.len ≤ ((expand A).length : Int)
  | [], _ => ⟨Nat.le_refl _, fun r hr => by cases hr⟩
  | r :: A, h => by
    obtain ⟨h1, h2⟩ := len_expand (A := A) fun q hq => h q (List.mem_cons_of_mem _ hq)
    have h0 := h r List.mem_cons_self
    rw [expand_cons, List.length_append, List.length_replicate, List.length_cons]
    refine ⟨by omega, fun q hq => ?_⟩
    rcases List.mem_cons.1 hq with rfl | hq
    · omega
    · have := h2 q hq; omega

theorem Alls.small {ms : List Mk} {a : Int} {A : List Run} (h : Alls ms a A) (hN : ms.length ≤ 300) : A.length ≤ 300 ∧ ∀ r ∈ A, r.len ≤ 1000000 := by
  obtain ⟨h1, h2⟩ := len_expand h.pos
  have : (expand A).length ≤ 300 := by rw [h.ex, List.length_take]; omega
  exact ⟨by omega, fun r hr => by have := h2 r hr; omega⟩

theorem Alls.add {ms : List Mk} {a b : Int} {A : List Run} (h : Alls ms a A) (h0 : 0 ≤ a) (h1 : a ≤ b) (h2 : b ≤ ms.length) (hN : ms.length ≤ 300) : Alls ms b (A ++ rle ((ms.take b.toNat).drop a.toNat)) := by
  obtain ⟨r1, r2, _⟩ := rle_ok ((ms.take b.toNat).drop a.toNat) (by rw [List.length_drop, List.length_take]; omega)
  refine ⟨?_, fun r hr => ?_⟩
  · rw [expand_app, h.ex, r2]
    exact take_join ms h0 h1 h2
  · rcases List.mem_append.1 hr with hr | hr
    · exact h.pos r hr
    · exact (r1 r hr).1

theorem rle_short {ms : List Mk} (hN : ms.length ≤ 300) : (rle ms).length ≤ 300 := by
  obtain ⟨r1, r2, _⟩ := rle_ok ms (by omega)
  have := (len_expand (A := rle ms) fun r hr => (r1 r hr).1).1
  rw [r2] at this
  omega

theorem alls_nil (ms : List Mk) : Alls ms 0 [] := ⟨by simp [expand], fun r hr => by cases hr⟩

theorem cut_slice {xs : List Run} {l : List Art} (he : errM xs l = 0) {a b : Int} (h0 : 0 ≤ a) (h1 : a ≤ b) (h2 : b ≤ (expand xs).length) : sliceM xs a b = (rle (((expand xs).take b.toNat).drop a.toNat), 0) := by
  obtain ⟨e1, e2, e3⟩ := errM_zero he
  exact slice_rle e1 ((span_of e1).2 ⟨h0, h1, h2⟩)

theorem piece_len {xs : List Run} {l : List Art} (he : errM xs l = 0) {p : Int × Int} (hf : fitsM (expand xs) l p.1 p.2 = true) : lengthM (pieceL (expand xs) l p) = (lenAt l p.2, 0) := by
  obtain ⟨e1, e2, e3⟩ := errM_zero he
  obtain ⟨q1, q2⟩ := rec_slice he hf
  obtain ⟨v1, v2⟩ := slice_valid e1 q1
  obtain ⟨a, f1, f2, f3, f4, f5, f6, f7, _⟩ := fits_in hf
  have al := ((validA_len e3).2 a (List.mem_of_getElem? f1)).1
  unfold pieceL
  rw [lengthM_zero v1]
  have := expand_len (valid_okay v1).1
  rw [v2, List.length_drop, List.length_take] at this
  congr 1
  omega

theorem expand_rev : ∀ xs : List Run, expand xs.reverse = (expand xs).reverse
  | [] => rfl
  | r :: xs => by
    rw [List.reverse_cons, expand_app, expand_rev xs]
    simp only [expand_cons, expand_nil, List.append_nil, List.reverse_append, List.reverse_replicate]

theorem rev_band {xs : List Run} {l : List Art} (he : errM xs l = 0) : ∃ bk, revM xs = (bk, 0) ∧ expand bk = (expand xs).reverse ∧ errM bk l = 0 ∧ bk.length ≤ 40 := by
  obtain ⟨e1, e2, e3⟩ := errM_zero he
  obtain ⟨o1, o2, o3⟩ := valid_okay e1
  have ex := expand_rev xs
  have hpos : ∀ r ∈ xs.reverse, 1 ≤ r.len := fun r hr => o1.1 r (by simpa using hr)
  have ht : total xs.reverse = total xs := by
    unfold total
    rw [List.map_reverse, List.sum_reverse]
  have ok : Okay xs.reverse := ⟨hpos, by rw [ht]; exact o1.2⟩
  obtain ⟨j1, j2, j3, j4, j5⟩ := joined_normal ok
  have jl : (joinedL xs.reverse).length ≤ 40 := by rw [List.length_reverse] at j4; omega
  have jv : validate (joinedL xs.reverse) = 0 := valid_of jl j3.1 (fun m hm => valid_marks e1 m (by rw [j2, ex] at hm; simpa using hm)) (by rw [j5, ht]; exact o3)
  refine ⟨joinedL xs.reverse, ?_, by rw [j2, ex], ?_, jl⟩
  · unfold revM
    rw [if_pos e1]
    exact finished_ok jl j3 (by rw [j5, ht]; exact o3)
  · unfold errM
    rw [if_pos jv, j5, ht, if_neg (by omega)]
    exact e3

theorem best_acc {xs : List Run} {l : List Art} (he : errM xs l = 0) : checkL (expand xs) l 0 (bestPs (expand xs) l) = 0 ∧ (bestPs (expand xs) l).length ≤ 300 := by
  obtain ⟨a, b, c⟩ := bestPs_ok (ms := expand xs) (errM_zero he).2.2
  have := err_len he
  exact ⟨a, by omega⟩

theorem bound_top {xs : List Run} {l : List Art} (he : errM xs l = 0) {us : List Int} (h : (boundR xs l us).2 = 0) : topW (expand xs) l ≤ (boundR xs l us).1 := by
  have hv := value_best he
  have := bound_holds (us := us) (ps := bestPs (expand xs) l) h (by rw [hv])
  rw [hv] at this
  exact this

theorem value_cut {xs : List Run} {l : List Art} {cs : List (Int × Int)} (he : errM xs l = 0) (hc : checkL (expand xs) l 0 cs = 0) : valueR xs l cs = (sumP l cs, 0) ∧ sumP l cs ≤ topW (expand xs) l := by
  refine ⟨?_, vals_most (errM_zero he).2.2 (err_len he) hc⟩
  unfold valueR accE
  rw [if_pos he, if_pos hc]

theorem waste_cut {xs : List Run} {l : List Art} {cs : List (Int × Int)} (he : errM xs l = 0) (hc : checkL (expand xs) l 0 cs = 0) : wasteR xs l cs = (wasteL l ((expand xs).length : Nat) 0 cs, 0) := by
  unfold wasteR accE
  rw [if_pos he, if_pos hc]

theorem recs_cut {xs : List Run} {l : List Art} {cs : List (Int × Int)} (he : errM xs l = 0) (hc : checkL (expand xs) l 0 cs = 0) : recsV xs l cs 0 1 = .tup [.sl true (cs.map (encRec (expand xs) l 0 1)), .int .i64 0] := by
  unfold recsV accE
  rw [if_pos he, if_pos hc, if_neg (by decide)]

end Go.AM.C

