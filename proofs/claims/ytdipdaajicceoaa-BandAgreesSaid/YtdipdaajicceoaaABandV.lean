/-
What a slice and a change are, place by place; when a list of runs is valid.
-/
import Derived.Test.YtdipdaajicceoaaABandU
import Derived.Test.YtdipdaajicceoaaABandP
set_option linter.unusedSimpArgs false
namespace Go.AM.A
open Go Go.Proofs

theorem expand_one (r : Run) (n : Int) : expand [{ r with len := n }] = List.replicate n.toNat r.mk' := by
  simp [expand, Run.mk']

theorem expand_piece (a lo hi : Int) (r : Run) : expand (piece a lo hi r) = List.replicate (min hi (a + r.len) - max lo a).toNat r.mk' := by
  unfold piece
  split
  · exact expand_one r _
  · rw [show (min hi (a + r.len) - max lo a).toNat = 0 by omega]; rfl

theorem expand_cut {lo hi : Int} : ∀ (rs : List Run) (a : Int), (∀ r ∈ rs, 1 ≤ r.len) → expand (cutL lo hi a rs) = ((expand rs).take (hi - a).toNat).drop (lo - a).toNat
  | [], a, _ => by simp [cutL, expand]
  | r :: rs, a, h => by
    have h1 := h r List.mem_cons_self
    have ih := expand_cut (lo := lo) (hi := hi) rs (a + r.len) fun x hx => h x (List.mem_cons_of_mem _ hx)
    rw [cutL, expand_app, expand_piece, ih, expand_cons, List.take_append, List.drop_append, List.take_replicate, List.drop_replicate, List.length_replicate, List.length_replicate]
    rw [show min (hi - a).toNat r.len.toNat - (lo - a).toNat = (min hi (a + r.len) - max lo a).toNat by omega, show (hi - a).toNat - r.len.toNat = (hi - (a + r.len)).toNat by omega]
    congr 1
    by_cases hh : hi ≤ a + r.len
    · rw [show (hi - (a + r.len)).toNat = 0 by omega]; simp
    · rw [show (lo - a).toNat - min (hi - a).toNat r.len.toNat = (lo - (a + r.len)).toNat by omega]

theorem total_piece {a lo hi : Int} {r : Run} (h : 1 ≤ r.len) : total (piece a lo hi r) ≤ r.len := by
  unfold piece
  split
  · rw [total_cons, total_nil]; dsimp only; omega
  · rw [total_nil]; omega

theorem total_cut {lo hi : Int} : ∀ (rs : List Run) (a : Int), (∀ r ∈ rs, 1 ≤ r.len) → total (cutL lo hi a rs) ≤ total rs
  | [], a, _ => Int.le_refl _
  | r :: rs, a, h => by
    have h1 := total_piece (a := a) (lo := lo) (hi := hi) (h r List.mem_cons_self)
    have ih := total_cut (lo := lo) (hi := hi) rs (a + r.len) fun x hx => h x (List.mem_cons_of_mem _ hx)
    rw [cutL, total_app, total_cons]; omega

theorem cut_okay {lo hi : Int} {rs : List Run} (a : Int) (h : Okay rs) : Okay (cutL lo hi a rs) :=
  ⟨lens_cut rs a, Int.le_trans (total_cut rs a h.1) h.2⟩

theorem finished_ok {js : List Run} (h1 : js.length ≤ 40) (h2 : Okay js) (h3 : total js ≤ 1000000) : finished js = (js, 0) := by
  unfold finished
  rw [ln_total h2, if_neg (by omega)]

theorem slice_rle {rs : List Run} {lo hi : Int} (hv : validate rs = 0) (hs : spanM rs lo hi = true) : sliceM rs lo hi = (rle (((expand rs).take hi.toNat).drop lo.toNat), 0) := by
  obtain ⟨v1, v2, v3⟩ := valid_okay hv
  have c1 := cut_okay (lo := lo) (hi := hi) 0 v1
  have c2 := total_cut (lo := lo) (hi := hi) rs 0 v1.1
  obtain ⟨n1, n2, n3, n4, n5⟩ := joined_normal c1
  have c3 := cutL_len lo hi rs 0
  unfold sliceM
  rw [if_pos hv, if_pos hs, finished_ok (by omega) n3 (by omega), joined_rle c1.1 (by have := c1.2; omega), expand_cut rs 0 v1.1]
  simp

def wellM (m : Mk) : Bool := inB m.thick 1 1000 && inB m.shade 0 99 && inB m.flaw 0 15

theorem mark_of {rs : List Run} {r : Run} (h : r ∈ rs) (hl : 1 ≤ r.len) : r.mk' ∈ expand rs := by
  unfold expand
  rw [List.mem_flatMap]
  exact ⟨r, h, by rw [List.mem_replicate]; exact ⟨by omega, rfl⟩⟩

theorem of_mark {rs : List Run} {m : Mk} (h : m ∈ expand rs) : ∃ r ∈ rs, r.mk' = m := by
  unfold expand at h
  rw [List.mem_flatMap] at h
  obtain ⟨r, h1, h2⟩ := h
  exact ⟨r, h1, (List.mem_replicate.1 h2).2.symm⟩

theorem wellB_mk {r : Run} : wellB r = (inB r.len 1 1000000 && wellM r.mk') := by
  simp [wellB, wellM, Run.mk', Bool.and_assoc]

theorem valid_marks {rs : List Run} (h : validate rs = 0) : ∀ m ∈ expand rs, wellM m = true := by
  intro m hm
  obtain ⟨r, h1, rfl⟩ := of_mark hm
  have := List.all_eq_true.1 (valid_all h) r h1
  rw [wellB_mk, Bool.and_eq_true] at this
  exact this.2

theorem le_total {rs : List Run} (h : ∀ r ∈ rs, 1 ≤ r.len) : ∀ r ∈ rs, r.len ≤ total rs := by
  induction rs with
  | nil => intro r hr; cases hr
  | cons x rs ih =>
    intro r hr
    have h1 := h x List.mem_cons_self
    have h2 : ∀ l : List Run, (∀ r ∈ l, 1 ≤ r.len) → 0 ≤ total l := by
      intro l
      induction l with
      | nil => intro _; exact Int.le_refl _
      | cons x l ih =>
        intro h
        have := ih fun r hr => h r (List.mem_cons_of_mem _ hr)
        have := h x List.mem_cons_self
        rw [total_cons]; omega
    have h3 := h2 rs fun x hx => h x (List.mem_cons_of_mem _ hx)
    rw [total_cons]
    rcases List.mem_cons.1 hr with rfl | hr
    · omega
    · have := ih (fun x hx => h x (List.mem_cons_of_mem _ hx)) r hr; omega

theorem valid_of {rs : List Run} (h1 : rs.length ≤ 40) (h2 : ∀ r ∈ rs, 1 ≤ r.len) (h3 : ∀ m ∈ expand rs, wellM m = true) (h4 : total rs ≤ 1000000) : validate rs = 0 := by
  have h5 := le_total h2
  have h6 : rs.all wellB = true := by
    rw [List.all_eq_true]
    intro r hr
    rw [wellB_mk, Bool.and_eq_true]
    refine ⟨?_, h3 _ (mark_of hr (h2 r hr))⟩
    have := h2 r hr
    have := h5 r hr
    simp only [inB, Bool.and_eq_true, decide_eq_true_eq]
    omega
  unfold validate
  rw [if_neg (by omega), if_pos h6, ln_total ⟨h2, by omega⟩, if_neg (by omega)]

/-- A band of these marks, in normal form, is valid. -/
theorem rle_valid {ms : List Mk} (h1 : (rle ms).length ≤ 40) (h2 : ms.length ≤ 1000000) (h3 : ∀ m ∈ ms, wellM m = true) : validate (rle ms) = 0 ∧ expand (rle ms) = ms ∧ Normal (rle ms) ∧ Okay (rle ms) := by
  obtain ⟨r1, r2, r3⟩ := rle_ok ms (by omega)
  have r4 : ∀ r ∈ rle ms, 1 ≤ r.len := fun r hr => (r1 r hr).1
  have r5 := expand_length r1
  rw [r2] at r5
  exact ⟨valid_of h1 r4 (by rw [r2]; exact h3) (by omega), r2, r3, r4, by omega⟩

theorem slice_len {rs : List Run} {lo hi : Int} (hv : validate rs = 0) (hs : spanM rs lo hi = true) : (rle (((expand rs).take hi.toNat).drop lo.toNat)).length ≤ 40 := by
  have h1 := sliceM_le rs lo hi
  rw [slice_rle hv hs] at h1
  have := (valid_okay hv).2.1
  dsimp only at h1
  omega

theorem valid_len {rs : List Run} (hv : validate rs = 0) : (expand rs).length ≤ 1000000 := by
  obtain ⟨v1, v2, v3⟩ := valid_okay hv
  have := expand_len v1
  omega

theorem slice_valid {rs : List Run} {lo hi : Int} (hv : validate rs = 0) (hs : spanM rs lo hi = true) :
    validate (rle (((expand rs).take hi.toNat).drop lo.toNat)) = 0 ∧ expand (rle (((expand rs).take hi.toNat).drop lo.toNat)) = ((expand rs).take hi.toNat).drop lo.toNat := by
  have := rle_valid (slice_len hv hs) (by have := valid_len hv; simp only [List.length_drop, List.length_take]; omega) (fun m hm => valid_marks hv m (List.mem_of_mem_take (List.mem_of_mem_drop hm)))
  exact ⟨this.1, this.2.1⟩

theorem cpl_take : ∀ (x y : List Mk), x.take (cpl x y) = y.take (cpl x y)
  | [], y => by simp [cpl]
  | a :: x, [] => by simp [cpl_nil_right]
  | a :: x, b :: y => by
    unfold cpl
    split
    · rename_i h
      subst h
      simp only [List.take_succ_cons, cpl_take x y]
    · simp

theorem cpl_next : ∀ (x y : List Mk) (m : Mk), x[cpl x y]? = some m → y[cpl x y]? ≠ some m
  | [], y, m => by simp [cpl]
  | a :: x, [], m => by simp
  | a :: x, b :: y, m => by
    unfold cpl
    split
    · simpa using cpl_next x y m
    · rename_i h
      simp only [List.getElem?_cons_zero, Option.some.injEq]
      rintro rfl e
      exact h (Option.some.inj e).symm

theorem cpl_le_left : ∀ (x y : List Mk), cpl x y ≤ x.length
  | [], y => by simp [cpl]
  | a :: x, [] => by simp [cpl_nil_right]
  | a :: x, b :: y => by
    unfold cpl
    split
    · have := cpl_le_left x y; simp; omega
    · simp

theorem cpl_le_right : ∀ (x y : List Mk), cpl x y ≤ y.length
  | [], y => by simp [cpl]
  | a :: x, [] => by simp [cpl_nil_right]
  | a :: x, b :: y => by
    unfold cpl
    split
    · have := cpl_le_right x y; simp; omega
    · simp

theorem span_of {rs : List Run} (hv : validate rs = 0) {lo hi : Int} : spanM rs lo hi = true ↔ 0 ≤ lo ∧ lo ≤ hi ∧ hi ≤ (expand rs).length := by
  have h1 := (valid_okay hv).1
  simp only [spanM, Bool.and_eq_true, decide_eq_true_eq, ln_total h1, ← expand_len h1]
  omega

end Go.AM.A
