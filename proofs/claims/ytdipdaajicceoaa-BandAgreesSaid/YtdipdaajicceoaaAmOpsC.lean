/-
The operations, third part: slices that are made, written out, appended to.
-/
import Derived.Test.YtdipdaajicceoaaAmRes
namespace Go.AM
open Go Go.RowKit

section
variable {P : Program} {E : Env} {C : Cx} {D : List Deferred} {outs : List (List Value)} {st st' : St} {a : Act} {w : World} {σ : Places}

theorem sliceOf_ok (hT : TyOk P E) {t : Nat} {ei : TI} (h : sliceOf E t = some ei) : ∃ e, P.underlying t = some (.slice e) ∧ E.ty e = some ei := by
  unfold sliceOf at h
  split at h
  case h_2 => cases h
  rename_i ti hti
  split at h
  case h_2 => cases h
  rename_i e hte
  obtain ⟨d, i, z, hd, ht, _⟩ := hT t ti hti
  rw [hte] at ht
  cases d <;> simp [tyIs] at ht
  subst ht
  exact ⟨_, hd, h⟩

theorem arrayOf_ok (hT : TyOk P E) {t n : Nat} {ei : TI} (h : arrayOf E t = some (n, ei)) : ∃ e, P.underlying t = some (.array n e) ∧ E.ty e = some ei := by
  unfold arrayOf at h
  split at h
  case h_2 => cases h
  rename_i ti hti
  split at h
  case h_2 => cases h
  rename_i m e hte
  obtain ⟨d, i, z, hd, ht, _⟩ := hT t ti hti
  rw [hte] at ht
  obtain ⟨x, hx, hxe⟩ := Option.map_eq_some_iff.1 h
  cases hxe
  cases d <;> simp [tyIs] at ht
  obtain ⟨rfl, rfl⟩ := ht
  exact ⟨_, hd, hx⟩

theorem fieldsOf_ok (hT : TyOk P E) {t : Nat} {fs : List (Nat × Nat)} (h : fieldsOf E t = some fs) :
    ∃ gs : Array Field, P.underlying t = some (.struct gs) ∧ gs.toList.map (fun g => (g.offset, g.type)) = fs := by
  unfold fieldsOf at h
  split at h
  case h_2 => cases h
  rename_i ti hti
  split at h
  case h_2 => cases h
  rename_i fs' hte
  cases h
  obtain ⟨d, i, z, hd, ht, _⟩ := hT t ti hti
  rw [hte] at ht
  cases d <;> simp [tyIs] at ht
  exact ⟨_, hd, ht⟩

theorem RepL.replicate {m : Option Bool} {v : V} {c : Value} (h : Rep C w σ m v c) : ∀ n, RepL C w σ m (List.replicate n v) (List.replicate n c)
  | 0 => rfl
  | n + 1 => ⟨c, _, rfl, h, RepL.replicate h n⟩

theorem refFreeL_replicate {v : V} (h : refFree v = true) : ∀ n, refFreeL (List.replicate n v) = true
  | 0 => rfl
  | n + 1 => by simp [List.replicate_succ, refFreeL, h, refFreeL_replicate h n]

theorem evMake_ok (hT : TyOk P E) (h : Sim C D outs st a w σ) {t id d : Nat} {ei : TI} (hs : sliceOf E t = some ei) {l c : V} {cl cc : Value} (hl : Rep C w σ none l cl) (hc : Rep C w σ none c cc)
    (he : evMake id d ei l c st = some st') : ∃ cv w' σ', (Instr.makeSlice t cl cc).run P w = .ok cv w' ∧ Sim C D outs st' (a.put (some d) cv) w' σ' := by
  obtain ⟨e, hu, hte⟩ := sliceOf_ok hT hs
  obtain ⟨d', i, z, hd, ht, hi, hsz, hby, hz, hzv, hzs, hz1, _⟩ := hT e ei hte
  unfold evMake at he
  split at he
  case h_2 => cases he
  rename_i n m
  split at he
  case isFalse => cases he
  rename_i hcond
  obtain ⟨rfl, h0, hmax, hroom, hes, hzf, hzn⟩ := hcond
  cases he
  simp only [Rep] at hl hc
  subst hl hc
  obtain ⟨k, rfl⟩ := Int.eq_ofNat_of_zero_le h0
  simp only [Int.toNat_natCast] at hroom ⊢
  simp only [roomy, decide_eq_true_eq] at hroom
  have hb1 : (i.bytes : Int) * (k : Int) ≤ 281474976710656 := by
    have h1 : ((k * i.bytes : Nat) : Int) ≤ 281474976710656 := by rw [hby]; omega
    rw [Int.natCast_mul, Int.mul_comm] at h1; exact h1
  have hr := run_make (P := P) w t e i z hu hi hz .i64 .i64 k k (by omega) (Int.le_refl _) hb1 (by omega)
  simp only [Int.toNat_natCast, hsz] at hr
  refine ⟨_, _, setP σ id (.blk w.heap.size 0 ei.size k true), hr, (h.alloc id (.blk w.heap.size 0 ei.size k true) (below_alloc w _) (fun b bo es cap app e => ?_) _ ?_ ?_).put ?_⟩
  · cases e; simp
  · refine ⟨rfl, hes, rfl, _, e, List.replicate k z, heap_alloc_new w _, ?_, ?_, ?_, fun _ => ⟨rfl, by simp [madeCells], by unfold maxLen; omega, by simp⟩⟩
    · rw [hzv]; exact RepL.replicate (zero_rep z hz1) k
    · intro u hu
      rw [List.mem_replicate] at hu
      obtain ⟨_, rfl⟩ := hu
      exact ⟨hzs, hz1⟩
    · intro q dd r u hd hu
      obtain ⟨hq, rfl⟩ : q < k ∧ dd = z := by
        have hlt := (List.getElem?_eq_some_iff.1 hd).1
        simp at hlt
        rw [List.getElem?_replicate, if_pos hlt] at hd
        exact ⟨hlt, (Option.some.inj hd).symm⟩
      have hr : r < dd.cells.size := by have := (List.getElem?_eq_some_iff.1 hu).1; simpa using this
      have hlt : q * ei.size + r < k * ei.size := by
        have : q * ei.size + ei.size ≤ k * ei.size := by rw [← Nat.succ_mul]; exact Nat.mul_le_mul_right _ hq
        omega
      have hmod : (q * ei.size + r) % ei.size = r := by rw [Nat.mul_add_mod_self_right, Nat.mod_eq_of_lt (by omega)]
      rw [Array.getElem?_toList, Nat.zero_add]
      simp only [madeCells, Array.getElem?_map, Array.getElem?_range, hlt, if_true, Option.map_some, hzs, hmod]
      rw [← hu]
      simp [hr]
  · intro _; exact refFreeL_replicate hzf k
  · simp only [Rep, setP_same]
    refine ⟨_, k, rfl, Nat.le_refl _, .inr ⟨by simp, by simp⟩⟩

end
end Go.AM
