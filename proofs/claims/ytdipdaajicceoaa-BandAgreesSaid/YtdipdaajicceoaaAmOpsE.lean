/-
The operations, fifth part: literals, addresses, parts, numbers.
-/
import Derived.Test.YtdipdaajicceoaaAmOpsD
namespace Go.AM
open Go Go.RowKit

section
variable {P : Program} {E : Env} {C : Cx} {D : List Deferred} {outs : List (List Value)} {st st' : St} {a : Act} {w : World} {σ : Places}

theorem fold_set (off : Nat) : ∀ (us : List Value) (k : Nat) (cells : Array Value), off + k + us.length ≤ cells.size →
    ((us.zipIdx k).foldl (fun cs (x : Value × Nat) => cs.setIfInBounds (off + x.2) x.1) cells).toList = cells.toList.take (off + k) ++ us ++ cells.toList.drop (off + k + us.length)
  | [], k, cells, _ => by simp
  | u :: us, k, cells, h => by
    have ih := fold_set off us (k + 1) (cells.setIfInBounds (off + k) u) (by simp at h ⊢; omega)
    simp only [List.zipIdx_cons, List.foldl_cons]
    rw [ih, Array.toList_setIfInBounds]
    have := list_seg_step cells.toList (off + k) u us (by simp at h ⊢; omega)
    simpa [Nat.add_assoc] using this

theorem fill_one (off : Nat) (us cells : Array Value) (h : off + us.size ≤ cells.size) :
    (us.zipIdx.foldl (fun cs (x : Value × Nat) => cs.setIfInBounds (off + x.2) x.1) cells).toList = cells.toList.take off ++ us.toList ++ cells.toList.drop (off + us.size) := by
  have := fold_set off us.toList 0 cells (by simpa using h)
  rw [← Array.foldl_toList, Array.toList_zipIdx]
  simpa using this

/-- A literal's values, one behind the other. -/
theorem fill_range (n : Nat) : ∀ (l : List (Nat × Value)) (k : Nat) (cells : Array Value), l.map (·.1) = List.range' k l.length → (∀ p ∈ l, p.2.cells.size = n) → (k + l.length) * n ≤ cells.size →
    ∃ cells', Instr.fill (fun i => some (i * n, n)) cells l = some cells' ∧ cells'.toList = cells.toList.take (k * n) ++ flat (l.map (·.2)) ++ cells.toList.drop ((k + l.length) * n)
  | [], k, cells, _, _, _ => ⟨cells, rfl, by simp [flat]⟩
  | (i, v) :: l, k, cells, hk, hs, hl => by
    have hik : i = k := by simp [List.range'_succ] at hk; exact hk.1
    subst hik
    have hv : v.cells.size = n := hs (i, v) (by simp)
    have hle : i * n + n ≤ cells.size := by
      have : (i + 1) * n ≤ (i + (l.length + 1)) * n := Nat.mul_le_mul_right _ (by omega)
      simp only [List.length_cons] at hl
      rw [Nat.add_mul, Nat.one_mul] at this
      omega
    have h1 := fill_one (i * n) v.cells cells (by omega)
    have hsz : (v.cells.zipIdx.foldl (fun cs (x : Value × Nat) => cs.setIfInBounds (i * n + x.2) x.1) cells).size = cells.size := by
      rw [← Array.length_toList, h1]; simp; omega
    obtain ⟨cells', hf, ht⟩ := fill_range n l (i + 1) (v.cells.zipIdx.foldl (fun cs (x : Value × Nat) => cs.setIfInBounds (i * n + x.2) x.1) cells) (by simp [List.range'_succ] at hk; exact hk)
      (fun p hp => hs p (by simp [hp])) (by rw [hsz]; simp only [List.length_cons] at hl; rw [show i + 1 + l.length = i + (l.length + 1) by omega]; exact hl)
    refine ⟨cells', ?_, ?_⟩
    · simp only [Instr.fill]
      rw [if_neg (by simp [hv]; omega)]
      exact hf
    · have hlt : (cells.toList.take (i * n)).length = i * n := by simp; omega
      have hlt2 : (cells.toList.take (i * n) ++ v.cells.toList).length = (i + 1) * n := by rw [List.length_append, hlt, Nat.add_mul]; simp [hv]
      rw [ht, h1, List.take_append_of_le_length (by rw [hlt2]; exact Nat.le_refl _), List.take_of_length_le (by rw [hlt2]; exact Nat.le_refl _)]
      simp only [List.map_cons, flat_cons, List.length_cons, List.append_assoc]
      congr 2
      have hq : (i + 1) * n ≤ (i + 1 + l.length) * n := Nat.mul_le_mul_right _ (by omega)
      rw [← List.append_assoc, List.drop_append, hlt2, List.drop_eq_nil_of_le (by rw [hlt2]; exact hq), List.nil_append, List.drop_drop, hv]
      congr 2
      rw [show i + (l.length + 1) = i + 1 + l.length by omega]
      have : (i + 1) * n = i * n + n := by rw [Nat.add_mul, Nat.one_mul]
      omega

theorem run_buildSlice {t e n : Nat} {i : TypeInfo} {z : Value} (hu : P.underlying t = some (.slice e)) (hi : P.info? e = some i) (hz : i.zero = some z) (h24 : n * i.size ≤ 16777216)
    {parts : Array (Nat × Value)} {cells : Array Value} (hf : ∀ cs : Array Value, cs.size = n * i.size → Instr.fill (fun k => some (k * i.size, i.size)) cs parts.toList = some cells) :
    (Instr.buildSlice t n parts).run P w = .ok (.slice (some ⟨w.heap.size, 0, none⟩) n n) (w.alloc (.cells cells e)) := by
  have h1 : ¬ (2 ^ 24 < n * i.size) := by omega
  unfold Instr.buildSlice
  simp only [Sem.run_bind, run_underlying hu, Result.andThen_ok, run_sizeOf hi]
  by_cases h0 : n * i.size = 0
  · have := hf ((Array.range (n * i.size)).map ((#[] : Array Value)[· % (#[] : Array Value).size]!)) (by simp)
    simp [h0] at this ⊢
    simp [this, newRow]
  · have := hf ((Array.range (n * i.size)).map (z.cells[· % z.cells.size]!)) (by simp)
    have h1' : ¬ (16777216 < n * i.size) := by omega
    simp [h1', h0, zeroValue, typeInfo, hi, hz, this, newRow]

/-- The pairs of a literal: keys and abstract values, keys and values. -/
theorem evLit_ok (hT : TyOk P E) (h : Sim C D outs st a w σ) {t id d n : Nat} {ei : TI} (hs : sliceOf E t = some ei) {parts : Array (Nat × Operand)}
    (he : evLit id d ei n (parts.toList.map (·.1)) (parts.toList.map fun p => st.eval p.2) st = some st') :
    ∃ cv w' σ', (Instr.buildSlice t n (parts.map fun (i, x) => (i, a.eval x))).run P w = .ok cv w' ∧ Sim C D outs st' (a.put (some d) cv) w' σ' := by
  obtain ⟨e, hu, hte⟩ := sliceOf_ok hT hs
  obtain ⟨d', i, z, hd, ht, hi, hsz, hby, hz, hzv, hzs, hz1, _⟩ := hT e ei hte
  have hpl : (parts.map fun (p : Nat × Operand) => (p.1, a.eval p.2)).toList = parts.toList.map fun p => (p.1, a.eval p.2) := by simp
  have hreps : ∀ (l : List (Nat × Operand)), RepL C w σ none (l.map fun p => st.eval p.2) (l.map fun p => a.eval p.2) := fun l => by
    induction l with
    | nil => rfl
    | cons p l ih => exact ⟨_, _, rfl, h.eval p.2, ih⟩
  unfold evLit at he
  split at he
  · rename_i hn
    subst hn
    split at he
    case isFalse => cases he
    rename_i hc
    cases he
    have hp0 : parts = #[] := by
      have : parts.toList = [] := List.map_eq_nil_iff.1 hc.1
      exact Array.toList_inj.1 (by simpa using this)
    subst hp0
    have hr := run_buildSlice (P := P) (w := w) (n := 0) (parts := #[]) (cells := #[]) hu hi hz (by omega) (fun cs hcs => by
      have : cs = #[] := Array.eq_empty_of_size_eq_zero (by simpa using hcs)
      simp [Instr.fill, this])
    exact ⟨_, _, σ, by simpa using hr, (h.world (below_alloc w _)).put ⟨_, rfl⟩⟩
  · rename_i hn
    split at he
    case isFalse => cases he
    rename_i hc
    obtain ⟨hix, hlen, h24, hes, hn24⟩ := hc
    split at he
    case h_2 => cases he
    rename_i s t' vs hfr
    split at he
    case isFalse => cases he
    rename_i hsized
    cases he
    have hlen' : parts.toList.length = n := by simpa using hlen
    have hr0 := hreps parts.toList
    obtain ⟨σ1, h1, hvs, hvf, hsub⟩ := freeze_ok h (RepL.into (isNewL _) _ (by simp) (by simp) hr0) (fun e => e) hfr
    have hwf := sized_wf hsized hvs
    obtain ⟨cells', hcells⟩ : ∃ cells' : Array Value, cells' = (flat (parts.toList.map fun p => a.eval p.2)).toArray := ⟨_, rfl⟩
    have hflen : (flat (parts.toList.map fun p => a.eval p.2)).length = n * ei.size := by rw [flat_length hwf]; simp [hlen']
    have hfill : ∀ cs : Array Value, cs.size = n * i.size → Instr.fill (fun k => some (k * i.size, i.size)) cs (parts.map fun (p : Nat × Operand) => (p.1, a.eval p.2)).toList = some cells' := fun cs hcs => by
      rw [hpl]
      obtain ⟨c', hf, ht'⟩ := fill_range i.size (parts.toList.map fun p => (p.1, a.eval p.2)) 0 cs
        (by rw [List.map_map]; simp only [Function.comp_def, List.length_map, hlen']; rw [hix, List.range_eq_range'])
        (fun p hp => by
          obtain ⟨q, hq, rfl⟩ := List.mem_map.1 hp
          rw [hsz]
          exact (hwf _ (List.mem_map.2 ⟨q, hq, rfl⟩)).1)
        (by simp only [List.length_map, hlen']; rw [hcs]; simp)
      rw [hf]
      congr 1
      apply Array.toList_inj.1
      rw [ht', hcells]
      simp only [Nat.zero_mul, List.take_zero, List.nil_append, List.map_map, Function.comp_def, List.length_map, hlen', Nat.zero_add]
      rw [List.drop_eq_nil_of_le (by simp [hcs]), List.append_nil]
    have hr := run_buildSlice (P := P) (w := w) hu hi hz (by rw [hsz]; exact h24) hfill
    refine ⟨_, _, setP σ1 id (.blk w.heap.size 0 ei.size n true), hr, (h1.alloc id (.blk w.heap.size 0 ei.size n true) (below_alloc w _) (fun b bo es cap app e => ?_) _ ?_ (fun _ => hvf)).put ?_⟩
    · cases e; simp
    · refine ⟨rfl, hes, rfl, cells', e, _, heap_alloc_new w _, RepL.free (okB_alloc id _) (fun t b o hb => (below_alloc w _).cell (p := ⟨b, o, none⟩) hb.2.1) _ hvf hvs, hwf, ?_, fun _ => ⟨rfl, ?_, by unfold maxLen; omega, ?_⟩⟩
      · refine flat_holds hwf (fun k u hku => ?_)
        rw [Nat.zero_add, hcells, List.toList_toArray]; exact hku
      · rw [hcells, List.size_toArray, hflen]
      · have : vs.length = n := by rw [← hvs.length]; simp [hlen']
        simp [this]
    · simp only [Rep, setP_same]
      exact ⟨_, n, rfl, Nat.le_refl _, .inr ⟨by simp, fun _ => by omega⟩⟩

end
end Go.AM
