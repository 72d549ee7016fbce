/-
The operations on memory, second part: new variables, stores, new slices.
-/
import Derived.Test.YtdipdaajicceoaaAmOpsA
namespace Go.AM
open Go Go.RowKit

section
variable {P : Program} {E : Env} {C : Cx} {D : List Deferred} {outs : List (List Value)} {st st' : St} {a : Act} {w : World} {σ : Places}

theorem below_alloc (w : World) (o : Obj) : Below w.heap.size w (w.alloc o) := (Below.refl _ _).alloc (Nat.le_refl _) o

theorem okB_alloc (id : Nat) (o : Obj) {bo es cap : Nat} {app : Bool} (t : Bool) (b : Nat) (hb : okB C w σ t b) :
    okB C (w.alloc o) (setP σ id (.blk w.heap.size bo es cap app)) t b := by
  refine ⟨fun hh => ?_, by simp; exact Nat.lt_succ_of_lt hb.2.1, hb.2.2.1, fun e => by rw [(below_alloc w o).block b hb.2.1]; exact hb.2.2.2 e⟩
  rcases hh.setP with hh | ⟨_, _, _, _, e⟩
  · exact hb.1 hh
  · cases e
    exact absurd hb.2.1 (Nat.lt_irrefl _)

theorem evVar_ok (h : Sim C D outs st a w σ) {id d : Nat} {ti : TI} {x : V} {c : Value} (hx : Rep C w σ none x c) (he : evVar id d ti x st = some st') (ety : TypeId) :
    Sim C D outs st' (a.put (some d) (.pointer (some ⟨w.heap.size, 0, none⟩))) (w.alloc (.cells c.cells ety)) (setP σ id (.blk w.heap.size 0 ti.size 1 false)) ∧ c.cells.size = ti.size := by
  unfold evVar at he
  split at he
  case h_2 => cases he
  rename_i cs hcs
  split at he
  case isFalse => cases he
  rename_i hsz
  cases he
  obtain ⟨hl, hone, hlen, _⟩ := cells?_ok hx hcs
  have hcsz : c.cells.size = ti.size := by omega
  have hk : Rep C (w.alloc (.cells c.cells ety)) (setP σ id (.blk w.heap.size 0 ti.size 1 false)) none (kill id x) c :=
    Rep.kill id (okB_alloc id _) (fun t b o hb => (below_alloc w _).cell (p := ⟨b, o, none⟩) hb.2.1) (fun j hj => setP_ne σ _ hj) x hx
  refine ⟨(h.alloc id (.blk w.heap.size 0 ti.size 1 false) (below_alloc w _) (fun b bo es cap app e => ?_) _ ?_ ?_).put ?_, hcsz⟩
  · cases e; simp
  · refine ⟨rfl, hsz.2, rfl, c.cells, ety, [c], heap_alloc_new w _, ?_, ?_, ?_, fun e => by cases e⟩
    · exact ⟨c, [], rfl, Rep.into _ _ (by simp) (by simp) hk, rfl⟩
    · intro u hu
      simp at hu; subst hu
      exact ⟨hcsz, hone⟩
    · intro i d r u hd hu
      cases i with
      | zero => simp at hd; subst hd; simpa using hu
      | succ i => simp at hd
  · intro hf
    simp only [refFreeL, Bool.and_true]
    exact hf
  · simp [Rep, setP_same]

theorem evNil_ok (h : Sim C D outs st a w σ) {id d : Nat} {ei : TI} (he : evNil id d ei st = some st') :
    Sim C D outs st' (a.put (some d) (.slice none 0 0)) w (setP σ id (.virt true)) := by
  unfold evNil at he
  split at he
  case isFalse => cases he
  rename_i hsz
  cases he
  refine (h.alloc id (.virt true) (Below.refl _ _) (fun b bo es cap app e => by cases e) _ ⟨rfl, rfl, hsz⟩ (fun _ => rfl)).put ?_
  simp [Rep, setP_same]

theorem splice_length (cs : List V) (c : Nat) (ds : List V) (h : c + ds.length ≤ cs.length) : (splice cs c ds).length = cs.length := by
  simp [splice]; omega

theorem splice_get {α : Type} (L : List α) (p : Nat) (us : List α) (hfit : p + us.length ≤ L.length) (j : Nat) :
    (L.take p ++ us ++ L.drop (p + us.length))[j]? = if j < p then L[j]? else if j < p + us.length then us[j - p]? else L[j]? := by
  have hp : (L.take p).length = p := by rw [List.length_take]; omega
  by_cases h1 : j < p
  · rw [if_pos h1, List.append_assoc, List.getElem?_append_left (by omega), List.getElem?_take, if_pos h1]
  · rw [if_neg h1]
    by_cases h2 : j < p + us.length
    · rw [if_pos h2, List.getElem?_append_left (by simp; omega), List.getElem?_append_right (by omega), hp]
    · rw [if_neg h2, List.getElem?_append_right (by simp; omega), List.getElem?_drop]
      congr 1
      simp only [List.length_append, hp]
      omega

/-- A store into an object. -/
theorem evStore_ok (hT : TyOk P E) (h : Sim C D outs st a w σ) {t : TypeId} {ti : TI} (hti : E.ty t = some ti) {p x : V} {cp cx : Value} (hp : Rep C w σ none p cp) (hx : Rep C w σ none x cx)
    (he : evStore ti p x st = some st') : ∃ w', (Instr.storeAt t cp cx).run P w = .ok () w' ∧ Sim C D outs st' a w' σ := by
  obtain ⟨d, ii, z, hd, ht, hi, hsz, _⟩ := hT t ti hti
  unfold evStore at he
  split at he
  case h_2 => cases he
  rename_i id k c
  split at he
  case h_2 => cases he
  rename_i ob ds hob hds
  split at he
  case h_2 => cases he
  rename_i e hel
  split at he
  case h_2 => cases he
  rename_i cs hcells
  split at he
  case isFalse => cases he
  rename_i hle
  cases he
  obtain ⟨loc, hloc, hrep, hfl⟩ := h.objs id ob hob
  simp only [Rep, hloc] at hp
  cases loc with
  | virt app => exact hp.elim
  | blk b bo es cap app =>
    simp only at hp
    subst hp
    obtain ⟨h1, h2, h3, cur, ety, es', hg, hl, hwf, hcur, happ⟩ := hrep
    obtain ⟨hdl, hdone, hdlen, _⟩ := cells?_ok hx hds
    obtain ⟨dv, hdv, hrv⟩ := hl.get k hel
    have hkes : dv.cells.size = es := (hwf dv (List.mem_of_getElem? hdv)).1
    have hcone : ∀ u ∈ dv.cells.toList, u.oneCell' = true := (hwf dv (List.mem_of_getElem? hdv)).2
    have hclen : cs.length = dv.cells.size := by
      cases e with
      | junk => cases hcells; simp [h1, hkes]
      | _ => have := (cells?_ok hrv hcells).2.2.1; omega
    have hin : ∀ i d r, es'[i]? = some d → r < es → bo + i * es + r < cur.toList.length := fun i d r hi hr => by
      have hd : d.cells.size = es := (hwf d (List.mem_of_getElem? hi)).1
      have := hcur i d r (d.cells.toList[r]'(by simp; omega)) hi (List.getElem?_eq_getElem _)
      exact (List.getElem?_eq_some_iff.1 this).1
    have hcl0 : cx.cells.toList.length = ti.size := by simp; omega
    have hfit : bo + k * es + c + cx.cells.toList.length ≤ cur.toList.length := by
      have := hin k dv (c + cx.cells.size - 1) hdv (by omega)
      simp at this ⊢; omega
    have hst := run_storeCells_at P b (bo + k * es + c) ety cx.cells.toList 0 cur w hg (by simpa using hfit) hdone
    simp only [Nat.add_zero] at hst
    obtain ⟨cur', hcur'⟩ : ∃ cur' : Array Value, cur' = (cur.toList.take (bo + k * es + c) ++ cx.cells.toList ++ cur.toList.drop (bo + k * es + c + cx.cells.toList.length)).toArray := ⟨_, rfl⟩
    rw [← hcur'] at hst
    have hget : ∀ j, cur'.toList[j]? = if j < bo + k * es + c then cur.toList[j]? else if j < bo + k * es + c + ti.size then cx.cells.toList[j - (bo + k * es + c)]? else cur.toList[j]? := fun j => by
      have := splice_get cur.toList (bo + k * es + c) cx.cells.toList hfit j
      rw [hcl0] at this
      rw [hcur', List.toList_toArray, hcl0]; exact this
    have hcsz : cur'.size = cur.size := by
      have : cur'.toList.length = cur.toList.length := by rw [hcur', List.toList_toArray]; simp at hfit ⊢; omega
      simpa using this
    have hheld : Held σ b := ⟨id, bo, es, cap, app, hloc⟩
    have hoth : ∀ q, q ≠ b → ∀ o, (w.setRow b cur').cell? ⟨q, o, none⟩ = w.cell? ⟨q, o, none⟩ := fun q hq o => cell_of_heap (setRow_other w b q _ hq) o
    have hok : ∀ t q, okB C w σ t q → okB C (w.setRow b cur') σ t q := fun t q hk => ⟨hk.1, by rw [size_setRow]; exact hk.2.1, hk.2.2.1, fun e => by rw [setRow_other w b q _ (fun e => hk.1 (e ▸ hheld))]; exact hk.2.2.2 e⟩
    have hc : ∀ (t : Bool) (q o : Nat), okB C w σ t q → (w.setRow b cur').cell? ⟨q, o, none⟩ = w.cell? ⟨q, o, none⟩ := fun t q o hk => hoth q (fun e => hk.1 (e ▸ hheld)) o
    refine ⟨_, ?_, h.write (cur' := cur') hob hloc hg ?_ ?_⟩
    · simp only [Instr.storeAt, Instr.sureAddr, Sem.run_bind, Sem.run_pure, Result.andThen_ok]
      unfold storeVar
      simp only [Sem.run_bind, run_sizeOf hi, Result.andThen_ok, hsz]
      rw [if_neg (by simp; omega)]
      exact hst
    · obtain ⟨dn, hdn, hdnc⟩ : ∃ dn : Value, Rep C w σ (some (ob.t && isNew x)) (putIn e c ds x) dn ∧ dn.cells.toList = dv.cells.toList.take c ++ cx.cells.toList ++ dv.cells.toList.drop (c + cx.cells.toList.length) := by
        have hx' : Rep C w σ (some (ob.t && isNew x)) x cx := Rep.into _ x (by simp) (fun q _ => by simp at q; exact q.2) hx
        have hdl' := (cells?_ok hx' hds).1
        cases e with
        | agg cs' =>
          cases hcells
          obtain ⟨vs, rfl, hvl, hvone⟩ := hrv
          have hvl' : RepL C w σ (some (ob.t && isNew x)) cs vs := RepL.into (m := some ob.t) _ _ (fun q => by simp at q; simp [q.1]) (fun _ q => by cases q) hvl
          have hvc : (Value.agg vs.toArray).cells.toList = vs := by simp [Value.cells]
          refine ⟨.agg (vs.take c ++ cx.cells.toList ++ vs.drop (c + cx.cells.toList.length)).toArray, ⟨_, rfl, ?_, ?_⟩, by simp [Value.cells]⟩
          · have := ((hvl'.take c).app hdl').app (hvl'.drop (c + ds.length))
            simp only [Array.length_toList, hdlen]
            exact this
          · intro u hu
            simp only [List.mem_append] at hu
            rcases hu with (hu | hu) | hu
            · exact hvone u (List.mem_of_mem_take hu)
            · exact hdone u hu
            · exact hvone u (List.mem_of_mem_drop hu)
        | und => cases hcells
        | tup _ => cases hcells
        | junk =>
          have hj := hle.2.2.2
          simp [junkOk] at hj
          refine ⟨cx, hx', ?_⟩
          rw [hj.1, List.take_zero, List.nil_append, List.drop_eq_nil_of_le (by simp; omega), List.append_nil]
        | _ =>
          cases hcells
          refine ⟨cx, hx', ?_⟩
          simp only [List.length_cons, List.length_nil] at hle hclen
          have hc0 : c = 0 := by omega
          have hd1 : cx.cells.size = 1 := by omega
          subst hc0
          rw [List.take_zero, List.nil_append, List.drop_eq_nil_of_le (by simp; omega), List.append_nil]
      have hdns : dn.cells.size = es := by
        have : dn.cells.toList.length = es := by rw [hdnc]; simp; omega
        simpa using this
      refine ⟨h1, h2, h3, cur', ety, es'.set k dn, setRow_heap w b cur cur' ety (0, 0) hg, ?_, ?_, ?_, fun q => ?_⟩
      · refine RepL.set k ?_ (Rep.mono hok hc (fun _ => rfl) _ hdn)
        exact RepL.mono hok hc (fun _ => rfl) _ (RepL.into (m := some ob.t) _ _ (fun q => by simp at q; simp [q.1]) (fun _ q => by cases q) hl)
      · intro u hu
        rcases List.mem_or_eq_of_mem_set hu with hu | rfl
        · exact hwf u hu
        · refine ⟨hdns, fun v hv => ?_⟩
          rw [hdnc] at hv
          simp only [List.mem_append] at hv
          rcases hv with (hv | hv) | hv
          · exact hcone v (List.mem_of_mem_take hv)
          · exact hdone v hv
          · exact hcone v (List.mem_of_mem_drop hv)
      · intro i d r u hd hu
        rw [hget]
        by_cases hik : i = k
        · subst hik
          have hlt : i < es'.length := (List.getElem?_eq_some_iff.1 hdv).1
          rw [List.getElem?_set_self hlt] at hd
          cases hd
          rw [hdnc, splice_get _ _ _ (by simp; omega)] at hu
          have hr : r < es := by
            by_cases hr : r < es
            · exact hr
            · exfalso
              rw [if_neg (by omega), if_neg (by rw [hcl0]; omega)] at hu
              have := (List.getElem?_eq_some_iff.1 hu).1
              simp at this; omega
          have hold := fun v (hv : dv.cells.toList[r]? = some v) => hcur i dv r v hdv hv
          by_cases hr1 : r < c
          · rw [if_pos hr1] at hu
            rw [if_pos (by omega)]
            exact hold u hu
          · rw [if_neg hr1] at hu
            rw [if_neg (by omega)]
            rw [hcl0] at hu
            by_cases hr2 : r < c + ti.size
            · rw [if_pos hr2] at hu
              rw [if_pos (by omega), show bo + i * es + r - (bo + i * es + c) = r - c by omega]
              exact hu
            · rw [if_neg hr2] at hu
              rw [if_neg (by omega)]
              exact hold u hu
        · rw [List.getElem?_set_ne (Ne.symm hik)] at hd
          have hr : r < es := by
            have := (List.getElem?_eq_some_iff.1 hu).1
            have h5 := (hwf d (List.mem_of_getElem? hd)).1
            simp at this; omega
          have hold := hcur i d r u hd hu
          rcases Nat.lt_or_gt_of_ne hik with hlt | hgt
          · have : i * es + es ≤ k * es := by rw [← Nat.succ_mul]; exact Nat.mul_le_mul_right _ hlt
            rw [if_pos (by omega)]; exact hold
          · have : k * es + es ≤ i * es := by rw [← Nat.succ_mul]; exact Nat.mul_le_mul_right _ hgt
            rw [if_neg (by omega), if_neg (by omega)]; exact hold
      · obtain ⟨q1, q2, q3, q4⟩ := happ q
        exact ⟨q1, by rw [hcsz]; exact q2, q3, by simpa using q4⟩
    · intro hf
      simp only [Bool.and_eq_true] at hf
      have hfe := hfl hf.1
      have hset : ∀ (l : List V) (i : Nat) (v : V), refFreeL l = true → refFree v = true → refFreeL (l.set i v) = true := by
        intro l
        induction l with
        | nil => intro i v h _; simpa using h
        | cons y l ih =>
          intro i v h1 h2
          simp only [refFreeL, Bool.and_eq_true] at h1
          cases i with
          | zero => simp [refFreeL, h1, h2]
          | succ i => simp [refFreeL, h1, ih i v h1.2 h2]
      refine hset _ _ _ hfe ?_
      have hef : refFree e = true := by
        have hmem : ∀ (l : List V) (i : Nat) (v : V), refFreeL l = true → l[i]? = some v → refFree v = true := by
          intro l
          induction l with
          | nil => intro i v _ h; simp at h
          | cons y l ih =>
            intro i v h1 h2
            simp only [refFreeL, Bool.and_eq_true] at h1
            cases i with
            | zero => simp at h2; subst h2; exact h1.1
            | succ i => exact ih i v h1.2 (by simpa using h2)
        exact hmem _ _ _ hfe hel
      have happL : ∀ (l l' : List V), refFreeL (l ++ l') = (refFreeL l && refFreeL l') := by
        intro l l'
        induction l with
        | nil => simp [refFreeL]
        | cons y l ih => simp [refFreeL, ih, Bool.and_assoc]
      have htd : ∀ (l : List V) (n : Nat), refFreeL l = true → refFreeL (l.take n) = true ∧ refFreeL (l.drop n) = true := by
        intro l n h
        have h' : refFreeL (l.take n ++ l.drop n) = true := by rw [List.take_append_drop]; exact h
        rw [happL] at h'
        simpa using h'
      cases e with
      | agg cs' =>
        simp only [putIn, refFree, splice] at hef ⊢
        have hdsf : refFreeL ds = true := by
          have hxf := hf.2
          cases x <;> simp only [cells?] at hds <;> cases hds <;> simp_all [refFree, refFreeL]
        rw [happL, happL, (htd _ _ hef).1, (htd _ _ hef).2, hdsf]
        rfl
      | _ => exact hf.2

end
end Go.AM
