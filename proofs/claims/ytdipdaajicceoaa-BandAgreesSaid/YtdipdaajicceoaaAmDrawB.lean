/-
A region that draws its order: what an effect on objects depends on.
-/
import Derived.Test.YtdipdaajicceoaaAmDrawA
namespace Go.AM
open Go Go.RowKit

theorem reach_own (objs : List (Nat × Ob)) : ∀ (n : Nat) (l : List Nat), ∀ i ∈ l, i ∈ reach objs n l
  | 0, _, _, h => h
  | _ + 1, _, _, h => by simp only [reach]; exact List.mem_append_left _ h

theorem mem_idsL {v : V} {i : Nat} (hi : i ∈ ids v) : ∀ {vs : List V}, v ∈ vs → i ∈ idsL vs
  | [], h => by simp at h
  | u :: r, h => by
    simp only [idsL, List.mem_append]
    rcases List.mem_cons.1 h with rfl | h
    · exact .inl hi
    · exact .inr (mem_idsL hi h)

theorem reach_sub (objs : List (Nat × Ob)) : ∀ (n : Nat) {l l' : List Nat}, (∀ i ∈ l, i ∈ l') → ∀ i ∈ reach objs n l, i ∈ reach objs n l'
  | 0, _, _, h, i, hi => h i hi
  | n + 1, l, l', h, i, hi => by
    simp only [reach, List.mem_append] at hi ⊢
    rcases hi with hi | hi
    · exact .inl (h i hi)
    · refine .inr (reach_sub objs n (fun j hj => ?_) i hi)
      rw [List.mem_flatMap] at hj ⊢
      obtain ⟨k, hk, hj⟩ := hj
      exact ⟨k, h k hk, hj⟩

theorem reach_drop (objs : List (Nat × Ob)) : ∀ (n : Nat) (l : List Nat), ∀ i ∈ reach objs n l, i ∈ reach objs (n + 1) l
  | 0, l, i, hi => by simp only [reach, List.mem_append]; exact .inl hi
  | n + 1, l, i, hi => by
    rw [reach, List.mem_append] at hi ⊢
    rcases hi with hi | hi
    · exact .inl hi
    · exact .inr (reach_drop objs n _ i hi)

theorem idsL_take : ∀ (n : Nat) (vs : List V), ∀ i ∈ idsL (vs.take n), i ∈ idsL vs
  | 0, _, _, h => by simp [idsL] at h
  | _ + 1, [], _, h => by simp [idsL] at h
  | n + 1, v :: r, i, h => by
    simp only [List.take_succ_cons, idsL, List.mem_append] at h ⊢
    rcases h with h | h
    · exact .inl h
    · exact .inr (idsL_take n r i h)

theorem idsL_drop : ∀ (n : Nat) (vs : List V), ∀ i ∈ idsL (vs.drop n), i ∈ idsL vs
  | 0, _, _, h => h
  | _ + 1, [], _, h => by simp at h; exact h
  | n + 1, v :: r, i, h => by
    simp only [List.drop_succ_cons, idsL, List.mem_append] at h ⊢
    exact .inr (idsL_drop n r i h)

theorem cells_ids {v : V} {cs : List V} (h : cells? v = some cs) : ∀ i ∈ idsL cs, i ∈ ids v := by
  cases v <;> simp [cells?] at h <;> subst h <;> simp [idsL, ids]

mutual
theorem ids_tag (t : Bool) : ∀ v, ids (retag t v) = ids v
  | .agg cs => by simp only [retag, ids, idsL_tag t cs]
  | .tup cs => by simp only [retag, ids, idsL_tag t cs]
  | .clo f a b => by simp only [retag, ids, idsL_tag t a, idsL_tag t b]
  | .sl .. => rfl
  | .fp .. => rfl
  | .int .. => rfl
  | .bool _ => rfl
  | .lit _ => rfl
  | .und => rfl
  | .emp => rfl
  | .own .. => rfl
  | .ptr .. => rfl
  | .junk => rfl
theorem idsL_tag (t : Bool) : ∀ vs, idsL (retagL t vs) = idsL vs
  | [] => rfl
  | v :: r => by simp only [retagL, idsL, ids_tag t v, idsL_tag t r]
end

theorem allM_local {α β : Type} {f g : α → Option β} : ∀ {l : List α}, (∀ x ∈ l, f x = g x) → allM f l = allM g l
  | [], _ => rfl
  | x :: r, h => by
    simp only [allM]
    rw [h x List.mem_cons_self, allM_local fun y hy => h y (List.mem_cons_of_mem _ hy)]

theorem resolve_local {objs objs' : List (Nat × Ob)} : ∀ (n : Nat) (v : V), (∀ i ∈ reach objs n (ids v), look objs i = look objs' i) → resolve objs n v = resolve objs' n v
  | 0, _, _ => rfl
  | n + 1, v, h => by
    have lists : ∀ (vs : List V), (∀ i ∈ reach objs n (idsL vs), look objs i = look objs' i) → allM (resolve objs n) vs = allM (resolve objs' n) vs := fun vs hvs =>
      allM_local fun x hx => resolve_local n x fun i hi => hvs i (reach_sub objs n (fun j hj => mem_idsL hj hx) i hi)
    cases v with
    | agg cs => simp only [resolve]; rw [lists cs fun i hi => h i (reach_drop _ _ _ i (by simpa [ids] using hi))]
    | tup cs => simp only [resolve]; rw [lists cs fun i hi => h i (reach_drop _ _ _ i (by simpa [ids] using hi))]
    | clo f a b =>
      simp only [resolve]
      rw [lists a fun i hi => h i (reach_drop _ _ _ i (reach_sub _ _ (fun j hj => by simp [ids, hj]) i hi)),
        lists b fun i hi => h i (reach_drop _ _ _ i (reach_sub _ _ (fun j hj => by simp [ids, hj]) i hi))]
    | own id off len =>
      have h0 : look objs id = look objs' id := h id (reach_own _ _ _ _ (by simp [ids]))
      simp only [resolve]
      rw [← h0]
      cases ho : look objs id with
      | none => rfl
      | some o =>
        dsimp only
        split
        · split
          · rfl
          · rename_i hf
            rw [lists _ fun i hi => h i (by
              simp only [reach, ids, List.flatMap_cons, List.flatMap_nil, List.append_nil, ho]
              rw [if_neg hf]
              refine List.mem_append_right _ (reach_sub _ _ (fun j hj => ?_) i hi)
              rw [idsL_tag] at hj
              exact idsL_drop _ _ _ (idsL_take _ _ _ hj))]
        · rfl
    | ptr id k c =>
      have h0 : look objs id = look objs' id := h id (reach_own _ _ _ _ (by simp [ids]))
      simp only [resolve]
      rw [← h0]
      cases ho : look objs id with
      | none => rfl
      | some o =>
        dsimp only
        cases he : o.elems[k]? with
        | none => rfl
        | some e =>
          dsimp only
          cases hc : cells? e with
          | none => rfl
          | some cs =>
            dsimp only
            split
            · rfl
            · rename_i hf
              rw [lists _ fun i hi => h i (by
                simp only [reach, ids, List.flatMap_cons, List.flatMap_nil, List.append_nil, ho]
                rw [if_neg hf]
                refine List.mem_append_right _ (reach_sub _ _ (fun j hj => ?_) i hi)
                rw [idsL_tag] at hj
                exact mem_idsL (cells_ids hc j hj) (List.mem_of_getElem? he))]
    | _ => rfl

theorem lend_local {s s' : St} {args : List V} (h : ∀ i ∈ reach s.objs depth (idsL args), look s.objs i = look s'.objs i) : lend s args = lend s' args := by
  unfold lend
  rw [allM_local fun x hx => resolve_local depth x fun i hi => h i (reach_sub _ _ (fun j hj => mem_idsL hj hx) i hi)]

theorem idsL_app : ∀ (a b : List V), idsL (a ++ b) = idsL a ++ idsL b
  | [], _ => rfl
  | v :: r, b => by simp only [List.cons_append, idsL, idsL_app r b, List.append_assoc]

theorem elemsV_local {x : V} {s s' : St} (h : ∀ i ∈ ids x, look s.objs i = look s'.objs i) : elemsV s.objs x = elemsV s'.objs x := by
  cases x <;> try rfl
  simp only [elemsV]
  rw [h _ (by simp [ids])]

theorem effMem_local {E : Env} {O : Orc} {fc : FC} {base : Nat} {o : Oper} {s s' : St} (h : Agree s s' o.op.operands.toList (supp fc base o s)) : effMem E O fc base o s = effMem E O fc base o s' := by
  obtain ⟨h1, h2⟩ := h
  unfold effMem
  unfold supp at h2
  cases ho : o.op <;> rw [ho] at h1 h2 <;> simp only [Op.operands] at h1 <;> dsimp only at h2 ⊢
  case alloc e =>
    split
    · rename_i d ti hd _
      rw [hd] at h2
      unfold effVar
      rw [h2 _ (by simp)]
    · rfl
  case box e x =>
    rw [← h1 x (by simp)]
    split
    · rename_i d ti hd _
      rw [hd] at h2
      unfold effVar
      rw [h2 _ (by simp)]
    · rfl
  case buildSlice t n ps =>
    have : (ps.toList.map fun p => s.eval p.2) = (ps.toList.map fun p => s'.eval p.2) := List.map_congr_left fun p hp => by
      rw [h1 p.2 (by simp; exact ⟨p.1, by simpa using hp⟩)]
    rw [← this]
    split
    · rename_i d ei hd _
      rw [hd] at h2
      unfold effLit
      rw [h2 _ (by simp)]
    · rfl
  case store t a x =>
    rw [← h1 a (by simp), ← h1 x (by simp)]
    split
    · cases hp : s.eval a <;> try rfl
      rw [hp] at h2
      simp only [effStore]
      rw [h2 _ (by simp [ids])]
    · rfl
  case makeSlice t l c =>
    rw [← h1 l (by simp), ← h1 c (by simp)]
    split
    · rename_i d ei hd _
      rw [hd] at h2
      unfold effMake
      rw [h2 _ (by simp)]
    · rfl
  case call c =>
    simp only [Call.operands] at h1
    cases hc : c.callee with
    | invoke r n => rfl
    | builtin b =>
      rw [hc] at h1 h2
      have h3 : ∀ y ∈ c.args.toList, s.eval y = s'.eval y := fun y hy => h1 y (by simpa using hy)
      cases b <;> try rfl
      dsimp only
      split
      · rename_i d t t' x y hd _ ha
        rw [ha] at h3
        rw [← h3 x (by simp), ← h3 y (by simp)]
        split
        · split
          · unfold effApp
            dsimp only at h2
            rw [ha, hd] at h2
            rw [h2 _ (by simp), elemsV_local (x := s.eval y) fun i hi => h2 i (by simp [idsL, hi])]
          · rfl
        · rfl
      · rfl
    | value f =>
      rw [hc] at h1 h2
      dsimp only at h2 ⊢
      rw [← h1 f (by simp), ← map_local (l := c.args.toList) fun y hy => h1 y (by simp at hy ⊢; exact .inr hy)]
      unfold effCall
      cases hf : s.eval f <;> try rfl
      rename_i g first cap
      dsimp only
      rw [hf] at h2
      rw [lend_local (s' := s') fun i hi => h2 i (reach_sub _ _ (fun j hj => ?_) i hi)]
      simp only [idsL, ids, idsL_app, List.mem_append, List.append_nil] at hj ⊢
      rcases hj with (hj | hj) | hj
      · exact .inl (.inl hj)
      · exact .inr hj
      · exact .inl (.inr hj)

theorem effOf_local {E : Env} {O : Orc} {fc : FC} {base : Nat} {o : Oper} {s s' : St} (h : Agree s s' o.op.operands.toList (supp fc base o s)) : effOf E O fc base o s = effOf E O fc base o s' := by
  unfold effOf
  rw [evVal_local h, effMem_local h]

theorem wantedV_local {all : Array Oper} {o : Oper} {s s' : St} (h : ∀ g b d, o.guard = some (g, b) → (all[g]?).bind (·.dst) = some d → s.get d = s'.get d) : wantedV all o s = wantedV all o s' := by
  unfold wantedV
  cases hg : o.guard with
  | none => rfl
  | some p =>
    obtain ⟨g, b⟩ := p
    dsimp only
    cases hd : (all[g]?).bind (·.dst) with
    | none => rfl
    | some d => dsimp only; rw [h g b d hg hd]
end Go.AM
