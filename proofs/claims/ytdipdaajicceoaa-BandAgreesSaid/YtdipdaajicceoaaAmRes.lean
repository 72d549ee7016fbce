/-
A value turned into what it reads: objects that it names are lent, or given up.
-/
import Derived.Test.YtdipdaajicceoaaAmOpsB
namespace Go.AM
open Go Go.RowKit

section
variable {C C' : Cx} {w w' : World} {σ σ' : Places}

mutual
theorem Rep.any {t0 : Bool} (hok : ∀ b, okB C w σ t0 b → okB C' w' σ' t0 b) (hc : ∀ b o, okB C w σ t0 b → w'.cell? ⟨b, o, none⟩ = w.cell? ⟨b, o, none⟩) :
    ∀ (v : V) {c : Value}, refFree v = true → Rep C w σ (some t0) v c → Rep C' w' σ' (some t0) v c
  | .int k n, c, _, h => h
  | .bool b, c, _, h => h
  | .lit v, c, _, h => h
  | .und, c, _, h => h
  | .agg cs, c, hf, h => by
    simp only [Rep, refFree] at h hf ⊢
    obtain ⟨ds, rfl, hl, h1⟩ := h
    exact ⟨ds, rfl, RepL.any hok hc cs hf hl, h1⟩
  | .tup cs, c, hf, h => by
    simp only [Rep, refFree] at h hf ⊢
    obtain ⟨ds, rfl, hl⟩ := h
    exact ⟨ds, rfl, RepL.any hok hc cs hf hl⟩
  | .sl t vs, c, _, h => by
    simp only [Rep, Option.getD_some] at h ⊢
    obtain ⟨hf, a, cap, rfl, hle, hv⟩ := h
    refine ⟨hf, a, cap, rfl, hle, ?_⟩
    rcases hv with hv | ⟨b, off, es, ds, rfl, hb, hl, hw, hes, hlie⟩
    · exact .inl hv
    · exact .inr ⟨b, off, es, ds, rfl, hok _ hb, RepL.any hok hc vs hf hl, hw, hes, hlie.mono fun o => hc b o hb⟩
  | .emp, c, _, h => h
  | .fp t cs o, c, _, h => by
    simp only [Rep, Option.getD_some] at h ⊢
    obtain ⟨hf, b, off, ds, rfl, hb, hl, h1, hlie⟩ := h
    exact ⟨hf, b, off, ds, rfl, hok _ hb, RepL.any hok hc cs hf hl, h1, hlie.mono fun o => hc b o hb⟩
  | .own j off len, c, hf, h => by simp [refFree] at hf
  | .ptr j i o, c, hf, h => by simp [refFree] at hf
  | .clo f xs ys, c, hf, h => by
    simp only [Rep, refFree, Bool.and_eq_true] at h hf ⊢
    obtain ⟨fa, fb, rfl, hx, hy⟩ := h
    exact ⟨fa, fb, rfl, RepL.any hok hc xs hf.1 hx, RepL.any hok hc ys hf.2 hy⟩
  | .junk, c, _, _ => trivial
theorem RepL.any {t0 : Bool} (hok : ∀ b, okB C w σ t0 b → okB C' w' σ' t0 b) (hc : ∀ b o, okB C w σ t0 b → w'.cell? ⟨b, o, none⟩ = w.cell? ⟨b, o, none⟩) :
    ∀ (vs : List V) {ds : List Value}, refFreeL vs = true → RepL C w σ (some t0) vs ds → RepL C' w' σ' (some t0) vs ds
  | [], ds, _, h => h
  | v :: vs, ds, hf, h => by
    simp only [RepL, refFreeL, Bool.and_eq_true] at h hf ⊢
    obtain ⟨d, r, rfl, hd, hr⟩ := h
    exact ⟨d, r, rfl, Rep.any hok hc v hf.1 hd, RepL.any hok hc vs hf.2 hr⟩
end
end

theorem reach_mono (objs : List (Nat × Ob)) : ∀ (n : Nat) {l l' : List Nat}, (∀ i ∈ l, i ∈ l') → ∀ i ∈ reach objs n l, i ∈ reach objs n l'
  | 0, l, l', h, i, hi => h i hi
  | n + 1, l, l', h, i, hi => by
    simp only [reach, List.mem_append] at hi ⊢
    rcases hi with hi | hi
    · exact .inl (h i hi)
    · refine .inr (reach_mono objs n (fun j hj => ?_) i hi)
      simp only [List.mem_flatMap] at hj ⊢
      obtain ⟨k, hk, hj⟩ := hj
      exact ⟨k, h k hk, hj⟩

theorem reach_succ (objs : List (Nat × Ob)) : ∀ (n : Nat) (l : List Nat), ∀ i ∈ reach objs n l, i ∈ reach objs (n + 1) l
  | 0, l, i, hi => by simp only [reach, List.mem_append] at hi ⊢; exact .inl hi
  | n + 1, l, i, hi => by
    rw [reach, List.mem_append] at hi ⊢
    rcases hi with hi | hi
    · exact .inl hi
    · exact .inr (reach_succ objs n _ i hi)

theorem reach_self (objs : List (Nat × Ob)) (n : Nat) (l : List Nat) : ∀ i ∈ l, i ∈ reach objs n l := by
  cases n with
  | zero => intro i hi; exact hi
  | succ n => intro i hi; rw [reach, List.mem_append]; exact .inl hi

theorem ids_retag (t : Bool) (v : V) : ids (retag t v) = ids v := by
  have key : ∀ v, ids (retag t v) = ids v := by
    intro v
    induction v using V.rec (motive_2 := fun vs => idsL (retagL t vs) = idsL vs) with
    | _ => simp_all [ids, retag, idsL, retagL]
  exact key v
theorem idsL_retag (t : Bool) : ∀ (vs : List V), idsL (retagL t vs) = idsL vs
  | [] => rfl
  | v :: vs => by simp [idsL, retagL, ids_retag, idsL_retag t vs]
theorem refFree_retag (t : Bool) (v : V) : refFree (retag t v) = refFree v := by
  induction v using V.rec (motive_2 := fun vs => refFreeL (retagL t vs) = refFreeL vs) with
  | _ => simp_all [refFree, retag, refFreeL, retagL]
theorem refFreeL_retag (t : Bool) : ∀ (vs : List V), refFreeL (retagL t vs) = refFreeL vs
  | [] => rfl
  | v :: vs => by simp [refFreeL, retagL, refFree_retag, refFreeL_retag t vs]
theorem cells?_retag (t : Bool) (v : V) : cells? (retag t v) = (cells? v).map (retagL t) := by
  cases v <;> simp [retag, cells?, retagL]
theorem idsL_sub {vs : List V} : ∀ {i : Nat} {v : V}, vs[i]? = some v → ∀ j ∈ ids v, j ∈ idsL vs := by
  induction vs with
  | nil => intro i v h; simp at h
  | cons x vs ih =>
    intro i v h j hj
    simp only [idsL, List.mem_append]
    cases i with
    | zero => simp at h; subst h; exact .inl hj
    | succ i => exact .inr (ih (by simpa using h) j hj)
theorem idsL_take_drop (vs : List V) (a b : Nat) : ∀ j ∈ idsL ((vs.drop a).take b), j ∈ idsL vs := by
  have happ : ∀ (l l' : List V), idsL (l ++ l') = idsL l ++ idsL l' := by
    intro l l'
    induction l with
    | nil => simp [idsL]
    | cons y l ih => simp [idsL, ih]
  intro j hj
  have h1 : vs = vs.take a ++ ((vs.drop a).take b ++ (vs.drop a).drop b) := by rw [List.take_append_drop, List.take_append_drop]
  rw [h1, happ, happ]
  simp only [List.mem_append]
  exact .inr (.inl hj)
theorem ids_cells {v : V} {cs : List V} (h : cells? v = some cs) : idsL cs = ids v := by
  cases v <;> simp only [cells?] at h <;> cases h <;> simp [ids, idsL]

theorem refFreeL_app (l l' : List V) : refFreeL (l ++ l') = (refFreeL l && refFreeL l') := by
  induction l with
  | nil => simp [refFreeL]
  | cons y l ih => simp [refFreeL, ih, Bool.and_assoc]
theorem refFreeL_take_drop {vs : List V} (h : refFreeL vs = true) (a b : Nat) : refFreeL ((vs.drop a).take b) = true := by
  have h1 : vs = vs.take a ++ ((vs.drop a).take b ++ (vs.drop a).drop b) := by rw [List.take_append_drop, List.take_append_drop]
  rw [h1, refFreeL_app, refFreeL_app] at h
  simp only [Bool.and_eq_true] at h
  exact h.2.1
theorem refFree_mem {vs : List V} (h : refFreeL vs = true) {i : Nat} {v : V} (hv : vs[i]? = some v) : refFree v = true := by
  induction vs generalizing i with
  | nil => simp at hv
  | cons y l ih =>
    simp only [refFreeL, Bool.and_eq_true] at h
    cases i with
    | zero => simp at hv; subst hv; exact h.1
    | succ i => exact ih h.2 (by simpa using hv)
theorem refFreeL_cells {v : V} {cs : List V} (hc : cells? v = some cs) (h : refFree v = true) : refFreeL cs = true := by
  cases v <;> simp only [cells?] at hc <;> cases hc <;> simp_all [refFree, refFreeL]

section
variable {C C' : Cx} {D : List Deferred} {outs : List (List Value)} {st : St} {a : Act} {w : World} {σ σ' : Places}

mutual
theorem retag_new : ∀ (v : V), isNew v = true → retag true v = v
  | .int .., _ => rfl
  | .bool _, _ => rfl
  | .lit _, _ => rfl
  | .und, _ => rfl
  | .agg cs, h => by simp only [isNew] at h; simp [retag, retagL_new cs h]
  | .tup cs, h => by simp only [isNew] at h; simp [retag, retagL_new cs h]
  | .sl t vs, h => by simp only [isNew] at h; simp [retag, h]
  | .emp, _ => rfl
  | .fp t cs o, h => by simp only [isNew] at h; simp [retag, h]
  | .own .., _ => rfl
  | .ptr .., _ => rfl
  | .clo f xs ys, h => by simp only [isNew, Bool.and_eq_true] at h; simp [retag, retagL_new xs h.1, retagL_new ys h.2]
  | .junk, _ => rfl
theorem retagL_new : ∀ (vs : List V), isNewL vs = true → retagL true vs = vs
  | [], _ => rfl
  | v :: vs, h => by simp only [isNewL, Bool.and_eq_true] at h; simp [retagL, retag_new v h.1, retagL_new vs h.2]
end

theorem Sim.unfrozen (h : Sim C D outs st a w σ) {id b bo es cap : Nat} {app : Bool} (hl : σ id = some (.blk b bo es cap app)) : ∃ cur e, w.heap[b]? = some (.cells cur e (0, 0)) := by
  cases hob : look st.objs id with
  | none => rw [h.dom id hob] at hl; cases hl
  | some ob =>
    obtain ⟨loc, hloc, hr, _⟩ := h.objs id ob hob
    rw [hl] at hloc
    cases hloc
    obtain ⟨_, _, _, cur, e, ds, hg, _⟩ := hr
    exact ⟨cur, e, hg⟩

/-- A resolved value says what it said, in a context where what it named is only read. -/
theorem resolve_ok (h : Sim C D outs st a w σ) (S : List Nat) (hok : ∀ t b, okB C w σ t b → okB C' w σ' t b)
    (hown : ∀ id ∈ S, ∀ b bo es cap app, σ id = some (.blk b bo es cap app) → okB C' w σ' true b) :
    ∀ (n : Nat), (∀ (v : V) (c : Value) (v' : V), Rep C w σ none v c → (∀ i ∈ reach st.objs n (ids v), i ∈ S) → resolve st.objs n v = some v' → Rep C' w σ' none v' c ∧ refFree v' = true) ∧
      (∀ (vs : List V) (ds : List Value) (vs' : List V), RepL C w σ none vs ds → (∀ i ∈ reach st.objs n (idsL vs), i ∈ S) → allM (resolve st.objs n) vs = some vs' → RepL C' w σ' none vs' ds ∧ refFreeL vs' = true) := by
  have hc : ∀ (t : Bool) (b o : Nat), okB C w σ t b → w.cell? ⟨b, o, none⟩ = w.cell? ⟨b, o, none⟩ := fun _ _ _ _ => rfl
  have lists : ∀ n, (∀ (v : V) (c : Value) (v' : V), Rep C w σ none v c → (∀ i ∈ reach st.objs n (ids v), i ∈ S) → resolve st.objs n v = some v' → Rep C' w σ' none v' c ∧ refFree v' = true) →
      (∀ (vs : List V) (ds : List Value) (vs' : List V), RepL C w σ none vs ds → (∀ i ∈ reach st.objs n (idsL vs), i ∈ S) → allM (resolve st.objs n) vs = some vs' → RepL C' w σ' none vs' ds ∧ refFreeL vs' = true) := by
    intro n hv vs
    induction vs with
    | nil => intro ds vs' hr _ he; simp only [allM] at he; cases he; exact ⟨hr, rfl⟩
    | cons v vs ih =>
      intro ds vs' hr hS he
      obtain ⟨d, r, rfl, hd, hr⟩ := hr
      simp only [allM] at he
      split at he
      case h_2 => cases he
      rename_i b hb
      split at he
      case h_2 => cases he
      rename_i bs hbs
      cases he
      obtain ⟨h1, h2⟩ := hv v d b hd (fun i hi => hS i (reach_mono _ n (fun j hj => by simp [idsL, hj]) i hi)) hb
      obtain ⟨h3, h4⟩ := ih r bs hr (fun i hi => hS i (reach_mono _ n (fun j hj => by simp [idsL, hj]) i hi)) hbs
      exact ⟨⟨d, r, rfl, h1, h3⟩, by simp [refFreeL, h2, h4]⟩
  intro n
  induction n with
  | zero => exact ⟨fun v c v' _ _ he => by simp [resolve] at he, lists 0 fun v c v' _ _ he => by simp [resolve] at he⟩
  | succ n ih =>
    obtain ⟨ihv, ihl⟩ := ih
    have main : ∀ (v : V) (c : Value) (v' : V), Rep C w σ none v c → (∀ i ∈ reach st.objs (n + 1) (ids v), i ∈ S) → resolve st.objs (n + 1) v = some v' → Rep C' w σ' none v' c ∧ refFree v' = true := by
      intro v c v' hr hS he
      cases v with
      | int k m => simp only [resolve] at he; cases he; exact ⟨hr, rfl⟩
      | bool b => simp only [resolve] at he; cases he; exact ⟨hr, rfl⟩
      | lit u => simp only [resolve] at he; cases he; exact ⟨hr, rfl⟩
      | und => simp [resolve] at he
      | junk => simp [resolve] at he
      | emp =>
        simp only [resolve] at he; cases he
        obtain ⟨a, rfl⟩ := hr
        exact ⟨⟨rfl, a, 0, rfl, Nat.le_refl _, .inl rfl⟩, rfl⟩
      | sl t vs => simp only [resolve] at he; cases he; exact ⟨Rep.free hok hc _ rfl hr, rfl⟩
      | fp t cs o => simp only [resolve] at he; cases he; exact ⟨Rep.free hok hc _ rfl hr, rfl⟩
      | agg cs =>
        simp only [resolve] at he
        obtain ⟨cs', hcs, rfl⟩ := Option.map_eq_some_iff.1 he
        obtain ⟨ds, rfl, hl, h1⟩ := hr
        obtain ⟨h2, h3⟩ := ihl cs ds cs' hl (fun i hi => hS i (reach_succ _ n _ i hi)) hcs
        exact ⟨⟨ds, rfl, h2, h1⟩, h3⟩
      | tup cs =>
        simp only [resolve] at he
        obtain ⟨cs', hcs, rfl⟩ := Option.map_eq_some_iff.1 he
        obtain ⟨ds, rfl, hl⟩ := hr
        obtain ⟨h2, h3⟩ := ihl cs ds cs' hl (fun i hi => hS i (reach_succ _ n _ i hi)) hcs
        exact ⟨⟨ds, rfl, h2⟩, h3⟩
      | clo f xs ys =>
        simp only [resolve] at he
        split at he
        case h_2 => cases he
        rename_i xs' ys' hx hy
        cases he
        obtain ⟨fa, fb, rfl, hrx, hry⟩ := hr
        obtain ⟨h2, h3⟩ := ihl xs fa xs' hrx (fun i hi => hS i (reach_succ _ n _ i (reach_mono _ n (fun j hj => by simp [ids, hj]) i hi))) hx
        obtain ⟨h4, h5⟩ := ihl ys fb ys' hry (fun i hi => hS i (reach_succ _ n _ i (reach_mono _ n (fun j hj => by simp [ids, hj]) i hi))) hy
        exact ⟨⟨fa, fb, rfl, h2, h4⟩, by simp [refFree, h3, h5]⟩
      | own id off len =>
        simp only [resolve] at he
        split at he
        case h_2 => cases he
        rename_i ob hob
        split at he
        case isFalse => cases he
        rename_i hle
        obtain ⟨loc, hloc, hrep, hfl⟩ := h.objs id ob hob
        simp only [Rep, hloc] at hr
        have hidS : id ∈ S := hS id (reach_self _ _ _ _ (by simp [ids]))
        have hsub : ob.flat = false → ∀ i ∈ reach st.objs n (idsL ob.elems), i ∈ S := fun hf i hi => by
          refine hS i ?_
          simp only [reach, ids, List.mem_append, List.flatMap_cons, List.flatMap_nil, List.append_nil, hob, hf, Bool.false_eq_true, if_false]
          exact .inr hi
        cases loc with
        | virt app =>
          obtain ⟨rfl, rfl, a, cp, rfl, _⟩ := hr
          simp only [List.drop_zero, List.take_zero, retagL, allM] at he
          have : v' = .sl ob.t [] ∨ v' = .sl true [] := by
            split at he
            · cases he; exact .inl rfl
            · cases he; exact .inr rfl
          rcases this with rfl | rfl <;> exact ⟨⟨rfl, a, cp, rfl, Nat.zero_le _, .inl rfl⟩, rfl⟩
        | blk b bo es cap app =>
          obtain ⟨a, cp, rfl, hlc, ha⟩ := hr
          obtain ⟨h1, h2, h3, cur, ety, ds, hg, hl, hwf, hcur, happ⟩ := hrep
          have hsl : RepL C w σ (some ob.t) ((ob.elems.drop off).take len) ((ds.drop off).take len) := (hl.drop off).take len
          have hlen : ((ob.elems.drop off).take len).length = len := by simp; omega
          have hwf' : Wf es ((ds.drop off).take len) := fun d hd => hwf d (List.mem_of_mem_drop (List.mem_of_mem_take hd))
          have hlie : a = some ⟨b, bo + off * es, none⟩ → LiesE w b (bo + off * es) es ((ds.drop off).take len) := fun _ i d r u hd hu => by
            rw [List.getElem?_take] at hd
            split at hd
            · rw [List.getElem?_drop] at hd
              rw [cell_of_row w b _ cur ety (0, 0) hg]
              have := hcur (off + i) d r u hd hu
              rw [Nat.add_mul, ← Nat.add_assoc] at this
              simpa using this
            · cases hd
          have hbo := hown id hidS b bo es cap app hloc
          split at he
          · rename_i hf
            cases he
            have hff := refFreeL_take_drop (hfl hf) off len
            refine ⟨⟨hff, a, cp, by rw [hlen], by rw [hlen]; exact hlc, ?_⟩, rfl⟩
            rcases ha with ⟨h0, _⟩ | ⟨ha, _⟩
            · subst h0; exact .inl (by simp)
            · exact .inr ⟨b, bo + off * es, es, _, ha, hbo.weaken (fun _ => rfl), RepL.free hok hc _ hff hsl, hwf', h2, hlie ha⟩
          · rename_i hf
            split at he
            case h_2 => cases he
            rename_i es' hes'
            cases he
            have hsub' := hsub (by simpa using hf)
            obtain ⟨h4, h5⟩ := ihl _ _ es' (RepL.outOf _ _ hsl) (fun i hi => by
              rw [idsL_retag] at hi
              exact hsub' i (reach_mono _ n (idsL_take_drop _ _ _) i hi)) hes'
            have hlen' : es'.length = len := by rw [← h4.length, hsl.length, hlen]
            refine ⟨⟨h5, a, cp, by rw [hlen'], by rw [hlen']; exact hlc, ?_⟩, rfl⟩
            rcases ha with ⟨h0, _⟩ | ⟨ha, _⟩
            · subst h0; exact .inl (List.eq_nil_of_length_eq_zero hlen')
            · exact .inr ⟨b, bo + off * es, es, _, ha, hbo.weaken (fun _ => rfl), RepL.into _ _ (by simp) (by simp) h4, hwf', h2, hlie ha⟩
      | ptr id k o =>
        simp only [resolve] at he
        split at he
        case h_2 => cases he
        rename_i ob hob
        split at he
        case h_2 => cases he
        rename_i e hel
        split at he
        case h_2 => cases he
        rename_i cs hcells
        obtain ⟨loc, hloc, hrep, hfl⟩ := h.objs id ob hob
        simp only [Rep, hloc] at hr
        have hidS : id ∈ S := hS id (reach_self _ _ _ _ (by simp [ids]))
        cases loc with
        | virt app => exact hr.elim
        | blk b bo es cap app =>
          simp only at hr
          subst hr
          obtain ⟨h1, h2, h3, cur, ety, ds, hg, hl, hwf, hcur, happ⟩ := hrep
          obtain ⟨dv, hdv, hrv⟩ := hl.get k hel
          obtain ⟨hcl, hcone, hclen, hcof⟩ := cells?_ok hrv hcells
          have hlie : Lies w b (bo + k * es) dv.cells.toList := fun r u hu => by
            rw [cell_of_row w b _ cur ety (0, 0) hg]
            have := hcur k dv r u hdv hu
            simpa using this
          have hbo := hown id hidS b bo es cap app hloc
          split at he
          · rename_i hf
            cases he
            have hff := refFreeL_cells hcells (refFree_mem (hfl hf) hel)
            exact ⟨⟨hff, b, bo + k * es, dv.cells.toList, rfl, hbo.weaken (fun _ => rfl), RepL.free hok hc _ hff hcl, hcone, hlie⟩, rfl⟩
          · rename_i hf
            split at he
            case h_2 => cases he
            rename_i es' hes'
            cases he
            obtain ⟨h4, h5⟩ := ihl _ _ es' (RepL.outOf _ _ hcl) (fun i hi => by
              rw [idsL_retag, ids_cells hcells] at hi
              refine hS i ?_
              simp only [reach, ids, List.mem_append, List.flatMap_cons, List.flatMap_nil, List.append_nil, hob, hf]
              exact .inr (reach_mono _ n (idsL_sub hel) i hi)) hes'
            exact ⟨⟨h5, b, bo + k * es, dv.cells.toList, rfl, hbo.weaken (fun _ => rfl), RepL.into _ _ (by simp) (by simp) h4, hcone, hlie⟩, rfl⟩
    exact ⟨main, lists (n + 1) main⟩

theorem Sim.dropL' : ∀ {l : List Nat} {st : St} {σ : Places}, Sim C D outs st a w σ → ∃ σ', Sim C D outs (st.dropL l) a w σ' ∧ (∀ j, σ' j = none ∨ σ' j = σ j) ∧
    (∀ id ∈ l, ∀ b bo es cap app, σ id = some (.blk b bo es cap app) → ¬ Held σ' b)
  | [], st, σ, h => ⟨σ, h, fun _ => .inr rfl, fun _ hi => by cases hi⟩
  | i :: r, st, σ, h => by
    obtain ⟨σ', h', hs, hr⟩ := Sim.dropL' (l := r) (h.drop i)
    have hs' : ∀ j, σ' j = none ∨ σ' j = σ j := fun j => by
      rcases hs j with e | e
      · exact .inl e
      · by_cases hji : j = i
        · exact .inl (e.trans (if_pos hji))
        · exact .inr (e.trans (if_neg hji))
    refine ⟨σ', h', hs', fun id hid b bo es cap app hl hh => ?_⟩
    by_cases e : id = i
    · subst e
      obtain ⟨j, bo', es', cap', app', hj⟩ := hh
      rcases hs j with e' | e'
      · rw [e'] at hj; cases hj
      · rw [e'] at hj
        split at hj
        · cases hj
        · rename_i hne
          exact hne (h.inj j id b _ _ _ _ _ _ _ _ hj hl)
    · have hid' : id ∈ r := by rcases List.mem_cons.1 hid with e' | e'; exact absurd e' e; exact e'
      exact hr id hid' b bo es cap app (by simp [e, hl]) hh

/-- Elements that are given up: they name no object any more. -/
theorem freeze_ok (h : Sim C D outs st a w σ) {fl t t' : Bool} {vs ns : List V} {st' : St} {ds : List Value} (hr : RepL C w σ (some t) vs ds) (hfl : fl = true → refFreeL vs = true)
    (he : freeze st fl t vs = some (st', t', ns)) : ∃ σ', Sim C D outs st' a w σ' ∧ RepL C w σ' (some t') ns ds ∧ refFreeL ns = true ∧ (∀ j, σ' j = none ∨ σ' j = σ j) := by
  unfold freeze at he
  split at he
  · rename_i hf
    cases he
    exact ⟨σ, h, hr, hfl hf, fun _ => .inr rfl⟩
  · split at he
    case h_2 => cases he
    rename_i es hes
    cases he
    obtain ⟨σ', h', hs, hd⟩ := Sim.dropL' (l := reach st.objs depth (idsL vs)) h
    obtain ⟨h1, h2⟩ := (resolve_ok (C' := C) (σ' := σ') h (reach st.objs depth (idsL vs)) (fun t b hb => ⟨fun hh => hb.1 (hh.sub hs), hb.2⟩)
      (fun id hid b bo es cap app hl => ⟨hd id hid b bo es cap app hl, (h.held b ⟨id, bo, es, cap, app, hl⟩).2, .inl (h.held b ⟨id, bo, es, cap, app, hl⟩).1, fun _ => h.unfrozen hl⟩) depth).2
      _ _ ns (RepL.outOf _ _ hr) (fun i hi => by rw [idsL_retag] at hi; exact hi) hes
    exact ⟨σ', h', RepL.into _ _ (by simp) (by simp) h1, h2, hs⟩

end
end Go.AM
