/-
The operations, fourth part: slices written out, and appended to.
-/
import Derived.Test.YtdipdaajicceoaaAmOpsC
namespace Go.AM
open Go Go.RowKit

section
variable {P : Program} {E : Env} {C : Cx} {D : List Deferred} {outs : List (List Value)} {st st' : St} {a : Act} {w : World} {σ : Places}

theorem flat_nil : flat [] = [] := rfl
theorem flat_cons (d : Value) (ds : List Value) : flat (d :: ds) = d.cells.toList ++ flat ds := rfl
theorem flat_app (ds es : List Value) : flat (ds ++ es) = flat ds ++ flat es := by simp [flat]
theorem Wf.app {n : Nat} {ds es : List Value} (h : Wf n ds) (h' : Wf n es) : Wf n (ds ++ es) := fun d hd => by
  rcases List.mem_append.1 hd with hd | hd
  · exact h d hd
  · exact h' d hd

theorem flat_length {n : Nat} : ∀ {ds : List Value}, Wf n ds → (flat ds).length = ds.length * n
  | [], _ => by simp [flat]
  | d :: ds, h => by
    rw [flat_cons, List.length_append, flat_length (fun x hx => h x (by simp [hx]))]
    have := (h d (by simp)).1
    simp only [Array.length_toList, this, List.length_cons, Nat.add_mul]
    omega

theorem flat_get {n : Nat} : ∀ {ds : List Value} {i r : Nat} {d u : Value}, Wf n ds → ds[i]? = some d → d.cells.toList[r]? = some u → (flat ds)[i * n + r]? = some u
  | [], i, r, d, u, _, h, _ => by simp at h
  | x :: ds, 0, r, d, u, hw, h, hu => by
    simp at h; subst h
    have hlt := (List.getElem?_eq_some_iff.1 hu).1
    rw [flat_cons, Nat.zero_mul, Nat.zero_add, List.getElem?_append_left hlt]
    exact hu
  | x :: ds, i + 1, r, d, u, hw, h, hu => by
    have hx : x.cells.toList.length = n := by have := (hw x (by simp)).1; simpa using this
    have ih := flat_get (fun y (hy : y ∈ ds) => hw y (List.mem_cons_of_mem _ hy)) (by simpa using h) hu
    rw [flat_cons, List.getElem?_append_right (by rw [hx, Nat.add_mul]; omega), hx, show (i + 1) * n + r - n = i * n + r by rw [Nat.add_mul]; omega]
    exact ih

theorem flat_get' {n : Nat} (hn : 0 < n) : ∀ {ds : List Value} {j : Nat} {u : Value}, Wf n ds → (flat ds)[j]? = some u → ∃ d, ds[j / n]? = some d ∧ d.cells.toList[j % n]? = some u
  | [], j, u, _, h => by simp [flat] at h
  | x :: ds, j, u, hw, h => by
    have hx : x.cells.toList.length = n := by have := (hw x (by simp)).1; simpa using this
    rw [flat_cons] at h
    by_cases hj : j < n
    · rw [List.getElem?_append_left (by omega)] at h
      exact ⟨x, by rw [Nat.div_eq_of_lt hj]; rfl, by rw [Nat.mod_eq_of_lt hj]; exact h⟩
    · rw [List.getElem?_append_right (by omega), hx] at h
      obtain ⟨d, hd, hu⟩ := flat_get' hn (fun y hy => hw y (by simp [hy])) h
      refine ⟨d, ?_, ?_⟩
      · have : j / n = (j - n) / n + 1 := by
          rw [show j = (j - n) + n by omega, Nat.add_div_right _ hn]; simp
        rw [this]; simpa using hd
      · rw [show j = (j - n) + n by omega, Nat.add_mod_right]; simpa using hu

theorem flat_one {n : Nat} {ds : List Value} (hw : Wf n ds) : ∀ u ∈ flat ds, u.oneCell' = true := fun u hu => by
  simp only [flat, List.mem_flatMap] at hu
  obtain ⟨d, hd, hu⟩ := hu
  exact (hw d hd).2 u hu

theorem LiesE.flat {b off n : Nat} {ds : List Value} (hn : 0 < n) (hw : Wf n ds) (h : LiesE w b off n ds) : Lies w b off (flat ds) := fun j u hu => by
  obtain ⟨d, hd, hu'⟩ := flat_get' hn hw hu
  have := h _ d _ u hd hu'
  rwa [show off + j / n * n + j % n = off + j by rw [Nat.add_assoc, Nat.mul_comm, Nat.div_add_mod]] at this

/-- The cells of the first elements of a slice that lies in memory. -/
theorem run_firstCells_lie {n k cap : Nat} {ds : List Value} {p : Option Addr} (hk : ds.length = k) (hw : Wf n ds) (hn : 0 < n)
    (h : ds = [] ∨ ∃ b off, p = some ⟨b, off, none⟩ ∧ LiesE w b off n ds) : (Builtin.firstCells n k (.slice p k cap)).run P w = .ok (flat ds).toArray w := by
  rcases h with rfl | ⟨b, off, rfl, h⟩
  · subst hk
    cases p with
    | none => simp [Builtin.firstCells, flat]
    | some q => simp [Builtin.firstCells, loadCells, loadCellsFrom, flat]
  · have hl := h.flat hn hw
    have := run_firstCells_some (P := P) w n k ⟨b, off, none⟩ k cap (flat ds) (by rw [flat_length hw, hk]) (fun j v hv => by rw [Addr.add_lit]; exact hl j v hv)
    exact this

theorem run_append_in {t ty e : TypeId} {i : TypeInfo} (ht : P.underlying t = some (.slice e)) (hi : P.info? e = some i)
    {p q : Option Addr} {n cap m cap' : Nat} {news : List Value} (hnew : (Builtin.firstCells i.size m (.slice q m cap')).run P w = .ok news.toArray w) (hle : n + m ≤ cap)
    {w' : World} (hst : ∀ b, p = some b → (storeCells (b.add (n * i.size)) news).run P w = .ok () w') (hno : p = none → w' = w) :
    (Builtin.append_ #[t, t] ty #[.slice p n cap, .slice q m cap']).run P w = .ok (.slice p (n + m) cap) w' := by
  cases p with
  | none => simp [Builtin.append_, run_underlying ht, sizeOf, typeInfo, hi, Builtin.lenOf, hle, hnew, hno rfl]
  | some b => simp [Builtin.append_, run_underlying ht, sizeOf, typeInfo, hi, Builtin.lenOf, hle, hnew, hst b rfl]

theorem run_append_out {t ty e : TypeId} {i : TypeInfo} {z : Value} (ht : P.underlying t = some (.slice e)) (hi : P.info? e = some i) (hz : i.zero = some z)
    {p q : Option Addr} {n cap m cap' : Nat} {olds news : List Value} (hold : (Builtin.firstCells i.size n (.slice p n cap)).run P w.drew = .ok olds.toArray w.drew)
    (hnew : (Builtin.firstCells i.size m (.slice q m cap')).run P w.drew = .ok news.toArray w.drew) (hg : cap < n + m)
    (h63 : ((n + m : Nat) : Int) ≤ 9223372036854775807) (hfit : Builtin.nextslicecap (n + m) cap * i.bytes ≤ 281474976710656) :
    (Builtin.append_ #[t, t] ty #[.slice p n cap, .slice q m cap']).run P w =
      .ok (.slice (some ⟨w.heap.size, 0, none⟩) (n + m) (grownCap w (n + m) cap e))
        (w.drew.alloc (.cells (olds.toArray ++ news.toArray ++ Builtin.zeroCells z.cells (grownCap w (n + m) cap e - (n + m))) e)) := by
  have hn : ¬ (n + m ≤ cap) := by omega
  have h63' : ¬ (9223372036854775807 < ((n : Int) + (m : Int))) := by omega
  have h48' : ¬ (281474976710656 < Builtin.nextslicecap (n + m) cap * i.bytes) := by omega
  simp [Builtin.append_, run_underlying ht, sizeOf, typeInfo, zeroValue, hi, hz, Builtin.lenOf, hn, h63', h48', Question.forced, hnew, hold, newRow, grownCap]
  congr 2
  apply Array.ext'
  simp [List.append_assoc]

theorem sized_wf {n : Nat} {m : Option Bool} : ∀ {vs : List V} {ds : List Value}, sized n vs = true → RepL C w σ m vs ds → Wf n ds
  | [], ds, _, h => by simp only [RepL] at h; subst h; intro d hd; cases hd
  | v :: vs, ds, hs, h => by
    simp only [RepL] at h
    obtain ⟨d, r, rfl, hd, hr⟩ := h
    simp only [sized, Bool.and_eq_true] at hs
    have ih := sized_wf hs.2 hr
    intro u hu
    rcases List.mem_cons.1 hu with rfl | hu
    · have h1 := hs.1
      split at h1
      · rename_i cs hcs
        obtain ⟨_, hone, hlen, _⟩ := cells?_ok hd hcs
        exact ⟨by rw [hlen]; simpa using h1, hone⟩
      · cases h1
    · exact ih u hu

theorem flat_holds {n bo : Nat} {ds : List Value} {cur : List Value} (hw : Wf n ds) (h : ∀ j u, (flat ds)[j]? = some u → cur[bo + j]? = some u) :
    ∀ i d r u, ds[i]? = some d → d.cells.toList[r]? = some u → cur[bo + i * n + r]? = some u := fun i d r u hd hu => by
  rw [Nat.add_assoc]; exact h _ u (flat_get hw hd hu)

/-- What a slice's elements read as. -/
theorem elemsV_ok (h : Sim C D outs st a w σ) {y : V} {cy : Value} (hr : Rep C w σ none y cy) {fl t : Bool} {ys : List V} (he : elemsV st.objs y = some (fl, t, ys)) :
    ∃ q cap ds, cy = .slice q ys.length cap ∧ RepL C w σ (some t) ys ds ∧ (fl = true → refFreeL ys = true) ∧
      (ys = [] ∨ ∃ b off es, q = some ⟨b, off, none⟩ ∧ LiesE w b off es ds ∧ Wf es ds ∧ 0 < es) := by
  unfold elemsV at he
  split at he
  · cases he
    obtain ⟨q, rfl⟩ := hr
    exact ⟨q, 0, [], rfl, rfl, fun _ => rfl, .inl rfl⟩
  · cases he
    obtain ⟨hf, q, cap, rfl, hle, hv⟩ := hr
    rcases hv with rfl | ⟨b, off, es, ds, rfl, hb, hl, hw, hes, hlie⟩
    · exact ⟨q, cap, [], rfl, rfl, fun _ => rfl, .inl rfl⟩
    · exact ⟨_, cap, ds, rfl, hl, fun _ => hf, .inr ⟨b, off, es, rfl, hlie, hw, hes⟩⟩
  · rename_i id off len
    split at he
    case h_2 => cases he
    rename_i ob hob
    split at he
    case isFalse => cases he
    rename_i hle
    cases he
    obtain ⟨loc, hloc, hrep, hfl⟩ := h.objs id ob hob
    simp only [Rep, hloc] at hr
    have hlen : ((ob.elems.drop off).take len).length = len := by simp; omega
    cases loc with
    | virt app =>
      obtain ⟨rfl, rfl, q, cp, rfl, _⟩ := hr
      exact ⟨q, cp, [], by simp, by simp [RepL], fun _ => by simp [refFreeL], .inl (by simp)⟩
    | blk b bo es cap app =>
      obtain ⟨q, cp, rfl, hlc, ha⟩ := hr
      obtain ⟨h1, h2, h3, cur, ety, ds, hg, hl, hwf, hcur, happ⟩ := hrep
      refine ⟨q, cp, (ds.drop off).take len, by rw [hlen], (hl.drop off).take len, fun hf => refFreeL_take_drop (hfl hf) off len, ?_⟩
      rcases ha with ⟨h0, _⟩ | ⟨ha, _⟩
      · subst h0; exact .inl (by simp)
      · refine .inr ⟨b, bo + off * es, es, ha, fun i d r u hd hu => ?_, fun d hd => hwf d (List.mem_of_mem_drop (List.mem_of_mem_take hd)), h2⟩
        rw [List.getElem?_take] at hd
        split at hd
        · rw [List.getElem?_drop] at hd
          rw [cell_of_row w b _ cur ety (0, 0) hg]
          have := hcur (off + i) d r u hd hu
          rw [Nat.add_mul, ← Nat.add_assoc] at this
          simpa using this
        · cases hd
  · cases he

mutual
theorem kill_kill (j i : Nat) : ∀ v, kill j (kill i (kill j v)) = kill i (kill j v)
  | .int .. => rfl
  | .bool _ => rfl
  | .lit _ => rfl
  | .und => rfl
  | .agg cs => by simp [kill, killL_killL j i cs]
  | .tup cs => by simp [kill, killL_killL j i cs]
  | .sl .. => rfl
  | .emp => rfl
  | .fp .. => rfl
  | .own k o l => by
    simp only [kill]
    split
    · rfl
    · simp only [kill]
      split
      · rfl
      · simp only [kill]; split
        · contradiction
        · rfl
  | .ptr k o l => by
    simp only [kill]
    split
    · rfl
    · simp only [kill]
      split
      · rfl
      · simp only [kill]; split
        · contradiction
        · rfl
  | .clo f xs ys => by simp [kill, killL_killL j i xs, killL_killL j i ys]
  | .junk => rfl
theorem killL_killL (j i : Nat) : ∀ vs, killL j (killL i (killL j vs)) = killL i (killL j vs)
  | [] => rfl
  | v :: vs => by simp [killL, kill_kill j i v, killL_killL j i vs]
end
theorem killAll_killAll (j i : Nat) : ∀ ls, killAll j (killAll i (killAll j ls)) = killAll i (killAll j ls)
  | [] => rfl
  | v :: vs => by simp [killAll, killL_killL j i v, killAll_killAll j i vs]

/-- An object under another name. -/
theorem Sim.rename (h : Sim C D outs st a w σ) {j id : Nat} {ob : Ob} {loc : At} (hob : look st.objs j = some ob) (hloc : σ j = some loc) (hflat : ob.flat = true) :
    Sim C D outs ((st.drop j).alloc id ob) a w (setP (fun k => if k = j then none else σ k) id loc) := by
  obtain ⟨loc', hl', hrep, hff⟩ := h.objs j ob hob
  rw [hloc] at hl'
  cases hl'
  obtain ⟨σ', hσ'⟩ : ∃ σ' : Places, σ' = setP (fun k => if k = j then none else σ k) id loc := ⟨_, rfl⟩
  rw [← hσ']
  have hid : σ' id = some loc := by rw [hσ', setP_same]
  have hne : ∀ k, k ≠ id → k ≠ j → σ' k = σ k := fun k h1 h2 => by rw [hσ', setP_ne _ _ h1]; exact if_neg h2
  have hj : j ≠ id → σ' j = none := fun h1 => by rw [hσ', setP_ne _ _ h1]; exact if_pos rfl
  have hheld : ∀ b, Held σ' b → Held σ b := fun b hb => by
    obtain ⟨k, bo, es, cap, app, hk⟩ := hb
    by_cases h1 : k = id
    · subst h1; rw [hid] at hk; exact ⟨j, bo, es, cap, app, hloc.trans hk⟩
    · by_cases h2 : k = j
      · subst h2; rw [hj h1] at hk; cases hk
      · rw [hne k h1 h2] at hk; exact ⟨k, bo, es, cap, app, hk⟩
  -- on the way both names stand
  have hmid : ∀ b, Held (setP σ id loc) b → Held σ b := fun b hb => by
    rcases hb.setP with hb | ⟨bo, es, cap, app, e⟩
    · exact hb
    · subst e; exact ⟨j, bo, es, cap, app, hloc⟩
  have ok0 : ∀ t b, okB C w σ t b → okB C w σ t b := fun _ _ h => h
  have ok1 : ∀ t b, okB C w σ t b → okB C w (setP σ id loc) t b := fun t b hb => ⟨fun hh => hb.1 (hmid b hh), hb.2⟩
  have ok2 : ∀ t b, okB C w (setP σ id loc) t b → okB C w σ' t b := fun t b hb => by
    refine ⟨fun hh => hb.1 ?_, hb.2⟩
    obtain ⟨k, bo, es, cap, app, hk⟩ := hh
    by_cases h1 : k = id
    · subst h1; rw [hid] at hk; exact ⟨k, bo, es, cap, app, (setP_same σ k loc).trans hk⟩
    · by_cases h2 : k = j
      · subst h2; rw [hj h1] at hk; cases hk
      · rw [hne k h1 h2] at hk; exact ⟨k, bo, es, cap, app, (setP_ne σ loc h1).trans hk⟩
  have hc : ∀ (σ0 : Places) (t : Bool) (b o : Nat), okB C w σ0 t b → w.cell? ⟨b, o, none⟩ = w.cell? ⟨b, o, none⟩ := fun _ _ _ _ _ => rfl
  have s2 : ∀ k, k ≠ j → σ' k = setP σ id loc k := fun k h2 => by
    by_cases h1 : k = id
    · subst h1; rw [hid, setP_same]
    · rw [hne k h1 h2, setP_ne σ loc h1]
  have hL : ∀ {m : Option Bool} (vs : List V) {ds : List Value}, RepL C w σ m vs ds → RepL C w σ' m (killL id (killL j vs)) ds := fun vs _ hr => by
    have r1 := RepL.kill j (C' := C) (w' := w) (σ' := σ) ok0 (hc σ) (fun _ _ => rfl) vs hr
    have r2 := RepL.kill id (C' := C) (w' := w) (σ' := setP σ id loc) ok1 (hc σ) (fun k hk => setP_ne σ loc hk) _ r1
    have r3 := RepL.kill j (C' := C) (w' := w) (σ' := σ') ok2 (hc _) s2 _ r2
    rwa [killL_killL] at r3
  have hLL : ∀ {ls : List (List V)} {ds : List (List Value)}, RepLL C w σ ls ds → RepLL C w σ' (killAll id (killAll j ls)) ds := fun hr => by
    have r1 := RepLL.kill j (w' := w) (σ' := σ) ok0 (hc σ) (fun _ _ => rfl) hr
    have r2 := RepLL.kill id (w' := w) (σ' := setP σ id loc) ok1 (hc σ) (fun k hk => setP_ne σ loc hk) r1
    have r3 := RepLL.kill j (w' := w) (σ' := σ') ok2 (hc _) s2 r2
    rwa [killAll_killAll] at r3
  have okT : ∀ t b, okB C w σ t b → okB C w σ' t b := fun t b hb => ⟨fun hh => hb.1 (hheld b hh), hb.2⟩
  have hfree : ∀ {m : Option Bool} (vs : List V) {ds : List Value}, refFreeL vs = true → RepL C w σ m vs ds → RepL C w σ' m vs ds := fun vs _ hf hr => RepL.free okT (hc σ) vs hf hr
  refine ⟨hL _ h.slots, hLL h.outer, fun k ob' hk => ?_, fun k hk => ?_, fun i k b bo es cap app bo' es' cap' app' hi hk => ?_, fun b hb => h.held b (hheld b hb), h.below, h.base, h.old, h.still.mono (fun b _ hb => hheld b hb) (Nat.le_refl _) (fun _ _ _ => rfl)⟩
  · simp only [St.alloc, St.drop, look_upd, look_killObs] at hk
    by_cases h1 : k = id
    · rw [if_pos h1] at hk
      cases hk
      subst h1
      refine ⟨loc, hid, ?_, hff⟩
      cases loc with
      | virt app => exact hrep
      | blk b bo es cap app =>
        obtain ⟨q1, q2, q3, cur, e', ds, hg, hl, hr⟩ := hrep
        exact ⟨q1, q2, q3, cur, e', ds, hg, hfree _ (hff hflat) hl, hr⟩
    · rw [if_neg h1, if_neg h1] at hk
      by_cases h2 : k = j
      · rw [if_pos h2] at hk; simp at hk
      · rw [if_neg h2] at hk
        simp only [Option.map_map, Option.map_eq_some_iff] at hk
        obtain ⟨ob2, ho2, rfl⟩ := hk
        obtain ⟨loc2, hl2, hr2, hf2⟩ := h.objs k ob2 ho2
        refine ⟨loc2, by rw [hne k h1 h2, hl2], ?_, ?_⟩
        · simp only [Function.comp, killOb]
          by_cases hfl : ob2.flat = true
          · simp only [hfl, if_true]
            cases loc2 with
            | virt app => exact hr2
            | blk b bo es cap app =>
              obtain ⟨q1, q2, q3, cur, e', ds, hg, hl, hr⟩ := hr2
              exact ⟨q1, q2, q3, cur, e', ds, hg, hfree _ (hf2 hfl) hl, hr⟩
          · simp only [hfl, Bool.false_eq_true, if_false]
            cases loc2 with
            | virt app =>
              obtain ⟨q1, q2, q3⟩ := hr2
              exact ⟨by simp [q1, killL], q2, q3⟩
            | blk b bo es cap app =>
              obtain ⟨q1, q2, q3, cur, e', ds, hg, hl, hwf, hcur, happ⟩ := hr2
              have hk2 := hL _ hl
              have hlen : (killL id (killL j ob2.elems)).length = ob2.elems.length := by rw [← hk2.length, ← hl.length]
              exact ⟨q1, q2, q3, cur, e', ds, hg, hk2, hwf, hcur, fun x => by have := happ x; simp only [hlen]; exact this⟩
        · simp only [Function.comp, killOb]
          by_cases hfl : ob2.flat = true
          · simp only [hfl, if_true]; exact fun _ => hf2 hfl
          · simp [hfl]
  · simp only [St.alloc, St.drop, look_upd, look_killObs] at hk
    by_cases h1 : k = id
    · rw [if_pos h1] at hk; cases hk
    · rw [if_neg h1, if_neg h1] at hk
      by_cases h2 : k = j
      · subst h2; exact hj h1
      · rw [if_neg h2] at hk
        rw [hne k h1 h2]
        exact h.dom k (by simpa using hk)
  · have back : ∀ k b bo es cap app, σ' k = some (.blk b bo es cap app) → ∃ k', σ k' = some (.blk b bo es cap app) ∧ ((k = id ∧ k' = j) ∨ (k ≠ id ∧ k ≠ j ∧ k' = k)) := fun k b bo es cap app hk => by
      by_cases h1 : k = id
      · subst h1; rw [hid] at hk; exact ⟨j, hloc.trans hk, .inl ⟨rfl, rfl⟩⟩
      · by_cases h2 : k = j
        · subst h2; rw [hj h1] at hk; cases hk
        · rw [hne k h1 h2] at hk; exact ⟨k, hk, .inr ⟨h1, h2, rfl⟩⟩
    obtain ⟨i', hi', ei⟩ := back i _ _ _ _ _ hi
    obtain ⟨k', hk', ek⟩ := back k _ _ _ _ _ hk
    have := h.inj i' k' b _ _ _ _ _ _ _ _ hi' hk'
    rcases ei with ⟨rfl, rfl⟩ | ⟨e1, e2, rfl⟩ <;> rcases ek with ⟨rfl, rfl⟩ | ⟨e3, e4, rfl⟩
    · rfl
    · exact absurd this.symm e4
    · exact absurd this e2
    · exact this

theorem evAppend_ok (hT : TyOk P E) (h : Sim C D outs st a w σ) {t id d ty : Nat} {ei : TI} (hs : sliceOf E t = some ei) {x y : V} {cx cy : Value} (hx : Rep C w σ none x cx) (hy : Rep C w σ none y cy)
    (he : evAppend id d ei x y st = some st') : ∃ cv w' σ', (Builtin.append_ #[t, t] ty #[cx, cy]).run P w = .ok cv w' ∧ Sim C D outs st' (a.put (some d) cv) w' σ' := by
  obtain ⟨e, hu, hte⟩ := sliceOf_ok hT hs
  obtain ⟨d', i, z, hd, ht, hi, hsz, hby, hz, hzv, hzs, hz1, _⟩ := hT e ei hte
  unfold evAppend at he
  split at he
  case h_2 => cases he
  rename_i fl ty' ys helems
  split at he
  case h_2 => cases he
  rename_i s t1 ns hfreeze
  split at he
  case h_2 => cases he
  rename_i io to old honto
  split at he
  case isFalse => cases he
  rename_i hcond
  obtain ⟨hroom, hmax, hsized, hes⟩ := hcond
  cases he
  simp only [roomy, decide_eq_true_eq] at hroom
  obtain ⟨q, capq, dsy, rfl, hly, hfly, hliey⟩ := elemsV_ok h hy helems
  obtain ⟨σ1, h1, hns, hnsf, hsub⟩ := freeze_ok h hly hfly hfreeze
  have hwfy : Wf ei.size dsy := sized_wf hsized hns
  have hleny : dsy.length = ys.length := hly.length
  have hlenn : ns.length = ys.length := by rw [← hns.length, hleny]
  have hfirst : ∀ w', (∀ b o, w'.cell? ⟨b, o, none⟩ = w.cell? ⟨b, o, none⟩) → (Builtin.firstCells i.size ys.length (.slice q ys.length capq)).run P w' = .ok (flat dsy).toArray w' := fun w' hw' => by
    rw [hsz]
    refine run_firstCells_lie hleny hwfy hes ?_
    rcases hliey with h0 | ⟨b, off, es, rfl, hlie, hwf, hes'⟩
    · rw [h0] at hleny
      exact .inl (List.eq_nil_of_length_eq_zero hleny)
    · rcases Nat.eq_zero_or_pos dsy.length with h0 | h0
      · exact .inl (List.eq_nil_of_length_eq_zero h0)
      · have : es = ei.size := by
          have hm : dsy[0]'h0 ∈ dsy := List.getElem_mem _
          exact (hwf _ hm).1.symm.trans (hwfy _ hm).1
        subst this
        exact .inr ⟨b, off, rfl, hlie.mono fun o => hw' b o⟩
  -- what is appended to
  obtain ⟨p, n, capp, dso, rfl, hn, hlo, hwo, hflo, hlieo, hplace, hncap⟩ : ∃ p n capp dso, cx = .slice p n capp ∧ old.length = n ∧ RepL C w σ1 (some to) old dso ∧ Wf ei.size dso ∧ refFreeL old = true ∧
      (dso = [] ∨ ∃ b off, p = some ⟨b, off, none⟩ ∧ LiesE w b off ei.size dso) ∧
      ((n = 0 ∧ capp = 0) ∨ ∃ b bcap j ob cur ety, io = some j ∧ look s.objs j = some ob ∧ ob.flat = true ∧ ob.es = ei.size ∧ ob.app = true ∧ σ1 j = some (.blk b 0 ei.size bcap true) ∧ p = some ⟨b, 0, none⟩ ∧ capp ≤ bcap ∧
        w.heap[b]? = some (.cells cur ety (0, 0)) ∧ cur.size = bcap * ei.size ∧ bcap ≤ maxLen ∧ (∀ j u, (flat dso)[j]? = some u → cur.toList[j]? = some u)) ∧ n ≤ capp := by
    cases x with
    | emp =>
      simp only [onto] at honto
      cases honto
      obtain ⟨p, rfl⟩ := hx
      exact ⟨p, 0, 0, [], rfl, rfl, rfl, fun d hd => by (cases hd), rfl, .inl rfl, .inl ⟨rfl, rfl⟩, Nat.le_refl _⟩
    | own j off len =>
      simp only [onto] at honto
      split at honto
      case h_2 => cases honto
      rename_i ob hob
      split at honto
      case isFalse => cases honto
      rename_i hc
      obtain ⟨happ0, hflat0, hoff, hlen, hobes⟩ := hc
      cases honto
      obtain ⟨loc, hloc1, hrep, hfl0⟩ := h1.objs j ob hob
      have hloc : σ j = some loc := by
        rcases hsub j with e' | e'
        · rw [e'] at hloc1; cases hloc1
        · rw [← e']; exact hloc1
      simp only [Rep, hloc] at hx
      cases loc with
      | virt app =>
        obtain ⟨_, hl0, p, cp, rfl, hcp⟩ := hx
        have hcp0 : cp = 0 := hcp (by rw [← hrep.2.1]; exact happ0)
        subst hcp0
        have hel : ob.elems = [] := hrep.1
        exact ⟨p, 0, 0, [], rfl, by rw [hel]; rfl, by rw [hel]; rfl, fun d hd => by (cases hd), by rw [hel]; rfl, .inl rfl, .inl ⟨rfl, rfl⟩, Nat.le_refl _⟩
      | blk b bo es bcap app =>
        obtain ⟨p, cp, rfl, hlc, ha⟩ := hx
        obtain ⟨g1, g2, g3, cur, ety, ds, hg, hl, hwf, hcur, happ⟩ := hrep
        have happ' : app = true := by rw [← g3]; exact happ0
        obtain ⟨hbo, hcs, hbm, hbl⟩ := happ happ'
        subst hbo
        have hese : es = ei.size := by rw [← g1]; exact hobes
        subst hese
        subst hoff
        refine ⟨p, len, cp, ds, rfl, hlen.symm, hl, hwf, hfl0 hflat0, ?_, ?_, hlc⟩
        · rcases ha with ⟨h0, _⟩ | ⟨ha, _⟩
          · refine .inl (List.eq_nil_of_length_eq_zero ?_)
            rw [hl.length, ← hlen, h0]
          · refine .inr ⟨b, 0 + 0 * ei.size, ha, fun i' d r u hd hu => ?_⟩
            rw [cell_of_row w b _ cur ety (0, 0) hg]
            have := hcur i' d r u hd hu
            simpa using this
        · rcases ha with ⟨h0, h0'⟩ | ⟨ha, ha'⟩
          · exact .inl ⟨h0, h0' happ'⟩
          · refine .inr ⟨b, bcap, j, ob, cur, ety, rfl, hob, hflat0, hobes, happ0, by rw [hloc1, happ'], by simpa using ha, by have := ha' happ'; omega, hg, hcs, hbm, fun k u hu => ?_⟩
            obtain ⟨d, hd, hu'⟩ := flat_get' hes hwf hu
            have := hcur _ d _ u hd hu'
            rwa [show 0 + k / ei.size * ei.size + k % ei.size = k by rw [Nat.zero_add, Nat.mul_comm, Nat.div_add_mod]] at this
    | _ => simp [onto] at honto
  have hokw : ∀ t b, okB C w σ1 t b → okB C w σ1 t b := fun _ _ hb => hb
  -- what the object will hold
  have hnew : RepL C w σ1 (some (to && t1)) (old ++ ns) (dso ++ dsy) := by
    refine RepL.app (RepL.into (m := some to) _ _ (fun e => by simp at e; simp [e.1]) (fun _ e => by cases e) hlo) (RepL.into (m := some t1) _ _ (fun e => by simp at e; simp [e.2]) (fun _ e => by cases e) hns)
  have hnewf : refFreeL (old ++ ns) = true := by rw [refFreeL_app, hflo, hnsf]; rfl
  have hwn : Wf ei.size (dso ++ dsy) := hwo.app hwfy
  -- the state without what was appended to
  obtain ⟨σ2, h2, hsub2⟩ : ∃ σ2, Sim C D outs (dropO s io) a w σ2 ∧ (∀ b, Held σ2 b → Held σ1 b) := by
    cases io with
    | none => exact ⟨σ1, h1, fun _ hb => hb⟩
    | some j => exact ⟨_, h1.drop j, fun b hb => hb.sub fun k => by by_cases e : k = j <;> simp [e]⟩
  by_cases hroomy : n + ys.length ≤ capp
  · -- in place
    rcases hplace with ⟨hn0, hc0⟩ | ⟨b, bcap, j, ob, cur, ety, hio, hob, hobf, hobes, hoba, hσj, hp, hcb, hg, hcs, hbm, hcur⟩
    · -- nothing to nothing
      have hy0 : ys.length = 0 := by omega
      have hyn : ns = [] := List.eq_nil_of_length_eq_zero (by omega)
      have hd0 : dsy = [] := List.eq_nil_of_length_eq_zero (by omega)
      have hold0 : old = [] := List.eq_nil_of_length_eq_zero (by omega)
      have hrun := run_append_in (P := P) (ty := ty) (p := p) (n := n) (cap := capp) hu hi (hfirst w fun _ _ => rfl) hroomy (w' := w) (fun b' _ => by subst hd0; simp [flat, storeCells]) (fun _ => rfl)
      refine ⟨_, _, setP σ2 id (.virt true), hrun, (h2.alloc id (.virt true) (Below.refl _ _) (fun _ _ _ _ _ e => by cases e) _ ⟨?_, rfl, hes⟩ ?_).put ?_⟩
      · simp [hold0, hyn]
      · intro _; simp [hold0, hyn, refFreeL]
      · simp only [Rep, setP_same]
        exact ⟨trivial, by omega, p, 0, by rw [hn0, hy0, hc0], fun _ => rfl⟩
    · subst hp
      subst hio
      have hfl : (flat dsy).length = ys.length * ei.size := by rw [flat_length hwfy, hleny]
      have hflo : (flat dso).length = n * ei.size := by rw [flat_length hwo, hlo.length, hn]
      have hfit : n * ei.size + (flat dsy).length ≤ cur.toList.length := by
        rw [hfl, ← Nat.add_mul]; simp only [Array.length_toList, hcs]; exact Nat.mul_le_mul_right _ (by omega)
      have hst := run_storeCells_at P b (n * ei.size) ety (flat dsy) 0 cur w hg (by simpa using hfit) (flat_one hwfy)
      simp only [Nat.add_zero] at hst
      obtain ⟨cur', hcur'⟩ : ∃ cur' : Array Value, cur' = (cur.toList.take (n * ei.size) ++ flat dsy ++ cur.toList.drop (n * ei.size + (flat dsy).length)).toArray := ⟨_, rfl⟩
      rw [← hcur'] at hst
      have hrun := run_append_in (P := P) (ty := ty) (p := some ⟨b, 0, none⟩) (n := n) (cap := capp) hu hi (hfirst w fun _ _ => rfl) hroomy (w' := w.setRow b cur')
        (fun b' hb' => by cases hb'; rw [Addr.add_lit, hsz, Nat.zero_add]; exact hst) (fun hb' => by cases hb')
      have hget : ∀ k, cur'.toList[k]? = if k < n * ei.size then cur.toList[k]? else if k < n * ei.size + (flat dsy).length then (flat dsy)[k - n * ei.size]? else cur.toList[k]? := fun k => by
        have := splice_get cur.toList (n * ei.size) (flat dsy) hfit k
        rw [hcur', List.toList_toArray]; exact this
      have hcsz : cur'.size = cur.size := by
        have : cur'.toList.length = cur.toList.length := by rw [hcur', List.toList_toArray]; simp at hfit ⊢; omega
        simpa using this
      have hheldb : Held σ1 b := ⟨j, 0, ei.size, bcap, true, hσj⟩
      have hoth : ∀ k, k ≠ b → ∀ o, (w.setRow b cur').cell? ⟨k, o, none⟩ = w.cell? ⟨k, o, none⟩ := fun k hk o => cell_of_heap (setRow_other w b k _ hk) o
      have hok : ∀ t k, okB C w σ1 t k → okB C (w.setRow b cur') σ1 t k := fun t k hk => ⟨hk.1, by rw [size_setRow]; exact hk.2.1, hk.2.2.1, fun e => by rw [setRow_other w b k _ (fun e => hk.1 (e ▸ hheldb))]; exact hk.2.2.2 e⟩
      have hc : ∀ (t : Bool) (k o : Nat), okB C w σ1 t k → (w.setRow b cur').cell? ⟨k, o, none⟩ = w.cell? ⟨k, o, none⟩ := fun t k o hk => hoth k (fun e => hk.1 (e ▸ hheldb)) o
      have hcap : n + ys.length ≤ bcap := by omega
      -- the object written in its place, then under its new name
      have hw1 := h1.write (ob' := { es := ei.size, flat := true, t := to && t1, app := true, elems := old ++ ns }) (cur' := cur') hob hσj hg
        ⟨rfl, hes, rfl, cur', ety, dso ++ dsy, setRow_heap w b cur cur' ety (0, 0) hg, RepL.mono hok hc (fun _ => rfl) _ hnew, hwn,
          flat_holds hwn (fun k u hku => by
            rw [Nat.zero_add, hget]
            rw [flat_app] at hku
            by_cases hk : k < n * ei.size
            · rw [if_pos hk]
              rw [List.getElem?_append_left (by omega)] at hku
              exact hcur k u hku
            · rw [if_neg hk]
              rw [List.getElem?_append_right (by omega), hflo] at hku
              have := (List.getElem?_eq_some_iff.1 hku).1
              rw [if_pos (by omega)]
              exact hku),
          fun _ => ⟨rfl, by rw [hcsz, hcs], hbm, by simp; omega⟩⟩ (fun _ => hnewf)
      have hw2 := Sim.rename hw1 (id := id) (ob := { es := ei.size, flat := true, t := to && t1, app := true, elems := old ++ ns }) (loc := .blk b 0 ei.size bcap true) (j := j) (by rw [look_upd, if_pos rfl]) hσj rfl
      refine ⟨_, _, setP (fun k => if k = j then none else σ1 k) id (.blk b 0 ei.size bcap true), hrun, ?_⟩
      have hst' : St.alloc (St.drop { s with objs := upd s.objs j { es := ei.size, flat := true, t := to && t1, app := true, elems := old ++ ns } } j) id { es := ei.size, flat := true, t := to && t1, app := true, elems := old ++ ns } =
          St.alloc (dropO s (some j)) id { es := ei.size, flat := true, t := to && t1, app := true, elems := old ++ ns } := by
        have : ∀ (l : List (Nat × Ob)) (o : Ob), look l j ≠ none → killObs j (upd l j o) = killObs j l := by
          intro l o
          induction l with
          | nil => intro h; simp [look] at h
          | cons x l ih =>
            obtain ⟨k, y⟩ := x
            intro h
            by_cases hk : k = j
            · subst hk; simp [upd, killObs]
            · simp only [look, hk, if_false] at h
              by_cases hlt : j < k
              · simp [upd, killObs, Ne.symm hk, hlt, hk]
              · simp [upd, killObs, hk, Ne.symm hk, hlt, ih h]
        simp only [dropO, St.alloc, St.drop]
        rw [this _ _ (by rw [hob]; simp)]
      rw [hst'] at hw2
      refine hw2.put ?_
      simp only [Rep, setP_same]
      exact ⟨_, capp, by rw [hn, hlenn], by omega, .inr ⟨by simp, fun _ => by omega⟩⟩
  · -- in a new block
    have hfirsto : (Builtin.firstCells i.size n (.slice p n capp)).run P w.drew = .ok (flat dso).toArray w.drew := by
      rw [hsz]
      refine run_firstCells_lie (by rw [hlo.length, hn]) hwo hes ?_
      rcases hlieo with h0 | ⟨b, off, rfl, hlie⟩
      · exact .inl h0
      · exact .inr ⟨b, off, rfl, hlie.mono fun _ => rfl⟩
    have hrun := run_append_out (P := P) (ty := ty) hu hi hz hfirsto (hfirst w.drew fun _ _ => rfl) (by omega) (by omega) (growslice_fits (by omega) (by rw [hby, ← hn, ← hlenn]; exact hroom))
    obtain ⟨nc, hnc⟩ : ∃ nc, nc = grownCap w (n + ys.length) capp e := ⟨_, rfl⟩
    rw [← hnc] at hrun
    have hge : n + ys.length ≤ nc := by rw [hnc]; exact grownCap_ge w _ _ _
    have hle : nc ≤ maxLen := by rw [hnc]; exact grownCap_le_maxLen w _ _ _ (by unfold maxLen; omega)
    have hbel : Below w.heap.size w (w.drew.alloc (.cells ((flat dso).toArray ++ (flat dsy).toArray ++ Builtin.zeroCells z.cells (nc - (n + ys.length))) e)) :=
      ((Below.refl _ _).drew).alloc (Nat.le_refl _) _
    refine ⟨_, _, setP σ2 id (.blk w.heap.size 0 ei.size nc true), hrun, (h2.alloc id (.blk w.heap.size 0 ei.size nc true) hbel (fun b bo es cap app e => ?_) _ ?_ (fun _ => hnewf)).put ?_⟩
    · cases e; simp
    · refine ⟨rfl, hes, rfl, _, e, dso ++ dsy, heap_alloc_new w.drew _, ?_, hwn, ?_, fun _ => ⟨rfl, ?_, hle, by simp; omega⟩⟩
      · refine RepL.free (fun t b hb => ?_) (fun t b o hb => hbel.cell (p := ⟨b, o, none⟩) hb.2.1) _ hnewf hnew
        refine ⟨fun hh => ?_, Nat.lt_of_lt_of_le hb.2.1 hbel.size, hb.2.2.1, fun e => by rw [hbel.block b hb.2.1]; exact hb.2.2.2 e⟩
        rcases hh.setP with hh | ⟨_, _, _, _, e⟩
        · exact hb.1 (hsub2 b hh)
        · cases e; exact absurd hb.2.1 (Nat.lt_irrefl _)
      · refine flat_holds hwn (fun k u hku => ?_)
        rw [Nat.zero_add, Array.toList_append, Array.toList_append, List.toList_toArray, List.toList_toArray, ← flat_app]
        rw [List.getElem?_append_left (List.getElem?_eq_some_iff.1 hku).1]
        exact hku
      · simp only [Array.size_append, List.size_toArray, size_zeroCells, flat_length hwo, flat_length hwfy, hlo.length, hn, hleny, hzs]
        rw [← Nat.add_mul, ← Nat.add_mul]
        congr 1
        omega
    · simp only [Rep, setP_same]
      exact ⟨_, nc, by rw [hn, hlenn], by omega, .inr ⟨by simp, fun _ => by omega⟩⟩

end
end Go.AM
