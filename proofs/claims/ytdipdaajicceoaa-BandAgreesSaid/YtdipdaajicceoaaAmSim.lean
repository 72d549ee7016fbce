/-
When a state of the abstract machine fits an activation and a world; what putting a value, forgetting an object, laying a new one and writing into one do to that.
-/
import Derived.Test.YtdipdaajicceoaaAmRep
import Derived.RangeFuncOwn
namespace Go.AM
open Go Go.RowKit

def RepLL (C : Cx) (w : World) (σ : Places) : List (List V) → List (List Value) → Prop
  | [], ds => ds = []
  | l :: r, ds => ∃ d q, ds = d :: q ∧ RepL C w σ none l d ∧ RepLL C w σ r q

/-- What is known of an object at its place. -/
def ObRep (C : Cx) (w : World) (σ : Places) (ob : Ob) : At → Prop
  | .virt app => ob.elems = [] ∧ ob.app = app ∧ 0 < ob.es
  | .blk b bo es cap app => ob.es = es ∧ 0 < es ∧ ob.app = app ∧ ∃ cur e ds, w.heap[b]? = some (.cells cur e (0, 0)) ∧ RepL C w σ (some ob.t) ob.elems ds ∧ Wf es ds ∧
      (∀ i d r u, ds[i]? = some d → d.cells.toList[r]? = some u → cur.toList[bo + i * es + r]? = some u) ∧ (app = true → bo = 0 ∧ cur.size = cap * es ∧ cap ≤ maxLen ∧ ob.elems.length ≤ cap)

/-- Deferred calls that are marks of loops over functions: their blocks lie untouched. -/
def Marks (C : Cx) (w : World) (σ : Places) (ms : List Deferred) : Prop :=
  (ms = [] ∨ C.mrk = true) ∧ ms.Nodup ∧ ∀ d ∈ ms, ∃ r, d = { target := .collected r, args := #[] } ∧ (C.B ≤ r ∧ ¬ C.Z r) ∧ r < w.heap.size ∧ ¬ Held σ r ∧ w.heap[r]? = some (.deferred (some []))

/-- What stands still. -/
structure Still (C : Cx) (w : World) (σ : Places) (D : List Deferred) (l : List Deferred) : Prop where
  marks : ∃ ms, l = ms ++ D ∧ Marks C w σ ms
  zed : ∀ b, C.Z b → ¬ Held σ b ∧ b < w.heap.size ∧ w.heap[b]? = C.w0.heap[b]?

theorem Still.mono {C : Cx} {w w' : World} {σ σ' : Places} {D l : List Deferred} (h : Still C w σ D l) (hσ : ∀ b, b < w.heap.size → Held σ' b → Held σ b) (hs : w.heap.size ≤ w'.heap.size)
    (hw : ∀ b, b < w.heap.size → ¬ Held σ b → w'.heap[b]? = w.heap[b]?) : Still C w' σ' D l := by
  obtain ⟨ms, hl, hm⟩ := h.marks
  refine ⟨⟨ms, hl, hm.1, hm.2.1, fun d hd => ?_⟩, fun b hb => ?_⟩
  · obtain ⟨r, h1, h2, h3, h4, h5⟩ := hm.2.2 d hd
    exact ⟨r, h1, h2, Nat.lt_of_lt_of_le h3 hs, fun hh => h4 (hσ r h3 hh), (hw r h3 h4).trans h5⟩
  · obtain ⟨h1, h2, h3⟩ := h.zed b hb
    exact ⟨fun hh => h1 (hσ b h2 hh), Nat.lt_of_lt_of_le h2 hs, (hw b h2 h1).trans h3⟩

theorem Still.refl {C : Cx} {w : World} {σ : Places} {D : List Deferred} (h : ∀ b, C.Z b → ¬ Held σ b ∧ b < w.heap.size ∧ w.heap[b]? = C.w0.heap[b]?) : Still C w σ D D :=
  ⟨⟨[], rfl, .inl rfl, List.nodup_nil, fun _ h => by cases h⟩, h⟩

structure Sim (C : Cx) (D : List Deferred) (outs : List (List Value)) (st : St) (a : Act) (w : World) (σ : Places) : Prop where
  slots : RepL C w σ none st.slots a.tmps.toList
  outer : RepLL C w σ st.outer outs
  objs : ∀ id ob, look st.objs id = some ob → ∃ loc, σ id = some loc ∧ ObRep C w σ ob loc ∧ (ob.flat = true → refFreeL ob.elems = true)
  dom : ∀ id, look st.objs id = none → σ id = none
  inj : ∀ i j b bo es cap app bo' es' cap' app', σ i = some (.blk b bo es cap app) → σ j = some (.blk b bo' es' cap' app') → i = j
  held : ∀ b, Held σ b → C.B ≤ b ∧ b < w.heap.size
  below : Below C.B C.w0 w
  base : C.B ≤ w.heap.size
  old : ∀ b, C.F b → b < C.B
  still : Still C w σ D a.defers

section
variable {α : Type}
theorem look_upd (l : List (Nat × α)) (i j : Nat) (y : α) : look (upd l i y) j = if j = i then some y else look l j := by
  induction l with
  | nil => by_cases h : j = i <;> simp [upd, look, h, eq_comm] ; intro e; exact absurd e.symm h
  | cons p r ih =>
    obtain ⟨k, x⟩ := p
    by_cases h : i = k
    · subst h
      by_cases h2 : j = i
      · simp [upd, look, h2]
      · simp [upd, look, h2, Ne.symm h2]
    · by_cases h3 : i < k
      · by_cases h2 : j = i
        · subst h2
          simp [upd, look, h, h3]
        · simp [upd, look, h, h3, h2, Ne.symm h2]
      · by_cases h2 : j = k
        · subst h2
          simp [upd, look, h, h3, Ne.symm h]
        · simp [upd, look, h, h3, Ne.symm h2, ih]
end

theorem look_killObs (id : Nat) (l : List (Nat × Ob)) (j : Nat) : look (killObs id l) j = if j = id then none else (look l j).map (killOb id) := by
  induction l with
  | nil => simp [killObs, look]
  | cons p r ih =>
    obtain ⟨k, x⟩ := p
    simp only [killObs]
    split
    · rename_i h; subst h
      rw [ih]
      simp only [look]
      split
      · rfl
      · rename_i hj; rw [if_neg (Ne.symm hj)]
    · rename_i hk
      simp only [look, ih]
      split
      · rename_i h; subst h; simp [hk]
      · rfl

section
variable {C C' : Cx} {D : List Deferred} {outs : List (List Value)} {st : St} {a : Act} {w w' : World} {σ σ' : Places}

theorem RepLL.mono (hok : ∀ t b, okB C w σ t b → okB C' w' σ' t b) (hc : ∀ t b o, okB C w σ t b → w'.cell? ⟨b, o, none⟩ = w.cell? ⟨b, o, none⟩)
    (hσ : ∀ j, σ' j = σ j) : ∀ {ls : List (List V)} {ds : List (List Value)}, RepLL C w σ ls ds → RepLL C' w' σ' ls ds
  | [], _, h => h
  | l :: r, ds, h => by
    simp only [RepLL] at h ⊢
    obtain ⟨d, q, rfl, h1, h2⟩ := h
    exact ⟨d, q, rfl, RepL.mono hok hc hσ l h1, RepLL.mono hok hc hσ h2⟩

theorem RepLL.kill (id : Nat) (hok : ∀ t b, okB C w σ t b → okB C w' σ' t b) (hc : ∀ t b o, okB C w σ t b → w'.cell? ⟨b, o, none⟩ = w.cell? ⟨b, o, none⟩)
    (hσ : ∀ j, j ≠ id → σ' j = σ j) : ∀ {ls : List (List V)} {ds : List (List Value)}, RepLL C w σ ls ds → RepLL C w' σ' (killAll id ls) ds
  | [], _, h => h
  | l :: r, ds, h => by
    simp only [RepLL, killAll] at h ⊢
    obtain ⟨d, q, rfl, h1, h2⟩ := h
    exact ⟨d, q, rfl, RepL.kill id hok hc hσ l h1, RepLL.kill id hok hc hσ h2⟩

theorem RepL.get {m : Option Bool} : ∀ {vs : List V} {ds : List Value} (i : Nat) {v : V}, RepL C w σ m vs ds → vs[i]? = some v → ∃ d, ds[i]? = some d ∧ Rep C w σ m v d
  | [], _, _, _, _, h => by simp at h
  | v :: vs, ds, 0, u, h, hu => by
    simp only [RepL] at h
    obtain ⟨d, r, rfl, hd, _⟩ := h
    simp at hu; subst hu
    exact ⟨d, rfl, hd⟩
  | v :: vs, ds, i + 1, u, h, hu => by
    simp only [RepL] at h
    obtain ⟨d, r, rfl, _, hr⟩ := h
    simpa using RepL.get i hr (by simpa using hu)

theorem RepL.set {m : Option Bool} : ∀ {vs : List V} {ds : List Value} (i : Nat) {v : V} {d : Value}, RepL C w σ m vs ds → Rep C w σ m v d → RepL C w σ m (vs.set i v) (ds.set i d)
  | [], ds, i, v, d, h, _ => by simp [RepL] at h; subst h; simp [RepL]
  | x :: vs, ds, 0, v, d, h, hv => by
    simp only [RepL] at h
    obtain ⟨e, r, rfl, _, hr⟩ := h
    exact ⟨d, r, rfl, hv, hr⟩
  | x :: vs, ds, i + 1, v, d, h, hv => by
    simp only [RepL] at h
    obtain ⟨e, r, rfl, he, hr⟩ := h
    exact ⟨e, r.set i d, rfl, he, RepL.set i hr hv⟩

theorem RepL.app {m : Option Bool} : ∀ {vs us : List V} {ds es : List Value}, RepL C w σ m vs ds → RepL C w σ m us es → RepL C w σ m (vs ++ us) (ds ++ es)
  | [], us, ds, es, h, h' => by simp [RepL] at h; subst h; simpa using h'
  | v :: vs, us, ds, es, h, h' => by
    simp only [RepL] at h
    obtain ⟨d, r, rfl, hd, hr⟩ := h
    exact ⟨d, r ++ es, rfl, hd, RepL.app hr h'⟩

theorem RepL.take {m : Option Bool} : ∀ {vs : List V} {ds : List Value} (n : Nat), RepL C w σ m vs ds → RepL C w σ m (vs.take n) (ds.take n)
  | [], ds, n, h => by simp [RepL] at h; subst h; simp [RepL]
  | v :: vs, ds, 0, h => by simp [RepL]
  | v :: vs, ds, n + 1, h => by
    simp only [RepL] at h
    obtain ⟨d, r, rfl, hd, hr⟩ := h
    exact ⟨d, r.take n, rfl, hd, RepL.take n hr⟩

theorem RepL.drop {m : Option Bool} : ∀ {vs : List V} {ds : List Value} (n : Nat), RepL C w σ m vs ds → RepL C w σ m (vs.drop n) (ds.drop n)
  | [], ds, n, h => by simp [RepL] at h; subst h; simp [RepL]
  | v :: vs, ds, 0, h => by simpa using h
  | v :: vs, ds, n + 1, h => by
    simp only [RepL] at h
    obtain ⟨d, r, rfl, hd, hr⟩ := h
    simpa using RepL.drop n hr

theorem RepL.split {m : Option Bool} : ∀ {vs us : List V} {ds : List Value}, RepL C w σ m (vs ++ us) ds → ∃ d1 d2, ds = d1 ++ d2 ∧ RepL C w σ m vs d1 ∧ RepL C w σ m us d2
  | [], us, ds, h => ⟨[], ds, rfl, rfl, h⟩
  | v :: vs, us, ds, h => by
    simp only [List.cons_append, RepL] at h
    obtain ⟨d, r, rfl, hd, hr⟩ := h
    obtain ⟨d1, d2, rfl, h1, h2⟩ := RepL.split hr
    exact ⟨d :: d1, d2, rfl, ⟨d, d1, rfl, hd, h1⟩, h2⟩

theorem Sim.get (h : Sim C D outs st a w σ) (t : Nat) : Rep C w σ none (st.get t) (a.tmps.getD t undef) := by
  unfold St.get
  rw [List.getD_eq_getElem?_getD]
  cases hv : st.slots[t]? with
  | none => simp [Rep]
  | some v =>
    obtain ⟨d, hd, hr⟩ := RepL.get t h.slots hv
    have : a.tmps[t]? = some d := by rw [← Array.getElem?_toList]; exact hd
    simpa [this] using hr

theorem Sim.put (h : Sim C D outs st a w σ) {dst : Option Nat} {v : V} {c : Value} (hv : Rep C w σ none v c) : Sim C D outs (st.put dst v) (a.put dst c) w σ := by
  cases dst with
  | none => exact h
  | some d =>
    refine { h with slots := ?_, outer := h.outer, objs := h.objs, dom := h.dom, still := ?_ }
    · have := RepL.set d h.slots hv
      simpa [St.put, Act.put] using this
    · simpa [Act.put] using h.still

theorem constV_rep (v : Value) : Rep C w σ none (constV v) v := by
  unfold constV
  split <;> first | rfl | exact ⟨_, rfl⟩ | exact ⟨rfl, rfl⟩ | trivial

theorem Sim.eval (h : Sim C D outs st a w σ) (x : Operand) : Rep C w σ none (st.eval x) (a.eval x) := by
  cases x with
  | tmp t => exact h.get t
  | const v => exact constV_rep v
  | func f => exact ⟨[], [], rfl, rfl, rfl⟩
  | global g => trivial

theorem Held.sub (hσ : ∀ j, σ' j = none ∨ σ' j = σ j) {b : Nat} (h : Held σ' b) : Held σ b := by
  obtain ⟨id, bo, es, cap, app, hi⟩ := h
  rcases hσ id with e | e
  · simp [e] at hi
  · exact ⟨id, bo, es, cap, app, e ▸ hi⟩

theorem ObRep.mono {ob : Ob} {loc : At} (h : ObRep C w σ ob loc) (hok : ∀ t b, okB C w σ t b → okB C' w' σ' t b) (hc : ∀ t b o, okB C w σ t b → w'.cell? ⟨b, o, none⟩ = w.cell? ⟨b, o, none⟩)
    (hσ : ∀ j, σ' j = σ j) (hh : ∀ b bo es cap app, loc = .blk b bo es cap app → w'.heap[b]? = w.heap[b]?) : ObRep C' w' σ' ob loc := by
  cases loc with
  | virt app => exact h
  | blk b bo es cap app =>
    obtain ⟨h1, h2, h3, cur, e, ds, hg, hl, hr⟩ := h
    exact ⟨h1, h2, h3, cur, e, ds, (hh _ _ _ _ _ rfl).trans hg, RepL.mono hok hc hσ _ hl, hr⟩

/-- Object id is forgotten. -/
theorem Sim.drop (h : Sim C D outs st a w σ) (id : Nat) : Sim C D outs (st.drop id) a w (fun j => if j = id then none else σ j) := by
  have hσ : ∀ j, (if j = id then none else σ j) = none ∨ (if j = id then none else σ j) = σ j := fun j => by split <;> simp
  have hσ' : ∀ j, j ≠ id → (if j = id then none else σ j) = σ j := fun j hj => if_neg hj
  have hok : ∀ t b, okB C w σ t b → okB C w (fun j => if j = id then none else σ j) t b := fun t b hb => ⟨fun hh => hb.1 (hh.sub hσ), hb.2⟩
  have hc : ∀ (t : Bool) (b o : Nat), okB C w σ t b → w.cell? ⟨b, o, none⟩ = w.cell? ⟨b, o, none⟩ := fun _ _ _ _ => rfl
  refine ⟨RepL.kill id hok hc hσ' _ h.slots, RepLL.kill id hok hc hσ' h.outer, fun j ob hj => ?_, fun j hj => ?_, fun i j b bo es cap app bo' es' cap' app' hi hj => ?_, fun b hb => h.held b (hb.sub hσ), h.below, h.base, h.old, h.still.mono (fun b _ hb => hb.sub hσ) (Nat.le_refl _) (fun _ _ _ => rfl)⟩
  · simp only [St.drop, look_killObs] at hj
    split at hj
    · cases hj
    · rename_i hne
      obtain ⟨ob', ho', rfl⟩ := Option.map_eq_some_iff.1 hj
      obtain ⟨loc, hl, hr, hfl⟩ := h.objs j ob' ho'
      refine ⟨loc, by simp [hne, hl], ?_, ?_⟩
      · cases loc with
        | virt app =>
          obtain ⟨h1, h2, h3⟩ := hr
          unfold killOb
          split
          · exact ⟨h1, h2, h3⟩
          · exact ⟨by simp [h1, killL], h2, h3⟩
        | blk b bo es cap app =>
          obtain ⟨h1, h2, h3, cur, e, ds, hg, hl', hwf, hcur, happ⟩ := hr
          unfold killOb
          split
          · rename_i hf
            exact ⟨h1, h2, h3, cur, e, ds, hg, RepL.free hok hc _ (hfl hf) hl', hwf, hcur, happ⟩
          · have hk := RepL.kill id hok hc hσ' _ hl'
            have hlen : (killL id ob'.elems).length = ob'.elems.length := by rw [← hk.length, ← hl'.length]
            exact ⟨h1, h2, h3, cur, e, ds, hg, hk, hwf, hcur, fun x => by have := happ x; simp only [hlen]; exact this⟩
      · unfold killOb
        split
        · exact hfl
        · rename_i hf; intro hf'; exact absurd hf' hf
  · simp only [St.drop, look_killObs] at hj
    split at hj
    · rename_i e; simp [e]
    · rename_i hne
      simp [hne, h.dom j (by simpa using hj)]
  · have hi' := (hσ i).resolve_left (by rw [hi]; simp)
    have hj' := (hσ j).resolve_left (by rw [hj]; simp)
    exact h.inj i j b bo es cap app bo' es' cap' app' (hi' ▸ hi) (hj' ▸ hj)

theorem Sim.dropL : ∀ {l : List Nat} {st : St} {σ : Places}, Sim C D outs st a w σ → ∃ σ', Sim C D outs (st.dropL l) a w σ' ∧ ∀ b, Held σ' b → Held σ b
  | [], st, σ, h => ⟨σ, h, fun _ hb => hb⟩
  | i :: r, st, σ, h => by
    obtain ⟨σ', h', hs⟩ := Sim.dropL (l := r) (h.drop i)
    exact ⟨σ', h', fun b hb => (hs b hb).sub fun j => by by_cases e : j = i <;> simp [e]⟩

theorem okB.grow (hw : Below w.heap.size w w') {t : Bool} {b : Nat} (h : okB C w σ t b) : okB C w' σ t b :=
  ⟨h.1, Nat.lt_of_lt_of_le h.2.1 hw.size, h.2.2.1, fun e => by rw [hw.block b h.2.1]; exact h.2.2.2 e⟩

/-- The world has grown: nothing that lay has turned. -/
theorem Sim.world (h : Sim C D outs st a w σ) (hw : Below w.heap.size w w') : Sim C D outs st a w' σ := by
  have hok : ∀ t b, okB C w σ t b → okB C w' σ t b := fun t b hb => hb.grow hw
  have hc : ∀ (t : Bool) (b o : Nat), okB C w σ t b → w'.cell? ⟨b, o, none⟩ = w.cell? ⟨b, o, none⟩ := fun t b o hb => hw.cell (p := ⟨b, o, none⟩) hb.2.1
  have hσ : ∀ j, σ j = σ j := fun _ => rfl
  refine ⟨RepL.mono hok hc hσ _ h.slots, RepLL.mono hok hc hσ h.outer, fun id ob ho => ?_, h.dom, h.inj, fun b hb => ⟨(h.held b hb).1, Nat.lt_of_lt_of_le (h.held b hb).2 hw.size⟩, h.below.trans (hw.mono h.base), Nat.le_trans h.base hw.size, h.old, h.still.mono (fun _ _ hb => hb) hw.size (fun b hb _ => hw.block b hb)⟩
  obtain ⟨loc, hl, hr, hf⟩ := h.objs id ob ho
  refine ⟨loc, hl, hr.mono hok hc hσ (fun b bo es cap app e => ?_), hf⟩
  subst e
  exact hw.block b (h.held b ⟨id, bo, es, cap, app, hl⟩).2

def setP (σ : Places) (id : Nat) (loc : At) : Places := fun j => if j = id then some loc else σ j

theorem setP_same (σ : Places) (id : Nat) (loc : At) : setP σ id loc id = some loc := by simp [setP]
theorem setP_ne (σ : Places) {id j : Nat} (loc : At) (h : j ≠ id) : setP σ id loc j = σ j := by simp [setP, h]

theorem Held.setP {σ : Places} {id : Nat} {loc : At} {b : Nat} (h : Held (setP σ id loc) b) : Held σ b ∨ ∃ bo es cap app, loc = .blk b bo es cap app := by
  obtain ⟨i, bo, es, cap, app, hi⟩ := h
  by_cases e : i = id
  · subst e; rw [setP_same] at hi; exact .inr ⟨bo, es, cap, app, Option.some.inj hi⟩
  · rw [setP_ne σ loc e] at hi; exact .inl ⟨i, bo, es, cap, app, hi⟩

/-- A new object, at a place that is new, in a world that has grown; whatever had its name is forgotten. -/
theorem Sim.alloc (h : Sim C D outs st a w σ) (id : Nat) (loc : At) (hw : Below w.heap.size w w')
    (hloc : ∀ b bo es cap app, loc = .blk b bo es cap app → w.heap.size ≤ b ∧ b < w'.heap.size) (ob : Ob)
    (hr : ObRep C w' (setP σ id loc) ob loc) (hf : ob.flat = true → refFreeL ob.elems = true) : Sim C D outs (st.alloc id ob) a w' (setP σ id loc) := by
  have hok : ∀ t b, okB C w σ t b → okB C w' (setP σ id loc) t b := fun t b hb => by
    refine ⟨fun hh => ?_, Nat.lt_of_lt_of_le hb.2.1 hw.size, hb.2.2.1, fun e => by rw [hw.block b hb.2.1]; exact hb.2.2.2 e⟩
    rcases hh.setP with hh | ⟨bo, es, cap, app, e⟩
    · exact hb.1 hh
    · have := (hloc _ _ _ _ _ e).1
      have := hb.2.1
      omega
  have hc : ∀ (t : Bool) (b o : Nat), okB C w σ t b → w'.cell? ⟨b, o, none⟩ = w.cell? ⟨b, o, none⟩ := fun t b o hb => hw.cell (p := ⟨b, o, none⟩) hb.2.1
  have hσ : ∀ j, j ≠ id → setP σ id loc j = σ j := fun j hj => setP_ne σ loc hj
  refine ⟨RepL.kill id hok hc hσ _ h.slots, RepLL.kill id hok hc hσ h.outer, fun j ob' hj => ?_, fun j hj => ?_, fun i j b bo es cap app bo' es' cap' app' hi hj => ?_, fun b hb => ?_, h.below.trans (hw.mono h.base), Nat.le_trans h.base hw.size, h.old, h.still.mono (fun b hb hh => by
      rcases hh.setP with hh | ⟨bo, es, cap, app, e⟩
      · exact hh
      · have := (hloc _ _ _ _ _ e).1; omega) hw.size (fun b hb _ => hw.block b hb)⟩
  · simp only [St.alloc, St.drop, look_upd, look_killObs] at hj
    by_cases e : j = id
    · rw [if_pos e] at hj
      cases hj
      subst e
      exact ⟨loc, setP_same σ j loc, hr, hf⟩
    · rw [if_neg e, if_neg e] at hj
      obtain ⟨ob2, ho2, rfl⟩ := Option.map_eq_some_iff.1 hj
      obtain ⟨loc', hl, hr', hfl⟩ := h.objs j ob2 ho2
      refine ⟨loc', by rw [setP_ne σ loc e, hl], ?_, ?_⟩
      · cases loc' with
        | virt app =>
          obtain ⟨h1, h2, h3⟩ := hr'
          unfold killOb
          split
          · exact ⟨h1, h2, h3⟩
          · exact ⟨by simp [h1, killL], h2, h3⟩
        | blk b bo es cap app =>
          obtain ⟨h1, h2, h3, cur, e', ds, hg, hl', hwf, hcur, happ⟩ := hr'
          have hg' := (hw.block b (h.held b ⟨j, bo, es, cap, app, hl⟩).2).trans hg
          unfold killOb
          split
          · rename_i hf2
            exact ⟨h1, h2, h3, cur, e', ds, hg', RepL.free hok hc _ (hfl hf2) hl', hwf, hcur, happ⟩
          · have hk := RepL.kill id hok hc hσ _ hl'
            have hlen : (killL id ob2.elems).length = ob2.elems.length := by rw [← hk.length, ← hl'.length]
            exact ⟨h1, h2, h3, cur, e', ds, hg', hk, hwf, hcur, fun x => by have := happ x; simp only [hlen]; exact this⟩
      · unfold killOb
        split
        · exact hfl
        · rename_i hf2; intro hf'; exact absurd hf' hf2
  · simp only [St.alloc, St.drop, look_upd, look_killObs] at hj
    by_cases e : j = id
    · rw [if_pos e] at hj; cases hj
    · rw [if_neg e, if_neg e] at hj
      rw [setP_ne σ loc e]
      exact h.dom j (by simpa using hj)
  · by_cases e : i = id
    · subst e
      by_cases e' : j = i
      · exact e'.symm
      · exfalso
        rw [setP_same] at hi
        rw [setP_ne σ loc e'] at hj
        have := (hloc _ _ _ _ _ (Option.some.inj hi)).1
        have := (h.held b ⟨j, bo', es', cap', app', hj⟩).2
        omega
    · rw [setP_ne σ loc e] at hi
      by_cases e' : j = id
      · subst e'
        exfalso
        rw [setP_same] at hj
        have := (hloc _ _ _ _ _ (Option.some.inj hj)).1
        have := (h.held b ⟨i, bo, es, cap, app, hi⟩).2
        omega
      · rw [setP_ne σ loc e'] at hj
        exact h.inj i j b bo es cap app bo' es' cap' app' hi hj
  · rcases hb.setP with hb | ⟨bo, es, cap, app, e⟩
    · exact ⟨(h.held b hb).1, Nat.lt_of_lt_of_le (h.held b hb).2 hw.size⟩
    · have := hloc _ _ _ _ _ e
      exact ⟨Nat.le_trans h.base this.1, this.2⟩

theorem cell_of_heap {b : Nat} (h : w'.heap[b]? = w.heap[b]?) (o : Nat) : w'.cell? ⟨b, o, none⟩ = w.cell? ⟨b, o, none⟩ := World.cell?_of_block (w := w) (a := ⟨b, o, none⟩) h

/-- An object's elements are written anew, in its own block. -/
theorem Sim.write (h : Sim C D outs st a w σ) {id : Nat} {ob ob' : Ob} {b bo es cap : Nat} {app : Bool} (ho : look st.objs id = some ob) (hσ : σ id = some (.blk b bo es cap app))
    {cur cur' : Array Value} {e : TypeId} (hg : w.heap[b]? = some (.cells cur e (0, 0))) (hr : ObRep C (w.setRow b cur') σ ob' (.blk b bo es cap app))
    (hf : ob'.flat = true → refFreeL ob'.elems = true) : Sim C D outs { st with objs := upd st.objs id ob' } a (w.setRow b cur') σ := by
  have hheld : Held σ b := ⟨id, bo, es, cap, app, hσ⟩
  have hsz : (w.setRow b cur').heap.size = w.heap.size := size_setRow w b cur'
  have hoth : ∀ k, k ≠ b → (w.setRow b cur').heap[k]? = w.heap[k]? := fun k hk => setRow_other w b k cur' hk
  have hok : ∀ t k, okB C w σ t k → okB C (w.setRow b cur') σ t k := fun t k hk => ⟨hk.1, by rw [hsz]; exact hk.2.1, hk.2.2.1, fun e => by rw [hoth k (fun e => hk.1 (e ▸ hheld))]; exact hk.2.2.2 e⟩
  have hc : ∀ (t : Bool) (k o : Nat), okB C w σ t k → (w.setRow b cur').cell? ⟨k, o, none⟩ = w.cell? ⟨k, o, none⟩ := fun t k o hk =>
    cell_of_heap (hoth k (fun e => hk.1 (e ▸ hheld))) o
  have hs : ∀ j, σ j = σ j := fun _ => rfl
  refine ⟨RepL.mono hok hc hs _ h.slots, RepLL.mono hok hc hs h.outer, fun j ob2 hj => ?_, fun j hj => ?_, h.inj, fun k hk => by rw [hsz]; exact h.held k hk, h.below.trans ?_, by rw [hsz]; exact h.base, h.old, h.still.mono (fun _ _ hb => hb) (by rw [hsz]; exact Nat.le_refl _) (fun k _ hk => hoth k (fun e => hk (e ▸ hheld)))⟩
  · simp only [look_upd] at hj
    by_cases e : j = id
    · rw [if_pos e] at hj
      cases hj
      subst e
      exact ⟨_, hσ, hr, hf⟩
    · rw [if_neg e] at hj
      obtain ⟨loc', hl, hr', hfl⟩ := h.objs j ob2 hj
      refine ⟨loc', hl, hr'.mono hok hc hs (fun k bo' es' cap' app' el => hoth k (fun ek => e ?_)), hfl⟩
      subst el; subst ek
      exact h.inj j id k bo' es' cap' app' bo es cap app hl hσ
  · simp only [look_upd] at hj
    by_cases e : j = id
    · rw [if_pos e] at hj; cases hj
    · rw [if_neg e] at hj; exact h.dom j hj
  · exact ⟨rfl, rfl, rfl, by rw [hsz]; exact Nat.le_refl _, fun k hk => hoth k (fun e => by have := (h.held b hheld).1; omega)⟩

/-- The same, with all that is not held standing still from here on. -/
def Cx.at (C : Cx) (w : World) (σ : Places) (mk : Bool) : Cx := { C with w0 := w, Z := fun b => b < w.heap.size ∧ ¬ Held σ b, mrk := mk }

theorem RepL.at {vs : List V} {ds : List Value} {mo : Option Bool} (h : RepL C w σ mo vs ds) {w1 : World} {σ1 : Places} {mk : Bool} : RepL (C.at w1 σ1 mk) w σ mo vs ds :=
  RepL.mono (C := C) (C' := C.at w1 σ1 mk) (w' := w) (σ' := σ) (fun _ _ hb => hb) (fun _ _ _ _ => rfl) (fun _ => rfl) _ h

theorem Rep.of_at {v : V} {d : Value} {mo : Option Bool} {w1 : World} {σ1 : Places} {mk : Bool} (h : Rep (C.at w1 σ1 mk) w σ mo v d) : Rep C w σ mo v d :=
  Rep.mono (C := C.at w1 σ1 mk) (C' := C) (w' := w) (σ' := σ) (fun _ _ hb => hb) (fun _ _ _ _ => rfl) (fun _ => rfl) _ h

theorem Sim.recx {a' : Act} {D' : List Deferred} (h : Sim C D outs st a w σ) (hB : C'.B = C.B) (hF : C'.F = C.F) (ha : a'.tmps = a.tmps) (hb : Below C'.B C'.w0 w) (hs : Still C' w σ D' a'.defers) : Sim C' D' outs st a' w σ := by
  obtain ⟨F, B, w0, Z, mk⟩ := C
  obtain ⟨F', B', w0', Z', mk'⟩ := C'
  dsimp only at hB hF
  subst hB; subst hF
  have hok : ∀ t b, okB ⟨F', B', w0, Z, mk⟩ w σ t b → okB ⟨F', B', w0', Z', mk'⟩ w σ t b := fun _ _ hb => hb
  have hc : ∀ (t : Bool) (b o : Nat), okB ⟨F', B', w0, Z, mk⟩ w σ t b → w.cell? ⟨b, o, none⟩ = w.cell? ⟨b, o, none⟩ := fun _ _ _ _ => rfl
  refine ⟨by rw [ha]; exact RepL.mono hok hc (fun _ => rfl) _ h.slots, RepLL.mono hok hc (fun _ => rfl) h.outer, fun id ob ho => ?_, h.dom, h.inj, h.held, hb, h.base, h.old, hs⟩
  obtain ⟨loc, hl, hr, hf⟩ := h.objs id ob ho
  exact ⟨loc, hl, hr.mono hok hc (fun _ => rfl) (fun _ _ _ _ _ _ => rfl), hf⟩

theorem Sim.focus {a' : Act} (mk : Bool) (h : Sim C D outs st a w σ) (ha : a'.tmps = a.tmps) : Sim (C.at w σ mk) a'.defers outs st a' w σ :=
  h.recx rfl rfl ha (Below.refl _ _) (Still.refl fun _ hb => ⟨hb.2, hb.1, rfl⟩)

theorem Still.past {D' l l' : List Deferred} {mk : Bool} (h : Still C w σ D l) (h' : Still (C.at w σ mk) w' σ' D' l') (hs : w.heap.size ≤ w'.heap.size) : Still C w' σ' D l :=
  h.mono (fun b hb hh => Classical.byContradiction fun hn => (h'.zed b ⟨hb, hn⟩).1 hh) hs (fun b hb hn => (h'.zed b ⟨hb, hn⟩).2.2)

theorem Sim.back {mk : Bool} {D' l : List Deferred} {st' : St} {outs' : List (List Value)} {a' a'' : Act} (hB : Below C.B C.w0 w) (hS : Still C w σ D l) (h : Sim (C.at w σ mk) D' outs' st' a' w' σ') (ha : a''.tmps = a'.tmps) (hl : a''.defers = l) :
    Sim C D outs' st' a'' w' σ' :=
  h.recx rfl rfl ha (hB.trans h.below) (by rw [hl]; exact hS.past h.still h.below.size)

/-- A block that is no cells is turned. -/
theorem Sim.turn (h : Sim C D outs st a w σ) (hD : a.defers = D) {r : Nat} {o o' : Obj} (hr : w.heap[r]? = some o) (ho : o.isCells = false) (ho' : o'.isCells = false) (hB : C.B ≤ r) (hZ : ¬ C.Z r) : Sim C D outs st a (w.putObj r o') σ := by
  have hsz : (w.putObj r o').heap.size = w.heap.size := World.putObj_size
  have hoth : ∀ b, b ≠ r → (w.putObj r o').heap[b]? = w.heap[b]? := fun b hb => World.putObj_heap_other hb
  have hnc : ∀ {A : World} {ob : Obj} (k : Nat), A.heap[r]? = some ob → ob.isCells = false → A.cell? ⟨r, k, none⟩ = none := fun {A ob} k h1 h2 => by
    cases hcell : A.cell? ⟨r, k, none⟩ with
    | none => rfl
    | some v =>
      obtain ⟨ob', h3, h4⟩ := cells_of_cell hcell
      dsimp only at h3
      rw [h1] at h3
      cases h3
      rw [h2] at h4
      cases h4
  have hlt : r < w.heap.size := (Array.getElem?_eq_some_iff.1 hr).1
  have hc0 : ∀ b k, (w.putObj r o').cell? ⟨b, k, none⟩ = w.cell? ⟨b, k, none⟩ := fun b k => by
    by_cases e : b = r
    · subst e
      rw [hnc k hr ho, hnc k (World.putObj_heap_same hlt) ho']
    · exact cell_of_heap (hoth b e) k
  have hok : ∀ t b, okB C w σ t b → okB C (w.putObj r o') σ t b := fun t b hb => ⟨hb.1, by rw [hsz]; exact hb.2.1, hb.2.2.1, fun e => by
    by_cases e2 : b = r
    · subst e2
      obtain ⟨cur, e3, h3⟩ := hb.2.2.2 e
      rw [hr] at h3
      cases h3
      cases ho
    · rw [hoth b e2]; exact hb.2.2.2 e⟩
  have hc : ∀ (t : Bool) (b k : Nat), okB C w σ t b → (w.putObj r o').cell? ⟨b, k, none⟩ = w.cell? ⟨b, k, none⟩ := fun _ b k _ => hc0 b k
  refine ⟨RepL.mono hok hc (fun _ => rfl) _ h.slots, RepLL.mono hok hc (fun _ => rfl) h.outer, fun id ob hi => ?_, h.dom, h.inj, fun b hb => by rw [hsz]; exact h.held b hb,
    h.below.trans ⟨rfl, rfl, rfl, by rw [hsz]; exact Nat.le_refl _, fun k hk => hoth k (by omega)⟩, by rw [hsz]; exact h.base, h.old, ?_⟩
  · obtain ⟨loc, hl, hrp, hf⟩ := h.objs id ob hi
    refine ⟨loc, hl, hrp.mono hok hc (fun _ => rfl) (fun b bo es cap app e => hoth b (fun e2 => ?_)), hf⟩
    subst e; subst e2
    obtain ⟨_, _, _, cur, e3, ds, hg, _⟩ := hrp
    rw [hr] at hg
    cases hg
    cases ho
  · rw [hD]
    refine Still.refl fun b hb => ?_
    obtain ⟨h1, h2, h3⟩ := h.still.zed b hb
    exact ⟨h1, by rw [hsz]; exact h2, (hoth b (fun e => hZ (e ▸ hb))).trans h3⟩

end
end Go.AM
