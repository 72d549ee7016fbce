/-
What an abstract value says of a value in memory, and that it keeps saying it while memory grows and other objects are written.
-/
import Derived.Test.YtdipdaajicceoaaAmDef
namespace Go.AM
open Go Go.RowKit

/-- Where an object lies: nowhere yet (a nil slice), or in block b from cell bo on, with elements of es cells and room for cap of them. -/
inductive At where
  | virt (app : Bool)
  | blk (b bo es cap : Nat) (app : Bool)

/-- What stands still during a call: old blocks that are read, the heap's size and the world at its beginning; Z: other blocks that nobody turns; mrk: loops over functions may leave marks. -/
structure Cx where
  F : Nat → Prop
  B : Nat
  w0 : World
  Z : Nat → Prop
  mrk : Bool

abbrev Places := Nat → Option At

/-- Block b holds an object. -/
def Held (σ : Places) (b : Nat) : Prop := ∃ id bo es cap app, σ id = some (.blk b bo es cap app)

/-- Block b is only read; t: it is new. -/
def okB (C : Cx) (w : World) (σ : Places) (t : Bool) (b : Nat) : Prop :=
  ¬ Held σ b ∧ b < w.heap.size ∧ (C.B ≤ b ∨ (t = false ∧ C.F b)) ∧ (t = true → ∃ cur e, w.heap[b]? = some (.cells cur e (0, 0)))

/-- The cells of a list of values. -/
def flat (ds : List Value) : List Value := ds.flatMap fun d => d.cells.toList

/-- Values of es cells each. -/
def Wf (es : Nat) (ds : List Value) : Prop := ∀ d ∈ ds, d.cells.size = es ∧ ∀ u ∈ d.cells.toList, u.oneCell' = true

/-- Values of es cells each lie in a block, one behind the other. -/
def LiesE (w : World) (b off es : Nat) (ds : List Value) : Prop :=
  ∀ i d r u, ds[i]? = some d → d.cells.toList[r]? = some u → w.cell? ⟨b, off + i * es + r, none⟩ = some u

/-- Cells lie in a block. -/
def Lies (w : World) (b off : Nat) (us : List Value) : Prop := ∀ j u, us[j]? = some u → w.cell? ⟨b, off + j, none⟩ = some u

section
variable (C : Cx) (w : World) (σ : Places)
mutual
def Rep (m : Option Bool) : V → Value → Prop
  | .int k n, c => c = .int k n
  | .bool b, c => c = .bool b
  | .lit v, c => c = v ∧ v.oneCell' = true
  | .und, c => c = undef
  | .agg cs, c => ∃ ds : List Value, c = .agg ds.toArray ∧ RepL m cs ds ∧ ∀ u ∈ ds, u.oneCell' = true
  | .tup cs, c => ∃ ds : List Value, c = .tuple ds.toArray ∧ RepL m cs ds
  | .sl t vs, c => refFreeL vs = true ∧ ∃ a cap, c = .slice a vs.length cap ∧ vs.length ≤ cap ∧
      (vs = [] ∨ ∃ b off es ds, a = some ⟨b, off, none⟩ ∧ okB C w σ (m.getD t) b ∧ RepL (some (m.getD t)) vs ds ∧ Wf es ds ∧ 0 < es ∧ LiesE w b off es ds)
  | .emp, c => ∃ a, c = .slice a 0 0
  | .fp t cs o, c => refFreeL cs = true ∧ ∃ b off ds, c = .pointer (some ⟨b, off + o, none⟩) ∧ okB C w σ (m.getD t) b ∧
      RepL (some (m.getD t)) cs ds ∧ (∀ u ∈ ds, u.oneCell' = true) ∧ Lies w b off ds
  | .own id off len, c => match σ id with
    | none => False
    | some (.virt app) => off = 0 ∧ len = 0 ∧ ∃ a cp, c = .slice a 0 cp ∧ (app = true → cp = 0)
    | some (.blk b bo es cap app) => ∃ a cp, c = .slice a len cp ∧ len ≤ cp ∧
        ((len = 0 ∧ (app = true → cp = 0)) ∨ (a = some ⟨b, bo + off * es, none⟩ ∧ (app = true → off + cp ≤ cap)))
  | .ptr id i o, c => match σ id with
    | none => False
    | some (.virt _) => False
    | some (.blk b bo es _ _) => c = .pointer (some ⟨b, bo + i * es + o, none⟩)
  | .clo f xs ys, c => ∃ fa fb : List Value, c = .func (.func f) fa.toArray fb.toArray ∧ RepL m xs fa ∧ RepL m ys fb
  | .junk, _ => True
def RepL (m : Option Bool) : List V → List Value → Prop
  | [], ds => ds = []
  | v :: vs, ds => ∃ d r, ds = d :: r ∧ Rep m v d ∧ RepL m vs r
end
end

section
variable {C C' : Cx} {w w' : World} {σ σ' : Places}

theorem RepL.length {m : Option Bool} : ∀ {vs : List V} {ds : List Value}, RepL C w σ m vs ds → ds.length = vs.length
  | [], ds, h => by simp [RepL] at h; simp [h]
  | v :: vs, ds, h => by
    simp only [RepL] at h
    obtain ⟨d, r, rfl, _, hr⟩ := h
    simp [RepL.length hr]

theorem Lies.mono {b off : Nat} {us : List Value} (h : Lies w b off us) (hc : ∀ o, w'.cell? ⟨b, o, none⟩ = w.cell? ⟨b, o, none⟩) : Lies w' b off us :=
  fun j u hu => (hc _).trans (h j u hu)

theorem LiesE.mono {b off es : Nat} {ds : List Value} (h : LiesE w b off es ds) (hc : ∀ o, w'.cell? ⟨b, o, none⟩ = w.cell? ⟨b, o, none⟩) : LiesE w' b off es ds :=
  fun i d r u hd hu => (hc _).trans (h i d r u hd hu)

mutual
/-- What a value says goes on being true where what is read has not turned; object id alone may have gone or come anew, if the value names it no more. -/
theorem Rep.kill (id : Nat) (hok : ∀ t b, okB C w σ t b → okB C' w' σ' t b) (hc : ∀ t b o, okB C w σ t b → w'.cell? ⟨b, o, none⟩ = w.cell? ⟨b, o, none⟩)
    (hσ : ∀ j, j ≠ id → σ' j = σ j) : ∀ {m : Option Bool} (v : V) {c : Value}, Rep C w σ m v c → Rep C' w' σ' m (kill id v) c
  | m, .int k n, c, h => h
  | m, .bool b, c, h => h
  | m, .lit v, c, h => h
  | m, .und, c, h => h
  | m, .agg cs, c, h => by
    simp only [Rep, AM.kill] at h ⊢
    obtain ⟨ds, rfl, hl, h1⟩ := h
    exact ⟨ds, rfl, RepL.kill id hok hc hσ cs hl, h1⟩
  | m, .tup cs, c, h => by
    simp only [Rep, AM.kill] at h ⊢
    obtain ⟨ds, rfl, hl⟩ := h
    exact ⟨ds, rfl, RepL.kill id hok hc hσ cs hl⟩
  | m, .sl t vs, c, h => by
    simp only [Rep, AM.kill] at h ⊢
    obtain ⟨hf, a, cap, rfl, hle, hv⟩ := h
    refine ⟨hf, a, cap, rfl, hle, ?_⟩
    rcases hv with hv | ⟨b, off, es, ds, rfl, hb, hl, hw, hes, hlie⟩
    · exact .inl hv
    · exact .inr ⟨b, off, es, ds, rfl, hok _ _ hb, RepL.free hok hc vs hf hl, hw, hes, hlie.mono fun o => hc _ b o hb⟩
  | m, .emp, c, h => h
  | m, .fp t cs o, c, h => by
    simp only [Rep, AM.kill] at h ⊢
    obtain ⟨hf, b, off, ds, rfl, hb, hl, h1, hlie⟩ := h
    exact ⟨hf, b, off, ds, rfl, hok _ _ hb, RepL.free hok hc cs hf hl, h1, hlie.mono fun o => hc _ b o hb⟩
  | m, .own j off len, c, h => by
    simp only [AM.kill]
    split
    · trivial
    · rename_i hj
      simpa [Rep, hσ j hj] using h
  | m, .ptr j i o, c, h => by
    simp only [AM.kill]
    split
    · trivial
    · rename_i hj
      simpa [Rep, hσ j hj] using h
  | m, .clo f xs ys, c, h => by
    simp only [Rep, AM.kill] at h ⊢
    obtain ⟨fa, fb, rfl, hx, hy⟩ := h
    exact ⟨fa, fb, rfl, RepL.kill id hok hc hσ xs hx, RepL.kill id hok hc hσ ys hy⟩
  | m, .junk, c, _ => trivial
theorem RepL.kill (id : Nat) (hok : ∀ t b, okB C w σ t b → okB C' w' σ' t b) (hc : ∀ t b o, okB C w σ t b → w'.cell? ⟨b, o, none⟩ = w.cell? ⟨b, o, none⟩)
    (hσ : ∀ j, j ≠ id → σ' j = σ j) : ∀ {m : Option Bool} (vs : List V) {ds : List Value}, RepL C w σ m vs ds → RepL C' w' σ' m (killL id vs) ds
  | m, [], ds, h => h
  | m, v :: vs, ds, h => by
    simp only [RepL, killL] at h ⊢
    obtain ⟨d, r, rfl, hd, hr⟩ := h
    exact ⟨d, r, rfl, Rep.kill id hok hc hσ v hd, RepL.kill id hok hc hσ vs hr⟩
/-- A value that names no object. -/
theorem Rep.free (hok : ∀ t b, okB C w σ t b → okB C' w' σ' t b) (hc : ∀ t b o, okB C w σ t b → w'.cell? ⟨b, o, none⟩ = w.cell? ⟨b, o, none⟩) :
    ∀ {m : Option Bool} (v : V) {c : Value}, refFree v = true → Rep C w σ m v c → Rep C' w' σ' m v c
  | m, .int k n, c, _, h => h
  | m, .bool b, c, _, h => h
  | m, .lit v, c, _, h => h
  | m, .und, c, _, h => h
  | m, .agg cs, c, hf, h => by
    simp only [Rep, refFree] at h hf ⊢
    obtain ⟨ds, rfl, hl, h1⟩ := h
    exact ⟨ds, rfl, RepL.free hok hc cs hf hl, h1⟩
  | m, .tup cs, c, hf, h => by
    simp only [Rep, refFree] at h hf ⊢
    obtain ⟨ds, rfl, hl⟩ := h
    exact ⟨ds, rfl, RepL.free hok hc cs hf hl⟩
  | m, .sl t vs, c, _, h => by
    simp only [Rep] at h ⊢
    obtain ⟨hf, a, cap, rfl, hle, hv⟩ := h
    refine ⟨hf, a, cap, rfl, hle, ?_⟩
    rcases hv with hv | ⟨b, off, es, ds, rfl, hb, hl, hw, hes, hlie⟩
    · exact .inl hv
    · exact .inr ⟨b, off, es, ds, rfl, hok _ _ hb, RepL.free hok hc vs hf hl, hw, hes, hlie.mono fun o => hc _ b o hb⟩
  | m, .emp, c, _, h => h
  | m, .fp t cs o, c, _, h => by
    simp only [Rep] at h ⊢
    obtain ⟨hf, b, off, ds, rfl, hb, hl, h1, hlie⟩ := h
    exact ⟨hf, b, off, ds, rfl, hok _ _ hb, RepL.free hok hc cs hf hl, h1, hlie.mono fun o => hc _ b o hb⟩
  | m, .own j off len, c, hf, h => by simp [refFree] at hf
  | m, .ptr j i o, c, hf, h => by simp [refFree] at hf
  | m, .clo f xs ys, c, hf, h => by
    simp only [Rep, refFree, Bool.and_eq_true] at h hf ⊢
    obtain ⟨fa, fb, rfl, hx, hy⟩ := h
    exact ⟨fa, fb, rfl, RepL.free hok hc xs hf.1 hx, RepL.free hok hc ys hf.2 hy⟩
  | m, .junk, c, _, _ => trivial
theorem RepL.free (hok : ∀ t b, okB C w σ t b → okB C' w' σ' t b) (hc : ∀ t b o, okB C w σ t b → w'.cell? ⟨b, o, none⟩ = w.cell? ⟨b, o, none⟩) :
    ∀ {m : Option Bool} (vs : List V) {ds : List Value}, refFreeL vs = true → RepL C w σ m vs ds → RepL C' w' σ' m vs ds
  | m, [], ds, _, h => h
  | m, v :: vs, ds, hf, h => by
    simp only [RepL, refFreeL, Bool.and_eq_true] at h hf ⊢
    obtain ⟨d, r, rfl, hd, hr⟩ := h
    exact ⟨d, r, rfl, Rep.free hok hc v hf.1 hd, RepL.free hok hc vs hf.2 hr⟩
end

mutual
theorem Rep.mono (hok : ∀ t b, okB C w σ t b → okB C' w' σ' t b) (hc : ∀ t b o, okB C w σ t b → w'.cell? ⟨b, o, none⟩ = w.cell? ⟨b, o, none⟩)
    (hσ : ∀ j, σ' j = σ j) : ∀ {m : Option Bool} (v : V) {c : Value}, Rep C w σ m v c → Rep C' w' σ' m v c
  | m, .int k n, c, h => h
  | m, .bool b, c, h => h
  | m, .lit v, c, h => h
  | m, .und, c, h => h
  | m, .agg cs, c, h => by
    simp only [Rep] at h ⊢
    obtain ⟨ds, rfl, hl, h1⟩ := h
    exact ⟨ds, rfl, RepL.mono hok hc hσ cs hl, h1⟩
  | m, .tup cs, c, h => by
    simp only [Rep] at h ⊢
    obtain ⟨ds, rfl, hl⟩ := h
    exact ⟨ds, rfl, RepL.mono hok hc hσ cs hl⟩
  | m, .sl t vs, c, h => by
    have hf : refFree (.sl t vs) = true := rfl
    exact Rep.free hok hc _ hf h
  | m, .emp, c, h => h
  | m, .fp t cs o, c, h => by
    have hf : refFree (.fp t cs o) = true := rfl
    exact Rep.free hok hc _ hf h
  | m, .own j off len, c, h => by
    simpa [Rep, hσ j] using h
  | m, .ptr j i o, c, h => by
    simpa [Rep, hσ j] using h
  | m, .clo f xs ys, c, h => by
    simp only [Rep] at h ⊢
    obtain ⟨fa, fb, rfl, hx, hy⟩ := h
    exact ⟨fa, fb, rfl, RepL.mono hok hc hσ xs hx, RepL.mono hok hc hσ ys hy⟩
  | m, .junk, c, _ => trivial
theorem RepL.mono (hok : ∀ t b, okB C w σ t b → okB C' w' σ' t b) (hc : ∀ t b o, okB C w σ t b → w'.cell? ⟨b, o, none⟩ = w.cell? ⟨b, o, none⟩)
    (hσ : ∀ j, σ' j = σ j) : ∀ {m : Option Bool} (vs : List V) {ds : List Value}, RepL C w σ m vs ds → RepL C' w' σ' m vs ds
  | m, [], ds, h => h
  | m, v :: vs, ds, h => by
    simp only [RepL] at h ⊢
    obtain ⟨d, r, rfl, hd, hr⟩ := h
    exact ⟨d, r, rfl, Rep.mono hok hc hσ v hd, RepL.mono hok hc hσ vs hr⟩
end

theorem okB.weaken {t t' : Bool} {b : Nat} (ht : t' = true → t = true) (h : okB C w σ t b) : okB C w σ t' b := by
  refine ⟨h.1, h.2.1, ?_, fun e => h.2.2.2 (ht e)⟩
  rcases h.2.2.1 with h | ⟨h, hf⟩
  · exact .inl h
  · cases t' with
    | true => simp [ht rfl] at h
    | false => exact .inr ⟨rfl, hf⟩

mutual
/-- All tags overridden by t, which promises no more than they do. -/
theorem Rep.into {m : Option Bool} (t : Bool) : ∀ (v : V) {c : Value}, (t = true → m.getD true = true) → (t = true → m = none → isNew v = true) → Rep C w σ m v c → Rep C w σ (some t) v c
  | .int k n, c, _, _, h => h
  | .bool b, c, _, _, h => h
  | .lit v, c, _, _, h => h
  | .und, c, _, _, h => h
  | .agg cs, c, hm, hn, h => by
    simp only [Rep] at h ⊢
    obtain ⟨ds, rfl, hl, h1⟩ := h
    exact ⟨ds, rfl, RepL.into t cs hm (fun a b => by simpa [isNew] using hn a b) hl, h1⟩
  | .tup cs, c, hm, hn, h => by
    simp only [Rep] at h ⊢
    obtain ⟨ds, rfl, hl⟩ := h
    exact ⟨ds, rfl, RepL.into t cs hm (fun a b => by simpa [isNew] using hn a b) hl⟩
  | .sl s vs, c, hm, hn, h => by
    simp only [Rep] at h ⊢
    obtain ⟨hf, a, cap, rfl, hle, hv⟩ := h
    refine ⟨hf, a, cap, rfl, hle, ?_⟩
    rcases hv with hv | ⟨b, off, es, ds, rfl, hb, hl, hw, hes, hlie⟩
    · exact .inl hv
    · have hk : t = true → m.getD s = true := fun e => by
        cases m with
        | none => simpa [isNew] using hn e rfl
        | some x => simpa using hm e
      refine .inr ⟨b, off, es, ds, rfl, hb.weaken (by simpa using hk), RepL.into (m := some (m.getD s)) t vs (by simpa using hk) (fun _ e => by cases e) hl, hw, hes, hlie⟩
  | .emp, c, _, _, h => h
  | .fp s cs o, c, hm, hn, h => by
    simp only [Rep] at h ⊢
    obtain ⟨hf, b, off, ds, rfl, hb, hl, h1, hlie⟩ := h
    have hk : t = true → m.getD s = true := fun e => by
      cases m with
      | none => simpa [isNew] using hn e rfl
      | some x => simpa using hm e
    exact ⟨hf, b, off, ds, rfl, hb.weaken (by simpa using hk), RepL.into (m := some (m.getD s)) t cs (by simpa using hk) (fun _ e => by cases e) hl, h1, hlie⟩
  | .own j off len, c, _, _, h => h
  | .ptr j i o, c, _, _, h => h
  | .clo f xs ys, c, hm, hn, h => by
    simp only [Rep] at h ⊢
    obtain ⟨fa, fb, rfl, hx, hy⟩ := h
    exact ⟨fa, fb, rfl, RepL.into t xs hm (fun a b => by have := hn a b; simp [isNew] at this; exact this.1) hx,
      RepL.into t ys hm (fun a b => by have := hn a b; simp [isNew] at this; exact this.2) hy⟩
  | .junk, c, _, _, _ => trivial
theorem RepL.into {m : Option Bool} (t : Bool) : ∀ (vs : List V) {ds : List Value}, (t = true → m.getD true = true) → (t = true → m = none → isNewL vs = true) → RepL C w σ m vs ds → RepL C w σ (some t) vs ds
  | [], ds, _, _, h => h
  | v :: vs, ds, hm, hn, h => by
    simp only [RepL] at h ⊢
    obtain ⟨d, r, rfl, hd, hr⟩ := h
    exact ⟨d, r, rfl, Rep.into t v hm (fun a b => by have := hn a b; simp [isNewL] at this; exact this.1) hd,
      RepL.into t vs hm (fun a b => by have := hn a b; simp [isNewL] at this; exact this.2) hr⟩
end

mutual
/-- Out of what was overridden by t: the tags written so. -/
theorem Rep.outOf (t : Bool) : ∀ (v : V) {c : Value}, Rep C w σ (some t) v c → Rep C w σ none (retag t v) c
  | .int k n, c, h => h
  | .bool b, c, h => h
  | .lit v, c, h => h
  | .und, c, h => h
  | .agg cs, c, h => by
    simp only [Rep, retag] at h ⊢
    obtain ⟨ds, rfl, hl, h1⟩ := h
    exact ⟨ds, rfl, RepL.outOf t cs hl, h1⟩
  | .tup cs, c, h => by
    simp only [Rep, retag] at h ⊢
    obtain ⟨ds, rfl, hl⟩ := h
    exact ⟨ds, rfl, RepL.outOf t cs hl⟩
  | .sl s vs, c, h => by simpa [Rep, retag] using h
  | .emp, c, h => h
  | .fp s cs o, c, h => by simpa [Rep, retag] using h
  | .own j off len, c, h => h
  | .ptr j i o, c, h => h
  | .clo f xs ys, c, h => by
    simp only [Rep, retag] at h ⊢
    obtain ⟨fa, fb, rfl, hx, hy⟩ := h
    exact ⟨fa, fb, rfl, RepL.outOf t xs hx, RepL.outOf t ys hy⟩
  | .junk, c, _ => trivial
theorem RepL.outOf (t : Bool) : ∀ (vs : List V) {ds : List Value}, RepL C w σ (some t) vs ds → RepL C w σ none (retagL t vs) ds
  | [], ds, h => h
  | v :: vs, ds, h => by
    simp only [RepL, retagL] at h ⊢
    obtain ⟨d, r, rfl, hd, hr⟩ := h
    exact ⟨d, r, rfl, Rep.outOf t v hd, RepL.outOf t vs hr⟩
end

end
end Go.AM
