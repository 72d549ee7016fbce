/-
A region that draws its order: what an operation's effect depends on.
-/
import Derived.Test.YtdipdaajicceoaaAmRun
namespace Go.AM
open Go Go.RowKit

/-- The same slots, and the same objects by name. -/
structure Same (s s' : St) : Prop where
  slots : s.slots = s'.slots
  outer : s.outer = s'.outer
  objs : ∀ id, look s.objs id = look s'.objs id

theorem Same.refl (s : St) : Same s s := ⟨rfl, rfl, fun _ => rfl⟩
theorem Same.symm {s s' : St} (h : Same s s') : Same s' s := ⟨h.slots.symm, h.outer.symm, fun i => (h.objs i).symm⟩
theorem Same.trans {s s' s'' : St} (h : Same s s') (h' : Same s' s'') : Same s s'' := ⟨h.slots.trans h'.slots, h.outer.trans h'.outer, fun i => (h.objs i).trans (h'.objs i)⟩

theorem Same.sim {C : Cx} {D : List Deferred} {outs : List (List Value)} {s s' : St} {a : Act} {w : World} {σ : Places} (h : Same s s') (hs : Sim C D outs s a w σ) : Sim C D outs s' a w σ where
  slots := h.slots ▸ hs.slots
  outer := h.outer ▸ hs.outer
  objs := fun id ob e => hs.objs id ob (by rw [h.objs]; exact e)
  dom := fun id e => hs.dom id (by rw [h.objs]; exact e)
  inj := hs.inj
  held := hs.held
  below := hs.below
  base := hs.base
  old := hs.old
  still := hs.still

def Eff.val : Eff → V
  | .put v => v
  | .new _ _ v => v
  | .wr _ _ => .und

def Eff.onto (e : Eff) (s : St) : St := match e with
  | .put _ => s
  | .new id ob _ => { s with objs := upd s.objs id ob }
  | .wr id ob => { s with objs := upd s.objs id ob }

theorem Eff.ap_eq (dst : Option Nat) (e : Eff) (s : St) : e.ap dst s = (e.onto s).put dst e.val := by cases e <;> rfl

theorem put_slots (s : St) (dst : Option Nat) (v : V) : (s.put dst v).slots = match dst with | some d => s.slots.set d v | none => s.slots := by cases dst <;> rfl
theorem put_outer (s : St) (dst : Option Nat) (v : V) : (s.put dst v).outer = s.outer := by cases dst <;> rfl
theorem put_objs (s : St) (dst : Option Nat) (v : V) : (s.put dst v).objs = s.objs := by cases dst <;> rfl
theorem onto_slots (e : Eff) (s : St) : (e.onto s).slots = s.slots := by cases e <;> rfl
theorem onto_outer (e : Eff) (s : St) : (e.onto s).outer = s.outer := by cases e <;> rfl

def Eff.obAt (e : Eff) (id : Nat) : Option Ob := match e with
  | .put _ => none
  | .new j ob _ => if id = j then some ob else none
  | .wr j ob => if id = j then some ob else none

theorem onto_look (e : Eff) (s : St) (id : Nat) : look (e.onto s).objs id = match e.obAt id with | some ob => some ob | none => look s.objs id := by
  cases e with
  | put v => rfl
  | new j ob v => simp only [Eff.onto, look_upd, Eff.obAt]; split <;> rfl
  | wr j ob => simp only [Eff.onto, look_upd, Eff.obAt]; split <;> rfl

theorem obAt_none {e : Eff} {id : Nat} (h : e.writes.contains id = false) : e.obAt id = none := by
  cases e with
  | put v => rfl
  | new j ob v => simp [Eff.writes] at h; simp [Eff.obAt, h]
  | wr j ob => simp [Eff.writes] at h; simp [Eff.obAt, h]

theorem obAt_some {e : Eff} {id : Nat} (h : e.writes.contains id = true) : ∃ ob, e.obAt id = some ob := by
  cases e with
  | put v => simp [Eff.writes] at h
  | new j ob v => simp [Eff.writes] at h; simp [Eff.obAt, h]
  | wr j ob => simp [Eff.writes] at h; simp [Eff.obAt, h]

theorem ap_slots (dst : Option Nat) (e : Eff) (s : St) : (e.ap dst s).slots = match dst with | some d => s.slots.set d e.val | none => s.slots := by
  rw [Eff.ap_eq, put_slots, onto_slots]
theorem ap_outer (dst : Option Nat) (e : Eff) (s : St) : (e.ap dst s).outer = s.outer := by rw [Eff.ap_eq, put_outer, onto_outer]
theorem ap_look (dst : Option Nat) (e : Eff) (s : St) (id : Nat) : look (e.ap dst s).objs id = match e.obAt id with | some ob => some ob | none => look s.objs id := by
  rw [Eff.ap_eq, put_objs, onto_look]

theorem ap_congr (dst : Option Nat) (e : Eff) {s s' : St} (h : Same s s') : Same (e.ap dst s) (e.ap dst s') := by
  refine ⟨?_, ?_, fun id => ?_⟩
  · rw [ap_slots, ap_slots, h.slots]
  · rw [ap_outer, ap_outer, h.outer]
  · rw [ap_look, ap_look, h.objs]

theorem ap_comm {d d' : Option Nat} {e e' : Eff} (hd : ∀ x, d = some x → d' ≠ some x) (hw : free e.writes e'.writes = true) (s : St) : Same (e.ap d (e'.ap d' s)) (e'.ap d' (e.ap d s)) := by
  refine ⟨?_, ?_, fun id => ?_⟩
  · rw [ap_slots, ap_slots, ap_slots, ap_slots]
    cases d with
    | none => rfl
    | some x =>
      cases d' with
      | none => rfl
      | some y => exact List.set_comm _ _ (fun e => hd x rfl (by rw [e]))
  · rw [ap_outer, ap_outer, ap_outer, ap_outer]
  · rw [ap_look, ap_look, ap_look, ap_look]
    cases h1 : e.writes.contains id with
    | false => rw [obAt_none h1]
    | true =>
      have h2 : e'.writes.contains id = false := by
        unfold free at hw
        rw [List.all_eq_true] at hw
        have := hw id (by simpa using h1)
        simpa using this
      rw [obAt_none h2]

/-! ### What an operation looks at -/

/-- Two states agree where an operation looks. -/
structure Agree (s s' : St) (xs : List Operand) (S : List Nat) : Prop where
  eval : ∀ x ∈ xs, s.eval x = s'.eval x
  objs : ∀ i ∈ S, look s.objs i = look s'.objs i

theorem evLoad_local {ti : TI} {p : V} {s s' : St} (h : ∀ i ∈ ids p, look s.objs i = look s'.objs i) : evLoad ti p s = evLoad ti p s' := by
  cases p <;> try rfl
  simp only [evLoad]
  rw [h _ (by simp [ids])]

theorem evSlice_local {ei : TI} {x : V} {lo hi : Option (Option Int)} {mx : Option V} {s s' : St} (h : ∀ i ∈ ids x, look s.objs i = look s'.objs i) : evSlice ei x lo hi mx s = evSlice ei x lo hi mx s' := by
  cases x <;> try rfl
  simp only [evSlice]
  rw [h _ (by simp [ids])]

theorem evIndexS_local {ei : TI} {x : V} {i : Int} {s s' : St} (h : ∀ i ∈ ids x, look s.objs i = look s'.objs i) : evIndexS ei x i s = evIndexS ei x i s' := by
  cases x <;> try rfl
  simp only [evIndexS]
  rw [h _ (by simp [ids])]

theorem optInt_local {s s' : St} {x : Option Operand} (h : ∀ y ∈ x, s.eval y = s'.eval y) : optInt s x = optInt s' x := by
  cases x with
  | none => rfl
  | some y => simp only [optInt]; rw [h y rfl]

theorem map_local {s s' : St} {l : List Operand} (h : ∀ y ∈ l, s.eval y = s'.eval y) : l.map s.eval = l.map s'.eval := List.map_congr_left h

theorem evVal_local {E : Env} {fc : FC} {base : Nat} {o : Oper} {s s' : St} (h : Agree s s' o.op.operands.toList (supp fc base o s)) : evVal E fc o s = evVal E fc o s' := by
  obtain ⟨h1, h2⟩ := h
  unfold evVal
  unfold supp at h2
  cases ho : o.op <;> rw [ho] at h1 h2 <;> simp only [Op.operands] at h1 <;> dsimp only at h2 ⊢
  case move x => rw [h1 x (by simp)]
  case assign x => rw [h1 x (by simp)]
  case pick c a b => rw [h1 c (by simp), h1 a (by simp), h1 b (by simp)]
  case build t ps =>
    have : (ps.toList.map fun p => (p.1, s.eval p.2)) = (ps.toList.map fun p => (p.1, s'.eval p.2)) := List.map_congr_left fun p hp => by
      rw [h1 p.2 (by simp; exact ⟨p.1, by simpa using hp⟩)]
    rw [this]
  case load t x => rw [← h1 x (by simp)]; split <;> first | rfl | exact evLoad_local h2
  case nilCheck x => rw [h1 x (by simp)]
  case binOp op t x y ty => rw [h1 x (by simp), h1 y (by simp)]
  case unOp op t x => rw [h1 x (by simp)]
  case convert a b x => rw [h1 x (by simp)]
  case makeFunc fn a b =>
    cases fn <;> try rfl
    dsimp only
    rw [map_local (l := a.toList) fun y hy => h1 y (by simp at hy ⊢; exact .inl hy), map_local (l := b.toList) fun y hy => h1 y (by simp at hy ⊢; exact .inr hy)]
  case slice t x lo hi mx =>
    split
    · rw [← h1 x (by simp), optInt_local (x := lo) fun y hy => h1 y (by cases hy; simp), optInt_local (x := hi) fun y hy => h1 y (by cases hy; simp)]
      have : mx.map s.eval = mx.map s'.eval := by
        cases mx with
        | none => rfl
        | some y => simp only [Option.map_some]; rw [h1 y (by simp)]
      rw [this]
      exact evSlice_local h2
    · rfl
  case fieldAddr t x f => rw [h1 x (by simp)]
  case field t x f => rw [h1 x (by simp)]
  case indexAddr t x ix =>
    rw [← h1 x (by simp), ← h1 ix (by simp)]
    split
    · split
      · exact evIndexS_local h2
      · rfl
    · rfl
  case index t x ix => rw [h1 x (by simp), h1 ix (by simp)]
  case extract x i => rw [h1 x (by simp)]
  case call c =>
    simp only [Call.operands] at h1
    cases hc : c.callee with
    | value f => rfl
    | invoke r n => rfl
    | builtin b =>
      rw [hc] at h1
      have h3 : ∀ y ∈ c.args.toList, s.eval y = s'.eval y := fun y hy => h1 y (by simpa using hy)
      cases b <;> try rfl
      · dsimp only
        split
        · rename_i t x _ hx
          rw [h3 x (by rw [hx]; simp)]
        · rfl
      all_goals
        dsimp only
        split
        · rename_i x r hx
          rw [h3 x (by rw [hx]; simp), map_local (l := r) fun y hy => h3 y (by rw [hx]; simp [hy])]
        · rfl
end Go.AM
