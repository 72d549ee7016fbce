/-
The operations on memory, one by one: what the abstract machine does fits what the model does. First part: types, variables, loads, stores.
-/
import Derived.Test.YtdipdaajicceoaaAmSim
import Derived.Laws.MakeOwn
import Derived.Laws.Entries
import Derived.Laws.CopyRow
import Derived.Laws.NewBlocks
namespace Go.AM
open Go Go.RowKit

def tyIs : Ty → TypeDesc → Bool
  | .int k, .int k' => k == k'
  | .bool, .bool => true
  | .str, .string => true
  | .slice e, .slice e' => e == e'
  | .struct fs, .struct gs => gs.toList.map (fun g => (g.offset, g.type)) == fs
  | .array n e, .array n' e' => n == n' && e == e'
  | .other, .struct _ => false
  | .other, .array _ _ => false
  | .other, _ => true
  | _, _ => false

def zeroV : Value → V
  | .agg cs => .agg (cs.toList.map constV)
  | v => constV v

/-- The table of types says what the program's says. -/
def TyOk (P : Program) (E : Env) : Prop := ∀ t ti, E.ty t = some ti → ∃ d i z, P.underlying t = some d ∧ tyIs ti.ty d = true ∧ P.info? t = some i ∧ i.size = ti.size ∧ i.bytes = ti.bytes ∧
  i.zero = some z ∧ ti.zero = zeroV z ∧ z.cells.size = ti.size ∧ (∀ u ∈ z.cells.toList, u.oneCell' = true) ∧
  (ti.eq = true → P.stoodInHeld t = false ∧ P.eqGuardType P.depth t = false ∧ match d with | .struct gs => gs.toList.all (fun g => g.name != "_") = true | _ => True)

section
variable {P : Program} {E : Env} {C : Cx} {D : List Deferred} {outs : List (List Value)} {st : St} {a : Act} {w : World} {σ : Places}

/-- One operation's run that hands back a value, or none. -/
def Ran (P : Program) (o : Oper) (a : Act) (w w' : World) (c : Value) : Prop :=
  (execOp a.eval o).run P w = .ok (.value c) w' ∨ ((execOp a.eval o).run P w = .ok .skip w' ∧ c = undef)

/-- It runs, and what it leaves fits the abstract state. -/
def Goes (P : Program) (C : Cx) (D : List Deferred) (outs : List (List Value)) (o : Oper) (st' : St) (a : Act) (w : World) : Prop :=
  ∃ c w' σ', Ran P o a w w' c ∧ Sim C D outs st' (a.put o.dst c) w' σ'

theorem Goes.val {o : Oper} {v : V} {c : Value} (h : Sim C D outs st a w σ) (hr : (execOp a.eval o).run P w = .ok (.value c) w) (hv : Rep C w σ none v c) :
    Goes P C D outs o (st.put o.dst v) a w := ⟨c, w, σ, .inl hr, h.put hv⟩

theorem repL_const {m : Option Bool} : ∀ (us : List Value), RepL C w σ m (us.map constV) us
  | [] => rfl
  | u :: us => ⟨u, us, rfl, by
      have h : Rep C w σ none (constV u) u := constV_rep u
      unfold constV at h ⊢
      split at h <;> exact h, repL_const us⟩

theorem zero_rep {m : Option Bool} (z : Value) (h : ∀ u ∈ z.cells.toList, u.oneCell' = true) : Rep C w σ m (zeroV z) z := by
  unfold zeroV
  split
  · rename_i cs
    exact ⟨cs.toList, by simp, repL_const _, h⟩
  · have h : Rep C w σ none (constV z) z := constV_rep z
    unfold constV at h ⊢
    split at h <;> exact h

theorem cells?_ok {m : Option Bool} {v : V} {cs : List V} {c : Value} (h : Rep C w σ m v c) (hc : cells? v = some cs) :
    RepL C w σ m cs c.cells.toList ∧ (∀ u ∈ c.cells.toList, u.oneCell' = true) ∧ c.cells.size = cs.length ∧ cellsOf v = cs := by
  have one : ∀ {v : V} {c : Value}, Rep C w σ m v c → c.oneCell' = true → RepL C w σ m [v] c.cells.toList ∧ (∀ u ∈ c.cells.toList, u.oneCell' = true) ∧ c.cells.size = 1 := by
    intro v c h h1
    have : c.cells = #[c] := by cases c <;> first | rfl | simp [Value.oneCell'] at h1
    rw [this]
    exact ⟨⟨c, [], rfl, h, rfl⟩, by simpa using h1, rfl⟩
  cases v with
  | int k n => cases hc; obtain ⟨a, b, d⟩ := one h (by rw [show c = _ from h]; rfl); exact ⟨a, b, d, rfl⟩
  | bool b => cases hc; obtain ⟨a, b, d⟩ := one h (by rw [show c = _ from h]; rfl); exact ⟨a, b, d, rfl⟩
  | lit v => cases hc; obtain ⟨a, b, d⟩ := one h (by rw [h.1]; exact h.2); exact ⟨a, b, d, rfl⟩
  | und => cases hc
  | agg cs' =>
    cases hc
    obtain ⟨ds, rfl, hl, h1⟩ := h
    exact ⟨by simpa [Value.cells] using hl, by simpa [Value.cells] using h1, by simpa [Value.cells] using hl.length, rfl⟩
  | tup _ => cases hc
  | sl t vs => cases hc; obtain ⟨a, b, d⟩ := one h (by obtain ⟨_, a, cap, rfl, _⟩ := h; rfl); exact ⟨a, b, d, rfl⟩
  | emp => cases hc; obtain ⟨a, b, d⟩ := one h (by obtain ⟨a, rfl⟩ := h; rfl); exact ⟨a, b, d, rfl⟩
  | fp t vs o => cases hc; obtain ⟨a, b, d⟩ := one h (by obtain ⟨_, b, off, ds, rfl, _⟩ := h; rfl); exact ⟨a, b, d, rfl⟩
  | own id off len =>
    cases hc
    have h1 : c.oneCell' = true := by
      simp only [Rep] at h
      split at h
      · exact h.elim
      · obtain ⟨_, _, a, cp, rfl, _⟩ := h; rfl
      · obtain ⟨a, cp, rfl, _⟩ := h; rfl
    obtain ⟨a, b, d⟩ := one h h1; exact ⟨a, b, d, rfl⟩
  | ptr id i o =>
    cases hc
    have h1 : c.oneCell' = true := by
      simp only [Rep] at h
      split at h
      · exact h.elim
      · exact h.elim
      · rw [h]; rfl
    obtain ⟨a, b, d⟩ := one h h1; exact ⟨a, b, d, rfl⟩
  | clo f xs ys => cases hc; obtain ⟨a, b, d⟩ := one h (by obtain ⟨fa, fb, rfl, _⟩ := h; rfl); exact ⟨a, b, d, rfl⟩
  | junk => cases hc

theorem isAgg_run {ti : Ty} {d : TypeDesc} {t : TypeId} (hd : P.underlying t = some d) (ht : tyIs ti d = true) : (_root_.Go.isAgg t).run P w = .ok ti.isAgg w := by
  unfold Go.isAgg
  simp only [Sem.run_bind, run_underlying hd, Result.andThen_ok]
  cases ti <;> cases d <;> first | rfl | (simp [tyIs] at ht)

theorem run_sizeOf {t : TypeId} {i : TypeInfo} (h : P.info? t = some i) : (sizeOf t).run P w = .ok i.size w := by
  simp [sizeOf, typeInfo, h]

theorem RepL.some_get {m : Option Bool} {vs : List V} {ds : List Value} (h : RepL C w σ m vs ds) (i : Nat) {d : Value} (hd : ds[i]? = some d) : ∃ v, vs[i]? = some v ∧ Rep C w σ m v d := by
  have hlt : i < vs.length := by have := (List.getElem?_eq_some_iff.1 hd).1; rw [h.length] at this; exact this
  obtain ⟨e, he, hr⟩ := h.get i (List.getElem?_eq_getElem hlt)
  rw [hd] at he; cases he
  exact ⟨_, List.getElem?_eq_getElem hlt, hr⟩

/-- A part of cells that lie in memory is loaded. -/
theorem run_loadVar_part {m : Option Bool} {t : TypeId} {ti : TI} {d : TypeDesc} {i : TypeInfo} (hd : P.underlying t = some d) (ht : tyIs ti.ty d = true) (hi : P.info? t = some i) (hsz : i.size = ti.size)
    {b off c : Nat} {cs : List V} {ds : List Value} (hl : RepL C w σ m cs ds) (h1 : ∀ u ∈ ds, u.oneCell' = true) (hlie : Lies w b off ds) {v : V} (hp : part ti.ty.isAgg ti.size cs c = some v) :
    ∃ cv, (loadVar t ⟨b, off + c, none⟩).run P w = .ok cv w ∧ Rep C w σ m v cv := by
  unfold loadVar
  simp only [Sem.run_bind, isAgg_run hd ht, Result.andThen_ok]
  unfold part at hp
  split at hp
  · rename_i hagg
    split at hp
    · rename_i hle
      cases hp
      have hlen : ((ds.drop c).take ti.size).length = ti.size := by
        rw [List.length_take, List.length_drop, hl.length]; omega
      have hload := run_loadCells_list (P := P) w ⟨b, off + c, none⟩ ((ds.drop c).take ti.size) (fun j u hu => by
        rw [Addr.add_lit, Nat.add_assoc]
        refine hlie (c + j) u ?_
        rw [List.getElem?_take] at hu
        split at hu
        · simpa using hu
        · cases hu)
      rw [hlen] at hload
      refine ⟨.agg ((ds.drop c).take ti.size).toArray, ?_, ?_⟩
      · simp only [hagg, if_true, Sem.run_bind, run_sizeOf hi, hsz, Result.andThen_ok, hload, Sem.run_pure]
      · exact ⟨_, rfl, (hl.drop c).take ti.size, fun u hu => h1 u (List.mem_of_mem_drop (List.mem_of_mem_take hu))⟩
    · cases hp
  · rename_i hagg
    obtain ⟨u, hu, hr⟩ := hl.get c hp
    refine ⟨u, ?_, hr⟩
    have hcell := hlie c u hu
    simp only [hagg, Bool.false_eq_true, if_false]
    simp [hcell]

theorem LiesE.one {b off es i : Nat} {ds : List Value} {d : Value} (h : LiesE w b off es ds) (hd : ds[i]? = some d) : Lies w b (off + i * es) d.cells.toList :=
  fun r u hu => h i d r u hd hu

theorem evLoad_ok (hT : TyOk P E) (h : Sim C D outs st a w σ) {t : TypeId} {ti : TI} (hti : E.ty t = some ti) {p v : V} {cp : Value} (hp : Rep C w σ none p cp) (he : evLoad ti p st = some v) :
    ∃ cv, (Instr.loadAt t cp).run P w = .ok cv w ∧ Rep C w σ none v cv := by
  obtain ⟨d, i, z, hd, ht, hi, hsz, _⟩ := hT t ti hti
  unfold evLoad at he
  split at he
  · rename_i id k c
    split at he
    · rename_i ob hob
      split at he
      · rename_i e hel
        split at he
        · rename_i cs hcells
          split at he
          case h_2 => cases he
          rename_i u hu
          cases he
          obtain ⟨loc, hloc, hrep, _⟩ := h.objs id ob hob
          simp only [Rep, hloc] at hp
          cases loc with
          | virt app => exact hp.elim
          | blk b bo es cap app =>
            simp only at hp
            subst hp
            obtain ⟨h1, h2, h3, cur, ety, ds, hg, hl, hwf, hcur, happ⟩ := hrep
            obtain ⟨dv, hdv, hrv⟩ := hl.get k hel
            have hlie : Lies w b (bo + k * es) dv.cells.toList := fun r u hu => by
              rw [cell_of_row w b _ cur ety (0, 0) hg]
              have := hcur k dv r u hdv hu
              simpa using this
            have hcs := cells?_ok hrv hcells
            obtain ⟨cv, hr, hrep⟩ := run_loadVar_part (P := P) hd ht hi hsz hcs.1 hcs.2.1 hlie hu
            exact ⟨cv, by simp [Instr.loadAt, Instr.sureAddr, hr], Rep.outOf _ _ hrep⟩
        · cases he
      · cases he
    · cases he
  · rename_i t' cs c
    split at he
    · rename_i u hu
      cases he
      obtain ⟨hf, b, off, ds, rfl, hb, hl, h1, hlie⟩ := hp
      obtain ⟨cv, hr, hrep⟩ := run_loadVar_part (P := P) hd ht hi hsz hl h1 hlie hu
      exact ⟨cv, by simp [Instr.loadAt, Instr.sureAddr, hr], Rep.outOf _ _ (by simpa using hrep)⟩
    · cases he
  · cases he

end
end Go.AM
