/-
An environment out of tables, and that it says what the program says.
-/
import Derived.Test.YtdipdaajicceoaaAmFn
import Derived.Test.YtdipdaajicceoaaAmLim
namespace Go.AM
open Go

def sameLit : Value → Value → Bool
  | .nilFunc, .nilFunc => true
  | .nilIface, .nilIface => true
  | .pointer none, .pointer none => true
  | .map none, .map none => true
  | _, _ => false

theorem sameLit_eq {a b : Value} (h : sameLit a b = true) : a = b := by
  unfold sameLit at h
  split at h <;> first | rfl | cases h

mutual
def sameV : V → V → Bool
  | .int k n, .int k' n' => k == k' && n == n'
  | .bool b, .bool b' => b == b'
  | .emp, .emp => true
  | .lit a, .lit b => sameLit a b
  | .agg cs, .agg ds => sameVL cs ds
  | _, _ => false
def sameVL : List V → List V → Bool
  | [], [] => true
  | v :: r, u :: s => sameV v u && sameVL r s
  | _, _ => false
end

mutual
theorem sameV_eq : ∀ {a b : V}, sameV a b = true → a = b
  | .int .., b, h => by cases b <;> simp_all [sameV]
  | .bool _, b, h => by cases b <;> simp_all [sameV]
  | .emp, b, h => by cases b <;> simp_all [sameV]
  | .lit a, b, h => by
    cases b <;> simp [sameV] at h
    rw [sameLit_eq h]
  | .agg cs, b, h => by
    cases b <;> simp [sameV] at h
    rw [sameVL_eq h]
  | .und, b, h => by cases b <;> simp [sameV] at h
  | .tup _, b, h => by cases b <;> simp [sameV] at h
  | .sl .., b, h => by cases b <;> simp [sameV] at h
  | .fp .., b, h => by cases b <;> simp [sameV] at h
  | .own .., b, h => by cases b <;> simp [sameV] at h
  | .ptr .., b, h => by cases b <;> simp [sameV] at h
  | .clo .., b, h => by cases b <;> simp [sameV] at h
  | .junk, b, h => by cases b <;> simp [sameV] at h
theorem sameVL_eq : ∀ {a b : List V}, sameVL a b = true → a = b
  | [], [], _ => rfl
  | [], _ :: _, h => by simp [sameVL] at h
  | _ :: _, [], h => by simp [sameVL] at h
  | v :: r, u :: s, h => by
    simp only [sameVL, Bool.and_eq_true] at h
    rw [sameV_eq h.1, sameVL_eq h.2]
end

def tyChk (P : Program) (t : Nat) (ti : TI) : Bool := match P.underlying t, P.info? t with
  | some d, some i => tyIs ti.ty d && i.size == ti.size && i.bytes == ti.bytes && (match i.zero with
    | some z => sameV ti.zero (zeroV z) && z.cells.size == ti.size && z.cells.toList.all (fun u => u.oneCell')
    | none => false) && (!ti.eq || (!P.stoodInHeld t && !P.eqGuardType P.depth t && match d with
    | .struct gs => gs.toList.all (fun g => g.name != "_")
    | _ => true))
  | _, _ => false

theorem tyChk_ok {P : Program} {t : Nat} {ti : TI} (h : tyChk P t ti = true) : ∃ d i z, P.underlying t = some d ∧ tyIs ti.ty d = true ∧ P.info? t = some i ∧ i.size = ti.size ∧ i.bytes = ti.bytes ∧
    i.zero = some z ∧ ti.zero = zeroV z ∧ z.cells.size = ti.size ∧ (∀ u ∈ z.cells.toList, u.oneCell' = true) ∧
    (ti.eq = true → P.stoodInHeld t = false ∧ P.eqGuardType P.depth t = false ∧ match d with | .struct gs => gs.toList.all (fun g => g.name != "_") = true | _ => True) := by
  unfold tyChk at h
  split at h
  case h_2 => cases h
  rename_i d i hd hi
  simp only [Bool.and_eq_true] at h
  obtain ⟨⟨⟨⟨h1, h2⟩, h3⟩, h4⟩, h5⟩ := h
  split at h4
  case h_2 => cases h4
  rename_i z hz
  simp only [Bool.and_eq_true] at h4
  obtain ⟨⟨h6, h7⟩, h8⟩ := h4
  refine ⟨d, i, z, hd, h1, hi, by simpa using h2, by simpa using h3, hz, sameV_eq h6, by simpa using h7, fun u hu => by rw [List.all_eq_true] at h8; exact h8 u hu, fun he => ?_⟩
  rw [he] at h5
  simp only [Bool.not_true, Bool.false_or, Bool.and_eq_true, Bool.not_eq_true'] at h5
  refine ⟨h5.1.1, h5.1.2, ?_⟩
  have h9 := h5.2
  split <;> simp_all

theorem look_mem {α : Type} : ∀ {l : List (Nat × α)} {i : Nat} {x : α}, look l i = some x → (i, x) ∈ l
  | [], _, _, h => by simp [look] at h
  | (j, y) :: r, i, x, h => by
    simp only [look] at h
    split at h
    · rename_i hj; cases h; subst hj; exact List.mem_cons_self
    · exact List.mem_cons_of_mem _ (look_mem h)

/-- The environment of tables. -/
def mkEnv (P : Program) (tys : List (Nat × TI)) (fcs : List (Nat × FC)) (inls : List Nat) (seq : Nat → List V → Option (Nat × List (List V)) := fun _ _ => none) : Env where
  seq := seq
  ty := look tys
  fn := fun f => P.funcs[f]?
  fc := fun f => (look fcs f).getD {}
  inl := fun f => inls.contains f

theorem mkEnv_ok {P : Program} {tys : List (Nat × TI)} {fcs : List (Nat × FC)} {inls : List Nat} {seq : Nat → List V → Option (Nat × List (List V))} (hseq : ∀ f as k xss, seq f as = some (k, xss) → SeqOk P f k as xss) (h : tys.all (fun p => tyChk P p.1 p.2) = true)
    (h2 : P.funcs.all (fun fn => !(fn.name == "runtime.NumGoroutine")) = true) : EnvOk P (mkEnv P tys fcs inls seq) := by
  refine ⟨fun t ti ht => ?_, fun f fn hf => ?_, hseq⟩
  · rw [List.all_eq_true] at h
    exact tyChk_ok (h _ (look_mem ht))
  · refine ⟨hf, ?_⟩
    rw [Array.all_eq_true_iff_forall_mem] at h2
    have := h2 fn (Array.mem_of_getElem? hf)
    simpa using this
end Go.AM
