/-
Regions that draw their order, where the code alone shows that no two open operations disturb each other.
-/
import Derived.Test.YtdipdaajicceoaaAmSimp
import Derived.Test.YtdipdaajicceoaaAmDraw
namespace Go.AM
open Go

def wrOp (o : Oper) : Bool := match o.op with
  | .alloc _ => true
  | .box _ _ => true
  | .buildSlice _ _ _ => true
  | .store _ _ _ => true
  | .makeSlice _ _ _ => true
  | .call c => match c.callee with
    | .builtin .append => true
    | _ => false
  | _ => false

def staticPair (ops : Array Oper) (cl : List (List Nat)) (i j : Nat) : Bool := (cl.getD i []).contains j || match ops[j]?, ops[i]? with
  | some y, some x => y.apart ops x && !wrOp y && !wrOp x
  | _, _ => false

def staticOk (ops : Array Oper) : Bool :=
  let cl := clo ops ops.size
  (List.range ops.size).all fun i => (deps ops i).all (fun d => decide (d < i)) && (List.range i).all (staticPair ops cl i)

def okCode : Code → Bool
  | .region _ ops true => staticOk ops
  | .seq a b => okCode a && okCode b
  | .cond _ a b => okCode a && okCode b
  | .block _ b => okCode b
  | .loop b => okCode b
  | .scope b => okCode b
  | .rangeFunc _ _ a b => okCode a && okCode b
  | _ => true

section
variable {E : Env} {X : Ext} {O : Orc} {fc : FC} {base : Nat}

def evE (E : Env) (O : Orc) (fc : FC) (base : Nat) (all : Array Oper) : List Oper → St → Option St
  | [], st => some st
  | o :: r, st => match wantedV all o st with
    | some true => match effOf E O fc base o st with
      | some e => evE E O fc base all r (e.ap o.dst st)
      | none => none
    | some false => evE E O fc base all r (st.put o.dst .und)
    | none => none

theorem eff_still {o : Oper} {st : St} {e : Eff} (hw : wrOp o = false) (h : effOf E O fc base o st = some e) : e.writes = [] := by
  unfold effOf at h
  split at h
  · cases h; rfl
  · unfold effMem at h
    unfold wrOp at hw
    split at h
    · rename_i ho; rw [ho] at hw; cases hw
    · rename_i ho; rw [ho] at hw; cases hw
    · rename_i ho; rw [ho] at hw; cases hw
    · rename_i ho; rw [ho] at hw; cases hw
    · rename_i ho; rw [ho] at hw; cases hw
    · rename_i c ho
      rw [ho] at hw
      dsimp only at hw
      split at h
      · rename_i hc; rw [hc] at hw; cases hw
      · unfold effCall at h
        split at h
        case h_2 => cases h
        split at h
        case isFalse => cases h
        split at h
        case h_2 => cases h
        split at h
        case h_2 => cases h
        split at h
        case isFalse => cases h
        cases h
        rfl
      · cases h
    · cases h

theorem free_nil_left (l : List Nat) : free [] l = true := rfl
theorem free_nil_right (l : List Nat) : free l [] = true := by simp [free]

/-- What is written down so far stands where it should, and what does not write wrote nothing. -/
def Rows (all : Array Oper) (rs : List Rec) : Prop := ∀ j (x : Rec), rs[j]? = some x → x.i = j ∧ all[j]? = some x.o ∧ (wrOp x.o = false → x.eff.writes = [])

theorem static_seq {all : Array Oper} (hs : staticOk all = true) : ∀ (ops' : List Oper) (rs : List Rec) (st : St), all.toList.drop rs.length = ops' → Rows all rs →
    evD E O fc base all (clo all all.size) (numbered rs.length ops') st rs = evE E O fc base all ops' st
  | [], rs, st, _, _ => rfl
  | o :: r, rs, st, hall, hr => by
    have ho : all[rs.length]? = some o := by
      have := congrArg (·[0]?) hall
      simpa using this
    have hlt : rs.length < all.size := (Array.getElem?_eq_some_iff.1 ho).1
    have hdrop : all.toList.drop (rs.length + 1) = r := by
      rw [← List.drop_drop, hall]
      rfl
    have h1 := List.all_eq_true.1 hs rs.length (List.mem_range.2 hlt)
    simp only [Bool.and_eq_true] at h1
    have hpair : ∀ (x : Rec), x.i = rs.length → x.o = o → (wrOp o = false → x.eff.writes = []) →
        ((deps all rs.length).all (fun d => decide (d < rs.length)) && rs.all (fun y => ((clo all all.size).getD rs.length []).contains y.i || calm all y x)) = true := fun x hi hxo hw => by
      rw [h1.1, Bool.true_and, List.all_eq_true]
      intro y hy
      obtain ⟨j, hj⟩ := List.mem_iff_getElem?.1 hy
      obtain ⟨k1, k2, k3⟩ := hr j y hj
      have hjlt : j < rs.length := by
        rcases Nat.lt_or_ge j rs.length with h | h
        · exact h
        · rw [List.getElem?_eq_none h] at hj; cases hj
      have hp := List.all_eq_true.1 h1.2 j (List.mem_range.2 hjlt)
      unfold staticPair at hp
      rw [k2, ho, Bool.or_eq_true] at hp
      rw [k1, Bool.or_eq_true]
      rcases hp with hp | hp
      · exact .inl hp
      · right
        simp only [Bool.and_eq_true, Bool.not_eq_true'] at hp
        unfold calm
        rw [hxo, hp.1.1, k3 hp.1.2, hw hp.2, free_nil_left, free_nil_left, free_nil_left]
        rfl
    have next : ∀ (x : Rec), x.i = rs.length → x.o = o → (wrOp o = false → x.eff.writes = []) → Rows all (rs ++ [x]) := fun x hi hxo hw j y hy => by
      rcases getElem?_snoc hy with ⟨_, h⟩ | ⟨rfl, rfl⟩
      · exact hr j y h
      · exact ⟨hi, by rw [hxo]; exact ho, by rw [hxo]; exact hw⟩
    simp only [numbered, evD, evE]
    cases hw : wantedV all o st with
    | none => rfl
    | some b =>
      cases b with
      | true =>
        dsimp only
        cases he : effOf E O fc base o st with
        | none => rfl
        | some e =>
          dsimp only
          rw [if_pos (hpair { i := rs.length, o := o, eff := e, supp := supp fc base o st } rfl rfl (fun hwr => eff_still hwr he))]
          have := static_seq hs r (rs ++ [{ i := rs.length, o := o, eff := e, supp := supp fc base o st }]) (e.ap o.dst st) (by simpa using hdrop) (next _ rfl rfl (fun hwr => eff_still hwr he))
          rw [List.length_append] at this
          exact this
      | false =>
        dsimp only
        rw [if_pos (hpair { i := rs.length, o := o, eff := .put .und, supp := [] } rfl rfl (fun _ => rfl))]
        have := static_seq hs r (rs ++ [{ i := rs.length, o := o, eff := .put .und, supp := [] }]) (st.put o.dst .und) (by simpa using hdrop) (next _ rfl rfl (fun _ => rfl))
        rw [List.length_append] at this
        exact this

theorem evRegion_still (ops : Array Oper) (st : St) : evRegion E O fc base ops false st = evOps E O fc base ops ops.toList st := rfl

theorem evRegion_static {ops : Array Oper} (hs : staticOk ops = true) (st : St) : evRegion E O fc base ops true st = evE E O fc base ops ops.toList st := by
  unfold evRegion
  rw [if_pos rfl]
  exact static_seq hs ops.toList [] st rfl (fun j x h => by simp at h)
end
end Go.AM
