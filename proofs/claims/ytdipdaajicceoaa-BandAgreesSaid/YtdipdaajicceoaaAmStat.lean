/-
Regions that draw their order, where the code alone shows that no two open operations disturb each other.
-/
import Derived.Test.YtdipdaajicceoaaAmSimp
import Derived.Test.YtdipdaajicceoaaAmDraw
namespace Go.AM
open Go

def wrOp (o : Oper) : Bool := match o.op with
  | .alloc _ => true
  | .box _ _ => true
  | .buildSlice _ _ _ => true
  | .store _ _ _ => true
  | .makeSlice _ _ _ => true
  | .call c => match c.callee with
    | .builtin .append => true
    | _ => false
  | _ => false

def staticPair (ops : Array Oper) (cl : List (List Nat)) (i j : Nat) : Bool := (cl.getD i []).contains j || match ops[j]?, ops[i]? with
  | some y, some x => y.apart ops x && !wrOp y && !wrOp x
  | _, _ => false

def staticOk (ops : Array Oper) : Bool :=
  let cl := clo ops ops.size
  (List.range ops.size).all fun i => (deps ops i).all (fun d => decide (d < i)) && (List.range i).all (staticPair ops cl i)

def okCode : Code → Bool
  | .region _ ops true => staticOk ops
  | .seq a b => okCode a && okCode b
  | .cond _ a b => okCode a && okCode b
  | .block _ b => okCode b
  | .loop b => okCode b
  | .scope b => okCode b
  | .rangeFunc _ _ a b => okCode a && okCode b
  | _ => true

section
variable {E : Env} {X : Ext} {O : Orc} {fc : FC} {base : Nat}

def evE (E : Env) (O : Orc) (fc : FC) (base : Nat) (all : Array Oper) : List Oper → St → Option St
  | [], st => some st
  | o :: r, st => match wantedV all o st with
    | some true => match effOf E O fc base o st with
      | some e => evE E O fc base all r (e.ap o.dst st)
      | none => none
    | some false => evE E O fc base all r (st.put o.dst .und)
    | none => none

theorem eff_still {o : Oper} {st : St} {e : Eff} (hw : wrOp o = false) (h : effOf E O fc base o st = some e) : e.writes = [] := by
  unfold effOf at h
  split at h
  · cases h; rfl
  · unfold effMem at h
    unfold wrOp at hw
    split at h
    · rename_i ho; rw [ho] at hw; cases hw
    · rename_i ho; rw [ho] at hw; cases hw
    · rename_i ho; rw [ho] at hw; cases hw
    · rename_i ho; rw [ho] at hw; cases hw
    · rename_i ho; rw [ho] at hw; cases hw
    · rename_i c ho
      rw [ho] at hw
      dsimp only at hw
      split at h
      · rename_i hc; rw [hc] at hw; cases hw
      · unfold effCall at h
        split at h
        case h_2 => cases h
        split at h
        case isFalse => cases h
        split at h
        case h_2 => cases h
        split at h
        case h_2 => cases h
        split at h
        case isFalse => cases h
        cases h
        rfl
      · cases h
    · cases h

theorem free_nil_left (l : List Nat) : free [] l = true := rfl
theorem free_nil_right (l : List Nat) : free l [] = true := by simp [free]

/-- What is written down so far stands where it should, and what does not write wrote nothing. -/
def Rows (all : Array Oper) (rs : List Rec) : Prop := ∀ j (x : Rec), rs[j]? = some x → x.i = j ∧ all[j]? = some x.o ∧ (wrOp x.o = false → x.eff.writes = [])

theorem static_seq {all : Array Oper} (hs : staticOk all = true) : ∀ (ops' : List Oper) (rs : List Rec) (st : St), all.toList.drop rs.length = ops' → Rows all rs →
    evD E O fc base all (clo all all.size) (numbered rs.length ops') st rs = evE E O fc base all ops' st
  | [], rs, st, _, _ => rfl
  | o :: r, rs, st, hall, hr => by
    have ho : all[rs.length]? = some o := by
      have := congrArg (·[0]?) hall
      simpa using this
    have hlt : rs.length < all.size := (Array.getElem?_eq_some_iff.1 ho).1
    have hdrop : all.toList.drop (rs.length + 1) = r := by
      rw [← List.drop_drop, hall]
      rfl
    have h1 := List.all_eq_true.1 hs rs.length (List.mem_range.2 hlt)
    simp only [Bool.and_eq_true] at h1
    have hpair : ∀ (x : Rec), x.i = rs.length → x.o = o → (wrOp o = false → x.eff.writes = []) →
        ((deps all rs.length).all (fun d => decide (d < rs.length)) && rs.all (fun y => ((clo all all.size).getD rs.length []).contains y.i || calm all y x)) = true := fun x hi hxo hw => by
      rw [h1.1, Bool.true_and, List.all_eq_true]
      intro y hy
      obtain ⟨j, hj⟩ := List.mem_iff_getElem?.1 hy
      obtain ⟨k1, k2, k3⟩ := hr j y hj
      have hjlt : j < rs.length := by
        rcases Nat.lt_or_ge j rs.length with h | h
        · exact h
        · rw [List.getElem?_eq_none h] at hj; cases hj
      have hp := List.all_eq_true.1 h1.2 j (List.mem_range.2 hjlt)
      unfold staticPair at hp
      rw [k2, ho, Bool.or_eq_true] at hp
      rw [k1, Bool.or_eq_true]
      rcases hp with hp | hp
      · exact .inl hp
      · right
        simp only [Bool.and_eq_true, Bool.not_eq_true'] at hp
        unfold calm
        rw [hxo, hp.1.1, k3 hp.1.2, hw hp.2, free_nil_left, free_nil_left, free_nil_left]
        rfl
    have next : ∀ (x : Rec), x.i = rs.length → x.o = o → (wrOp o = false → x.eff.writes = []) → Rows all (rs ++ [x]) := fun x hi hxo hw j y hy => by
      rcases getElem?_snoc hy with ⟨_, h⟩ | ⟨rfl, rfl⟩
      · exact hr j y h
      · exact ⟨hi, by rw [hxo]; exact ho, by rw [hxo]; exact hw⟩
    simp only [numbered, evD, evE]
    cases hw : wantedV all o st with
    | none => rfl
    | some b =>
      cases b with
      | true =>
        dsimp only
        cases he : effOf E O fc base o st with
        | none => rfl
        | some e =>
          dsimp only
          rw [if_pos (hpair { i := rs.length, o := o, eff := e, supp := supp fc base o st } rfl rfl (fun hwr => eff_still hwr he))]
          have := static_seq hs r (rs ++ [{ i := rs.length, o := o, eff := e, supp := supp fc base o st }]) (e.ap o.dst st) (by simpa using hdrop) (next _ rfl rfl (fun hwr => eff_still hwr he))
          rw [List.length_append] at this
          exact this
      | false =>
        dsimp only
        rw [if_pos (hpair { i := rs.length, o := o, eff := .put .und, supp := [] } rfl rfl (fun _ => rfl))]
        have := static_seq hs r (rs ++ [{ i := rs.length, o := o, eff := .put .und, supp := [] }]) (st.put o.dst .und) (by simpa using hdrop) (next _ rfl rfl (fun _ => rfl))
        rw [List.length_append] at this
        exact this

theorem evRegion_still (ops : Array Oper) (st : St) : evRegion E O fc base ops false st = evOps E O fc base ops ops.toList st := rfl

theorem evRegion_static {ops : Array Oper} (hs : staticOk ops = true) (st : St) : evRegion E O fc base ops true st = evE E O fc base ops ops.toList st := by
  unfold evRegion
  rw [if_pos rfl]
  exact static_seq hs ops.toList [] st rfl (fun j x h => by simp at h)

/-- Whether an operation is wanted, by the slots of a region's operations. -/
def wantedD (ds : List (Option Nat)) (o : Oper) (st : St) : Option Bool := match o.guard with
  | none => some true
  | some (j, b) => match ds.getD j none with
    | some d => match st.get d with
      | .bool b' => ask (b' == b)
      | .und => some false
      | _ => none
    | none => none

theorem wantedV_D (all : Array Oper) (o : Oper) (st : St) : wantedV all o st = wantedD (all.toList.map (·.dst)) o st := by
  unfold wantedV wantedD
  cases o.guard with
  | none => rfl
  | some p =>
    obtain ⟨j, b⟩ := p
    dsimp only
    have : (all[j]?).bind (·.dst) = (all.toList.map (·.dst)).getD j none := by
      rw [List.getD_eq_getElem?_getD, List.getElem?_map, Array.getElem?_toList]
      cases all[j]? <;> rfl
    rw [this]
    cases (all.toList.map (·.dst)).getD j none with
    | none => rfl
    | some d =>
      dsimp only
      cases st.get d <;> rfl

def thenOps (r : Option St) (k : St → Option St) : Option St := match r with
  | some s => k s
  | none => none
def thenEff (r : Option Eff) (k : Eff → Option St) : Option St := match r with
  | some e => k e
  | none => none

section
variable (E : Env) (O : Orc) (fc : FC) (base : Nat) (ds : List (Option Nat))
def evOpsD : List Oper → St → Option St
  | [], st => some st
  | o :: r, st => match wantedD ds o st with
    | some true => thenOps (evOp E O fc base o st) (evOpsD r)
    | some false => evOpsD r (st.put o.dst .und)
    | none => none
def evED : List Oper → St → Option St
  | [], st => some st
  | o :: r, st => match wantedD ds o st with
    | some true => thenEff (effOf E O fc base o st) (fun e => evED r (e.ap o.dst st))
    | some false => evED r (st.put o.dst .und)
    | none => none
def opsG (o : Oper) (r : List Oper) (st : St) (w : Option Bool) : Option St := match w with
  | some true => thenOps (evOp E O fc base o st) (evOpsD E O fc base ds r)
  | some false => evOpsD E O fc base ds r (st.put o.dst .und)
  | none => none
def effG (o : Oper) (r : List Oper) (st : St) (w : Option Bool) : Option St := match w with
  | some true => thenEff (effOf E O fc base o st) (fun e => evED E O fc base ds r (e.ap o.dst st))
  | some false => evED E O fc base ds r (st.put o.dst .und)
  | none => none
end

section
variable {ds : List (Option Nat)} {o : Oper} {r : List Oper} {st : St}
theorem thenOps_some (s : St) (k : St → Option St) : thenOps (some s) k = k s := rfl
theorem thenEff_some (e : Eff) (k : Eff → Option St) : thenEff (some e) k = k e := rfl
theorem evOpsD_nil : evOpsD E O fc base ds [] st = some st := rfl
theorem evOpsD_cons : evOpsD E O fc base ds (o :: r) st = opsG E O fc base ds o r st (wantedD ds o st) := by
  simp only [evOpsD]
  cases wantedD ds o st with
  | none => rfl
  | some b => cases b <;> rfl
theorem evED_nil : evED E O fc base ds [] st = some st := rfl
theorem evED_cons : evED E O fc base ds (o :: r) st = effG E O fc base ds o r st (wantedD ds o st) := by
  simp only [evED]
  cases wantedD ds o st with
  | none => rfl
  | some b => cases b <;> rfl
theorem opsG_true : opsG E O fc base ds o r st (some true) = thenOps (evOp E O fc base o st) (evOpsD E O fc base ds r) := rfl
theorem opsG_false : opsG E O fc base ds o r st (some false) = evOpsD E O fc base ds r (st.put o.dst .und) := rfl
theorem effG_true : effG E O fc base ds o r st (some true) = thenEff (effOf E O fc base o st) (fun e => evED E O fc base ds r (e.ap o.dst st)) := rfl
theorem effG_false : effG E O fc base ds o r st (some false) = evED E O fc base ds r (st.put o.dst .und) := rfl
end

theorem evOps_D (all : Array Oper) : ∀ (l : List Oper) (st : St), evOps E O fc base all l st = evOpsD E O fc base (all.toList.map (·.dst)) l st
  | [], _ => rfl
  | o :: r, st => by
    simp only [evOps, evOpsD, wantedV_D]
    cases wantedD (all.toList.map (·.dst)) o st with
    | none => rfl
    | some b =>
      cases b with
      | false => exact evOps_D all r _
      | true =>
        unfold thenOps
        cases evOp E O fc base o st with
        | none => rfl
        | some s => exact evOps_D all r s

theorem evE_D (all : Array Oper) : ∀ (l : List Oper) (st : St), evE E O fc base all l st = evED E O fc base (all.toList.map (·.dst)) l st
  | [], _ => rfl
  | o :: r, st => by
    simp only [evE, evED, wantedV_D]
    cases wantedD (all.toList.map (·.dst)) o st with
    | none => rfl
    | some b =>
      cases b with
      | false => exact evE_D all r _
      | true =>
        unfold thenEff
        cases effOf E O fc base o st with
        | none => rfl
        | some e => exact evE_D all r _

theorem evRegion_calm (ops : Array Oper) (st : St) : evRegion E O fc base ops false st = evOpsD E O fc base (ops.toList.map (·.dst)) ops.toList st := evOps_D ops _ st
theorem evRegion_st {ops : Array Oper} (hs : staticOk ops = true) (st : St) : evRegion E O fc base ops true st = evED E O fc base (ops.toList.map (·.dst)) ops.toList st := (evRegion_static hs st).trans (evE_D ops _ st)
end
end Go.AM
