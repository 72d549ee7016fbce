/-
Regions that draw their order: which objects an operation touches, followed through the region's own pointers.
-/
import Derived.Test.YtffbfhjcpgcdeaaAmDyn
set_option linter.unusedVariables false
set_option linter.unusedSimpArgs false

namespace Go.AM
open Go
section
variable {E : Env} {X : Ext} {O : Orc} {fc : FC} {base : Nat}

def dstAt (all : Array Oper) (i : Nat) : Option Nat := (all[i]?).bind (·.dst)

def defOf (all : Array Oper) (k : Nat) : Option Nat := (List.range all.size).find? fun i => dstAt all i == some k

def fromAt (o : Oper) : Option Nat := match o.op with
  | .move (.tmp j) => some j
  | .assign (.tmp j) => some j
  | .fieldAddr _ (.tmp j) _ => some j
  | .indexAddr _ (.tmp j) _ => some j
  | _ => none

def absV (all : Array Oper) (st : St) : Nat → Nat → Nat → Option (List Nat)
  | 0, _, _ => none
  | n + 1, i, k => match defOf all k with
    | none => some (ids (st.get k))
    | some d => if d < i then (match all[d]? with
      | some o => match fromAt o with
        | some j => absV all st n d j
        | none => none
      | none => none) else none

def uniqB (all : Array Oper) : Bool := (List.range all.size).all fun i => match dstAt all i with
  | some k => defOf all k == some i
  | none => true

def memAt (fc : FC) (base : Nat) (all : Array Oper) (st : St) (i : Nat) (o : Oper) : Option (List Nat) :=
  if quiet o then some [] else if wrNew o then some (namesOf fc base o) else match o.op with
  | .load _ (.tmp j) => absV all st all.size i j
  | .indexAddr _ (.tmp j) _ => absV all st all.size i j
  | .slice _ (.tmp j) _ _ _ => absV all st all.size i j
  | .store _ (.tmp j) _ => absV all st all.size i j
  | _ => none

def pairB (fc : FC) (base : Nat) (all : Array Oper) (st : St) (i j : Nat) (x y : Oper) : Bool :=
  y.apart all x && ((!wrOp x && !wrOp y) || match memAt fc base all st i x, memAt fc base all st j y with
    | some a, some b => free a b && free b a
    | _, _ => false)

def dynOkB (fc : FC) (base : Nat) (all : Array Oper) (st : St) : Bool :=
  let cl := clo all all.size
  uniqB all && (List.range all.size).all fun i => (deps all i).all (fun d => decide (d < i)) && (List.range i).all fun j => (cl.getD i []).contains j || match all[j]?, all[i]? with
    | some y, some x => pairB fc base all st i j x y
    | _, _ => false

def Abs (all : Array Oper) (st0 : St) (i : Nat) (st : St) : Prop := ∀ n k l, absV all st0 n i k = some l → ∀ x ∈ ids (st.get k), x ∈ l

structure InfoB (fc : FC) (base : Nat) (all : Array Oper) (st0 : St) (x : Rec) : Prop where
  still : wrOp x.o = false → x.eff.writes = []
  mem : ∀ l, memAt fc base all st0 x.i x.o = some l → (∀ n ∈ x.eff.writes, n ∈ l) ∧ (∀ n ∈ x.supp, n ∈ l)

theorem calm_B {all : Array Oper} {st0 : St} {x y : Rec} (hx : InfoB fc base all st0 x) (hy : InfoB fc base all st0 y) (h : pairB fc base all st0 x.i y.i x.o y.o = true) : calm all y x = true := by
  unfold pairB at h
  rw [Bool.and_eq_true] at h
  obtain ⟨ha, h⟩ := h
  unfold calm
  rw [ha, Bool.true_and]
  rw [Bool.or_eq_true] at h
  rcases h with h | h
  · simp only [Bool.and_eq_true, Bool.not_eq_true'] at h
    rw [hx.still h.1, hy.still h.2]; simp [free]
  · split at h
    · rename_i a b h1 h2
      rw [Bool.and_eq_true] at h
      have mx := hx.mem a h1
      have my := hy.mem b h2
      rw [Bool.and_eq_true, Bool.and_eq_true]
      refine ⟨⟨free_iff.2 fun n p q => ?_, free_iff.2 fun n p q => ?_⟩, free_iff.2 fun n p q => ?_⟩
      · exact free_iff.1 h.2 n (my.1 n p) (mx.2 n q)
      · exact free_iff.1 h.1 n (mx.1 n p) (my.2 n q)
      · exact free_iff.1 h.2 n (my.1 n p) (mx.1 n q)
    · cases h

theorem absV_step {all : Array Oper} {st0 : St} {i k : Nat} (h : dstAt all i ≠ some k) : ∀ (n : Nat) {l : List Nat}, absV all st0 n (i + 1) k = some l → absV all st0 n i k = some l
  | 0, l, h1 => by simp [absV] at h1
  | n + 1, l, h1 => by
    unfold absV at h1 ⊢
    cases hd : defOf all k with
    | none => rw [hd] at h1; exact h1
    | some d =>
      rw [hd] at h1
      dsimp only at h1 ⊢
      have hdk : dstAt all d = some k := by
        have := List.find?_some hd
        simpa using this
      by_cases hlt : d < i
      · rw [if_pos hlt]; rw [if_pos (by omega)] at h1; exact h1
      · have : d ≠ i := fun e => h (e ▸ hdk)
        rw [if_neg (by omega)] at h1; cases h1

theorem Abs.same {all : Array Oper} {st0 : St} {i : Nat} {st st' : St} (h : Abs all st0 i st) (hk : ∀ k, dstAt all i ≠ some k → st'.get k = st.get k) (hd : ∀ k, dstAt all i = some k → ∀ n l, absV all st0 n (i + 1) k = some l → ∀ x ∈ ids (st'.get k), x ∈ l) :
    Abs all st0 (i + 1) st' := by
  intro n k l h1 x hx
  by_cases e : dstAt all i = some k
  · exact hd k e n l h1 x hx
  · rw [hk k e] at hx
    exact h n k l (absV_step e n h1) x hx

theorem ids_field {fs : List (Nat × Nat)} {f : Nat} {x v : V} (h : qA E fs f x = some v) : ∀ n ∈ ids v, n ∈ ids x := by
  unfold qA at h
  (repeat' (split at h)) <;> first | (cases h; done) | (cases h; intro n hn; exact hn)

theorem ids_indexS {ei : TI} {x v : V} {i : Int} {st : St} (h : zO ei x i st = some v) : ∀ n ∈ ids v, n ∈ ids x := by
  unfold zO at h
  (repeat' (split at h)) <;> first | (cases h; done) | (cases h; intro n hn; exact hn)

theorem ids_indexA {m : Nat} {ei : TI} {x v : V} {i : Int} (h : zR m ei x i = some v) : ∀ n ∈ ids v, n ∈ ids x := by
  unfold zR at h
  (repeat' (split at h)) <;> first | (cases h; done) | (cases h; intro n hn; exact hn)

theorem ids_from {o : Oper} {j : Nat} {st : St} {v : V} (hj : fromAt o = some j) (h : zF E fc o st = some v) : ∀ n ∈ ids v, n ∈ ids (st.get j) := by
  unfold fromAt at hj
  unfold zF at h
  split at hj <;> try (cases hj; done)
  · rename_i ho; cases hj; rw [ho] at h; cases h; exact fun n hn => hn
  · rename_i ho; cases hj; rw [ho] at h
    dsimp only at h
    split at h <;> try (cases h; done)
    split at h <;> try (cases h; done)
    cases h; exact fun n hn => hn
  · rename_i ho; cases hj; rw [ho] at h
    dsimp only at h
    split at h <;> try (cases h; done)
    exact ids_field h
  · rename_i ho; cases hj; rw [ho] at h
    dsimp only at h
    split at h <;> try (cases h; done)
    split at h
    · exact ids_indexS h
    · split at h <;> try (cases h; done)
      exact ids_indexA h

theorem eff_from {o : Oper} {j : Nat} {st : St} {e : Eff} (hj : fromAt o = some j) (h : qJ E O fc base o st = some e) : ∃ v, e = .put v ∧ ∀ n ∈ ids v, n ∈ ids (st.get j) := by
  unfold qJ at h
  split at h
  · rename_i v hv
    cases h
    exact ⟨v, rfl, ids_from hj hv⟩
  · unfold qK at h
    unfold fromAt at hj
    split at hj <;> try (cases hj; done)
    all_goals (rename_i ho; rw [ho] at h; cases h)

theorem def_self {all : Array Oper} (hu : uniqB all = true) {i k : Nat} (hi : i < all.size) (h : dstAt all i = some k) : defOf all k = some i := by
  have := List.all_eq_true.1 hu i (List.mem_range.2 hi)
  rw [h] at this
  simpa using this

theorem supp_store {o : Oper} {st : St} {t j : Nat} {x : Operand} (h : o.op = .store t (.tmp j) x) : supp fc base o st = ids (st.get j) := by
  unfold supp; rw [h]; rfl

theorem writes_store {o : Oper} {st : St} {e : Eff} {t j : Nat} {x : Operand} (ho : o.op = .store t (.tmp j) x) (h : qJ E O fc base o st = some e) : ∀ n ∈ e.writes, n ∈ ids (st.get j) := by
  unfold qJ at h
  split at h
  · cases h; intro n hn; cases hn
  · unfold qK at h
    rw [ho] at h
    dsimp only at h
    split at h <;> try (cases h; done)
    unfold zV at h
    have hp : st.eval (.tmp j) = st.get j := rfl
    rw [hp] at h
    (repeat' (split at h)) <;> first | (cases h; done) | (cases h; intro n hn; simp_all [Eff.writes, ids])

theorem mem_ok {all : Array Oper} {st0 : St} {i : Nat} {o : Oper} {st : St} {e : Eff} (ha : Abs all st0 i st) (he : qJ E O fc base o st = some e) (l : List Nat) (h : memAt fc base all st0 i o = some l) :
    (∀ n ∈ e.writes, n ∈ l) ∧ (∀ n ∈ supp fc base o st, n ∈ l) := by
  unfold memAt at h
  split at h
  · rename_i hq
    cases h
    rw [eff_still (quiet_still hq) he, supp_quiet hq]
    exact ⟨fun n hn => hn, fun n hn => hn⟩
  · split at h
    · rename_i hw
      cases h
      exact ⟨writes_new hw he, fun n hn => by rw [supp_new hw] at hn; exact hn⟩
    · split at h <;> try (cases h; done)
      · rename_i ho
        have hs : wrOp o = false := by unfold wrOp; rw [ho]
        rw [eff_still hs he]
        refine ⟨fun n hn => (by cases hn), fun n hn => ?_⟩
        unfold supp at hn; rw [ho] at hn
        exact ha _ _ _ h n hn
      · rename_i ho
        have hs : wrOp o = false := by unfold wrOp; rw [ho]
        rw [eff_still hs he]
        refine ⟨fun n hn => (by cases hn), fun n hn => ?_⟩
        unfold supp at hn; rw [ho] at hn
        exact ha _ _ _ h n hn
      · rename_i ho
        have hs : wrOp o = false := by unfold wrOp; rw [ho]
        rw [eff_still hs he]
        refine ⟨fun n hn => (by cases hn), fun n hn => ?_⟩
        unfold supp at hn; rw [ho] at hn
        exact ha _ _ _ h n hn
      · rename_i ho
        refine ⟨fun n hn => ha _ _ _ h n (writes_store ho he n hn), fun n hn => ?_⟩
        rw [supp_store ho] at hn
        exact ha _ _ _ h n hn

def RowsDB (fc : FC) (base : Nat) (all : Array Oper) (st0 : St) (rs : List Rec) : Prop := ∀ j (x : Rec), rs[j]? = some x → x.i = j ∧ all[j]? = some x.o ∧ InfoB fc base all st0 x

theorem put_same {o : Oper} {st : St} {v : V} {k : Nat} (h : o.dst = some k) (hk : k < st.slots.length) : (st.put o.dst v).get k = v := by
  rw [h]
  simp only [St.put, St.get, List.getD_eq_getElem?_getD, List.getElem?_set_self hk, Option.getD_some]

theorem put_short {o : Oper} {st : St} {v : V} {k : Nat} (h : o.dst = some k) (hk : ¬ k < st.slots.length) : (st.put o.dst v).get k = .junk := by
  rw [h]
  simp only [St.put, St.get, List.getD_eq_getElem?_getD]
  rw [List.getElem?_eq_none (by rw [List.length_set]; omega), Option.getD_none]

theorem put_ids {o : Oper} {st : St} {v : V} {k : Nat} (h : o.dst = some k) : ∀ x ∈ ids ((st.put o.dst v).get k), x ∈ ids v := by
  intro x hx
  by_cases hk : k < st.slots.length
  · rw [put_same h hk] at hx; exact hx
  · rw [put_short h hk] at hx; cases hx

theorem dyn_seqB {all : Array Oper} {st0 : St} (hs : dynOkB fc base all st0 = true) : ∀ (ops' : List Oper) (rs : List Rec) (st : St), all.toList.drop rs.length = ops' → RowsDB fc base all st0 rs → Abs all st0 rs.length st →
    evD E O fc base all (clo all all.size) (numbered rs.length ops') st rs = evE E O fc base all ops' st
  | [], rs, st, _, _, _ => rfl
  | o :: r, rs, st, hall, hr, ha => by
    have ho : all[rs.length]? = some o := by
      have := congrArg (·[0]?) hall
      simpa using this
    have hlt : rs.length < all.size := (Array.getElem?_eq_some_iff.1 ho).1
    have hdrop : all.toList.drop (rs.length + 1) = r := by
      rw [← List.drop_drop, hall]
      rfl
    have hdst : dstAt all rs.length = o.dst := by unfold dstAt; rw [ho]; rfl
    unfold dynOkB at hs
    rw [Bool.and_eq_true] at hs
    obtain ⟨hu, hs'⟩ := hs
    have h1 := List.all_eq_true.1 hs' rs.length (List.mem_range.2 hlt)
    simp only [Bool.and_eq_true] at h1
    have hpair : ∀ (x : Rec), x.i = rs.length → x.o = o → InfoB fc base all st0 x →
        ((deps all rs.length).all (fun d => decide (d < rs.length)) && rs.all (fun y => ((clo all all.size).getD rs.length []).contains y.i || calm all y x)) = true := fun x hi hxo hw => by
      rw [h1.1, Bool.true_and, List.all_eq_true]
      intro y hy
      obtain ⟨j, hj⟩ := List.mem_iff_getElem?.1 hy
      obtain ⟨k1, k2, k3⟩ := hr j y hj
      have hjlt : j < rs.length := by
        rcases Nat.lt_or_ge j rs.length with h | h
        · exact h
        · rw [List.getElem?_eq_none h] at hj; cases hj
      have hp := List.all_eq_true.1 h1.2 j (List.mem_range.2 hjlt)
      rw [k2, ho, Bool.or_eq_true] at hp
      rw [k1, Bool.or_eq_true]
      rcases hp with hp | hp
      · exact .inl hp
      · right
        refine calm_B hw k3 ?_
        rw [hxo, hi, k1]; exact hp
    have next : ∀ (x : Rec), x.i = rs.length → x.o = o → InfoB fc base all st0 x → RowsDB fc base all st0 (rs ++ [x]) := fun x hi hxo hw j y hy => by
      rcases getElem?_snoc hy with ⟨_, h⟩ | ⟨rfl, rfl⟩
      · exact hr j y h
      · exact ⟨hi, by rw [hxo]; exact ho, hw⟩
    have abs : ∀ (e : Eff), (e = .put .und ∨ qJ E O fc base o st = some e) → Abs all st0 (rs.length + 1) (e.ap o.dst st) := fun e he => by
      refine ha.same (fun k hk => ap_get (by rw [← hdst]; exact hk)) (fun k hk n l hl x hx => ?_)
      rw [hdst] at hk
      rcases he with rfl | he
      · have := put_ids hk x hx; cases this
      · unfold absV at hl
        cases n with
        | zero => cases hl
        | succ n =>
          dsimp only at hl
          rw [def_self hu hlt (by rw [hdst]; exact hk)] at hl
          dsimp only at hl
          rw [if_pos (by omega), ho] at hl
          dsimp only at hl
          split at hl <;> try (cases hl; done)
          rename_i j hj
          obtain ⟨v, rfl, hv⟩ := eff_from hj he
          exact ha n j l hl x (hv x (put_ids hk x hx))
    simp only [numbered, evD, evE]
    cases hw : wantedV all o st with
    | none => rfl
    | some b =>
      cases b with
      | true =>
        dsimp only
        cases he : qJ E O fc base o st with
        | none => rfl
        | some e =>
          dsimp only
          have hinfo : InfoB fc base all st0 { i := rs.length, o := o, eff := e, supp := supp fc base o st } := ⟨fun h => eff_still h he, fun l hl => mem_ok ha he l hl⟩
          rw [if_pos (hpair { i := rs.length, o := o, eff := e, supp := supp fc base o st } rfl rfl hinfo)]
          have := dyn_seqB (by unfold dynOkB; rw [hu, Bool.true_and]; exact hs') r (rs ++ [{ i := rs.length, o := o, eff := e, supp := supp fc base o st }]) (e.ap o.dst st) (by simpa using hdrop) (next _ rfl rfl hinfo) (by rw [List.length_append]; exact abs e (.inr he))
          rw [List.length_append] at this
          exact this
      | false =>
        dsimp only
        have hinfo : InfoB fc base all st0 { i := rs.length, o := o, eff := .put .und, supp := [] } := ⟨fun _ => rfl, fun l hl => ⟨fun n hn => (by cases hn), fun n hn => (by cases hn)⟩⟩
        rw [if_pos (hpair { i := rs.length, o := o, eff := .put .und, supp := [] } rfl rfl hinfo)]
        have := dyn_seqB (by unfold dynOkB; rw [hu, Bool.true_and]; exact hs') r (rs ++ [{ i := rs.length, o := o, eff := .put .und, supp := [] }]) (st.put o.dst .und) (by simpa using hdrop) (next _ rfl rfl hinfo) (by rw [List.length_append]; exact abs (.put .und) (.inl rfl))
        rw [List.length_append] at this
        exact this

theorem abs_zero (all : Array Oper) (st0 : St) : Abs all st0 0 st0 := by
  intro n k l h x hx
  cases n with
  | zero => cases h
  | succ n =>
    unfold absV at h
    split at h
    · cases h; exact hx
    · rw [if_neg (by omega)] at h; cases h

theorem evRegion_dynB {ops : Array Oper} {st : St} (h : dynOkB fc base ops st = true) : evRegion E O fc base ops true st = evED E O fc base (ops.toList.map (·.dst)) ops.toList st := by
  rw [← evE_D]
  unfold evRegion
  rw [if_pos rfl]
  exact dyn_seqB h ops.toList [] st rfl (fun j x h => by simp at h) (abs_zero ops st)

end
end Go.AM

