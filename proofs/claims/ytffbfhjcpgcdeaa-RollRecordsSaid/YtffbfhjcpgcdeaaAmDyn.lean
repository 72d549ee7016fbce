/-
Regions that draw their order, where a run of the region itself shows that no two open operations disturb each other.
-/
import Derived.Test.YtffbfhjcpgcdeaaAmR
set_option linter.unusedVariables false
set_option linter.unusedSimpArgs false

namespace Go.AM
open Go
section
variable {E : Env} {X : Ext} {O : Orc} {fc : FC} {base : Nat}

def wrNew (o : Oper) : Bool := match o.op with
  | .alloc _ => true
  | .box _ _ => true
  | .buildSlice _ _ _ => true
  | .makeSlice _ _ _ => true
  | _ => false

def readsAt (o : Oper) : Option Nat := match o.op with
  | .load _ (.tmp k) => some k
  | .indexAddr _ (.tmp k) _ => some k
  | .slice _ (.tmp k) _ _ _ => some k
  | _ => none

def namesOf (fc : FC) (base : Nat) (o : Oper) : List Nat := (o.dst.map (qI fc base)).toList

def readOk (all : Array Oper) (st : St) (o : Oper) (ns : List Nat) : Bool := match readsAt o with
  | some k => (all.toList.all fun o => o.dst != some k) && free ns (ids (st.get k))
  | none => false

def pairDyn (fc : FC) (base : Nat) (all : Array Oper) (st : St) (x y : Oper) : Bool :=
  y.apart all x && (quiet x || quiet y || (!wrOp x && !wrOp y) || (wrNew x && wrNew y && free (namesOf fc base x) (namesOf fc base y)  && free (namesOf fc base y) (namesOf fc base x)) ||
    (wrNew x && readOk all st y (namesOf fc base x)) || (wrNew y && readOk all st x (namesOf fc base y)))

def dynOk (fc : FC) (base : Nat) (all : Array Oper) (st : St) : Bool :=
  let cl := clo all all.size
  (List.range all.size).all fun i => (deps all i).all (fun d => decide (d < i)) && (List.range i).all fun j => (cl.getD i []).contains j || match all[j]?, all[i]? with
    | some y, some x => pairDyn fc base all st x y
    | _, _ => false

theorem free_iff {l l' : List Nat} : free l l' = true ↔ ∀ i ∈ l, i ∉ l' := by
  unfold free
  rw [List.all_eq_true]
  simp

theorem supp_new {o : Oper} {st : St} (h : wrNew o = true) : supp fc base o st = namesOf fc base o := by
  unfold wrNew at h
  unfold supp namesOf
  cases ho : o.op <;> simp only [ho] at h ⊢ <;> cases h

theorem supp_reads {o : Oper} {st : St} {k : Nat} (h : readsAt o = some k) : supp fc base o st = ids (st.get k) := by
  unfold readsAt at h
  unfold supp
  split at h <;> try (cases h; done)
  all_goals
    rename_i ho
    cases h
    rw [ho]
    rfl

theorem put_new {id : Nat} {ob : Ob} {v : V} {ns : List Nat} (h : id ∈ ns) : ∀ n ∈ (Eff.new id ob v).writes, n ∈ ns := by
  intro n hn
  simp only [Eff.writes, List.mem_singleton] at hn
  subst hn
  exact h

theorem writes_new {o : Oper} {st : St} {e : Eff} (hw : wrNew o = true) (h : qJ E O fc base o st = some e) : ∀ n ∈ e.writes, n ∈ namesOf fc base o := by
  unfold qJ at h
  split at h
  · cases h; intro n hn; cases hn
  · unfold qK at h
    unfold wrNew at hw
    unfold namesOf
    split at hw <;> try (cases hw; done)
    all_goals
      rename_i ho
      rw [ho] at h
      dsimp only at h
      split at h <;> try (cases h; done)
      rename_i hd _
      rw [hd]
      first
        | (unfold qL at h
           split at h <;> try (cases h; done)
           split at h <;> try (cases h; done)
           cases h
           exact put_new (by simp))
        | (unfold qN at h
           split at h <;> try (cases h; done)
           split at h <;> try (cases h; done)
           cases h
           exact put_new (by simp))
        | (split at h <;> try (cases h; done)
           unfold qM at h
           split at h
           · split at h <;> try (cases h; done)
             cases h; intro n hn; cases hn
           · split at h <;> try (cases h; done)
             split at h <;> try (cases h; done)
             cases h
             exact put_new (by simp))

structure Info (fc : FC) (base : Nat) (all : Array Oper) (st0 : St) (x : Rec) : Prop where
  still : wrOp x.o = false → x.eff.writes = []
  quiet : quiet x.o = true → x.supp = []
  new : wrNew x.o = true → (∀ n ∈ x.eff.writes, n ∈ namesOf fc base x.o) ∧ (∀ n ∈ x.supp, n ∈ namesOf fc base x.o)
  reads : ∀ k, readsAt x.o = some k → (all.toList.all fun o => o.dst != some k) = true → ∀ n ∈ x.supp, n ∈ ids (st0.get k)
  readsStill : ∀ k, readsAt x.o = some k → wrOp x.o = false

theorem reads_still {o : Oper} {k : Nat} (h : readsAt o = some k) : wrOp o = false := by
  unfold readsAt at h
  unfold wrOp
  split at h <;> try (cases h; done)
  all_goals
    rename_i ho
    rw [ho]

theorem calm_dyn {all : Array Oper} {st0 : St} {x y : Rec} (hx : Info fc base all st0 x) (hy : Info fc base all st0 y) (h : pairDyn fc base all st0 x.o y.o = true) : calm all y x = true := by
  unfold pairDyn at h
  rw [Bool.and_eq_true] at h
  obtain ⟨ha, h⟩ := h
  unfold calm
  rw [ha, Bool.true_and]
  simp only [Bool.or_eq_true, Bool.and_eq_true, Bool.not_eq_true'] at h
  have new_read : ∀ {u v : Rec}, Info fc base all st0 u → Info fc base all st0 v → wrNew u.o = true → readOk all st0 v.o (namesOf fc base u.o) = true → v.eff.writes = [] ∧ free u.eff.writes v.supp = true := by
    intro u v hu hv h1 h2
    unfold readOk at h2
    split at h2
    case h_2 => cases h2
    rename_i k hk
    rw [Bool.and_eq_true] at h2
    refine ⟨hv.still (hv.readsStill k hk), free_iff.2 fun n hn hv' => ?_⟩
    exact free_iff.1 h2.2 n ((hu.new h1).1 n hn) (hv.reads k hk h2.1 n hv')
  rcases h with ((((h | h) | ⟨h1, h2⟩) | ⟨⟨⟨h1, h2⟩, h3⟩, h4⟩) | ⟨h1, h2⟩) | ⟨h1, h2⟩
  · rw [hx.still (quiet_still h), hx.quiet h]; simp [free]
  · rw [hy.still (quiet_still h), hy.quiet h]; simp [free]
  · rw [hx.still h1, hy.still h2]; simp [free]
  · have nx := hx.new h1
    have ny := hy.new h2
    rw [Bool.and_eq_true, Bool.and_eq_true]
    refine ⟨⟨free_iff.2 fun n a b => ?_, free_iff.2 fun n a b => ?_⟩, free_iff.2 fun n a b => ?_⟩
    · exact free_iff.1 h4 n (ny.1 n a) (nx.2 n b)
    · exact free_iff.1 h3 n (nx.1 n a) (ny.2 n b)
    · exact free_iff.1 h4 n (ny.1 n a) (nx.1 n b)
  · obtain ⟨a, b⟩ := new_read hx hy h1 h2
    rw [a, b]; simp [free]
  · obtain ⟨a, b⟩ := new_read hy hx h1 h2
    rw [a, b]; simp [free]

theorem ap_get {o : Oper} {e : Eff} {st : St} {k : Nat} (hk : o.dst ≠ some k) : (e.ap o.dst st).get k = st.get k := by
  have key : ∀ (s : St) (v : V), (s.put o.dst v).get k = s.get k := by
    intro s v
    cases hd : o.dst with
    | none => rfl
    | some d =>
      have : d ≠ k := fun e => hk (by rw [hd, e])
      simp only [St.put, St.get, List.getD_eq_getElem?_getD]
      rw [List.getElem?_set_ne this]
  cases e with
  | put v => exact key st v
  | new id ob v => exact key { st with objs := upd st.objs id ob } v
  | wr id ob => exact key { st with objs := upd st.objs id ob } .und

def RowsD (fc : FC) (base : Nat) (all : Array Oper) (st0 : St) (rs : List Rec) : Prop := ∀ j (x : Rec), rs[j]? = some x → x.i = j ∧ all[j]? = some x.o ∧ Info fc base all st0 x

def SameAt (all : Array Oper) (st0 st : St) : Prop := ∀ k, (all.toList.all fun o => o.dst != some k) = true → st.get k = st0.get k

theorem dyn_seq {all : Array Oper} {st0 : St} (hs : dynOk fc base all st0 = true) : ∀ (ops' : List Oper) (rs : List Rec) (st : St), all.toList.drop rs.length = ops' → RowsD fc base all st0 rs → SameAt all st0 st →
    evD E O fc base all (clo all all.size) (numbered rs.length ops') st rs = evE E O fc base all ops' st
  | [], rs, st, _, _, _ => rfl
  | o :: r, rs, st, hall, hr, hsame => by
    have ho : all[rs.length]? = some o := by
      have := congrArg (·[0]?) hall
      simpa using this
    have hlt : rs.length < all.size := (Array.getElem?_eq_some_iff.1 ho).1
    have hdrop : all.toList.drop (rs.length + 1) = r := by
      rw [← List.drop_drop, hall]
      rfl
    have hmem : o ∈ all.toList := by rw [Array.mem_toList_iff]; exact Array.mem_of_getElem? ho
    have hne : ∀ k, (all.toList.all fun o => o.dst != some k) = true → o.dst ≠ some k := fun k hk => by
      have := List.all_eq_true.1 hk o hmem
      simpa using this
    have h1 := List.all_eq_true.1 hs rs.length (List.mem_range.2 hlt)
    simp only [Bool.and_eq_true] at h1
    have hpair : ∀ (x : Rec), x.i = rs.length → x.o = o → Info fc base all st0 x →
        ((deps all rs.length).all (fun d => decide (d < rs.length)) && rs.all (fun y => ((clo all all.size).getD rs.length []).contains y.i || calm all y x)) = true := fun x hi hxo hw => by
      rw [h1.1, Bool.true_and, List.all_eq_true]
      intro y hy
      obtain ⟨j, hj⟩ := List.mem_iff_getElem?.1 hy
      obtain ⟨k1, k2, k3⟩ := hr j y hj
      have hjlt : j < rs.length := by
        rcases Nat.lt_or_ge j rs.length with h | h
        · exact h
        · rw [List.getElem?_eq_none h] at hj; cases hj
      have hp := List.all_eq_true.1 h1.2 j (List.mem_range.2 hjlt)
      rw [k2, ho, Bool.or_eq_true] at hp
      rw [k1, Bool.or_eq_true]
      rcases hp with hp | hp
      · exact .inl hp
      · right
        refine calm_dyn hw k3 ?_
        rw [hxo]; exact hp
    have next : ∀ (x : Rec), x.i = rs.length → x.o = o → Info fc base all st0 x → RowsD fc base all st0 (rs ++ [x]) := fun x hi hxo hw j y hy => by
      rcases getElem?_snoc hy with ⟨_, h⟩ | ⟨rfl, rfl⟩
      · exact hr j y h
      · exact ⟨hi, by rw [hxo]; exact ho, hw⟩
    simp only [numbered, evD, evE]
    cases hw : wantedV all o st with
    | none => rfl
    | some b =>
      cases b with
      | true =>
        dsimp only
        cases he : qJ E O fc base o st with
        | none => rfl
        | some e =>
          dsimp only
          have hinfo : Info fc base all st0 { i := rs.length, o := o, eff := e, supp := supp fc base o st } :=
            ⟨fun h => eff_still h he, fun h => supp_quiet h, fun h => ⟨writes_new h he, fun n hn => by rw [← supp_new (st := st) h]; exact hn⟩,
              fun k hk hd n hn => by
                have := supp_reads (fc := fc) (base := base) (st := st) hk
                dsimp only at hn hk
                rw [this, hsame k hd] at hn
                exact hn, fun k hk => reads_still hk⟩
          rw [if_pos (hpair { i := rs.length, o := o, eff := e, supp := supp fc base o st } rfl rfl hinfo)]
          have := dyn_seq hs r (rs ++ [{ i := rs.length, o := o, eff := e, supp := supp fc base o st }]) (e.ap o.dst st) (by simpa using hdrop) (next _ rfl rfl hinfo) (fun k hk => by rw [ap_get (hne k hk), hsame k hk])
          rw [List.length_append] at this
          exact this
      | false =>
        dsimp only
        have hinfo : Info fc base all st0 { i := rs.length, o := o, eff := .put .und, supp := [] } :=
          ⟨fun _ => rfl, fun _ => rfl, fun _ => ⟨fun n hn => (by cases hn), fun n hn => (by cases hn)⟩, fun k hk hd n hn => (by cases hn), fun k hk => reads_still hk⟩
        rw [if_pos (hpair { i := rs.length, o := o, eff := .put .und, supp := [] } rfl rfl hinfo)]
        have := dyn_seq hs r (rs ++ [{ i := rs.length, o := o, eff := .put .und, supp := [] }]) (st.put o.dst .und) (by simpa using hdrop) (next _ rfl rfl hinfo) (fun k hk => by
          have := ap_get (e := .put .und) (st := st) (hne k hk)
          rw [show (Eff.put .und).ap o.dst st = st.put o.dst .und from rfl] at this
          rw [this, hsame k hk])
        rw [List.length_append] at this
        exact this

theorem evRegion_dyn {ops : Array Oper} {st : St} (h : dynOk fc base ops st = true) : evRegion E O fc base ops true st = evED E O fc base (ops.toList.map (·.dst)) ops.toList st := by
  rw [← evE_D]
  unfold evRegion
  rw [if_pos rfl]
  exact dyn_seq h ops.toList [] st rfl (fun j x h => by simp at h) (fun _ _ => rfl)

end
end Go.AM

