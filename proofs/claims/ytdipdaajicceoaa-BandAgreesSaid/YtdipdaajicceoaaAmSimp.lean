/-
Equations for the simplifier.
-/
import Derived.Test.YtdipdaajicceoaaAmLoop
import Derived.Test.YtdipdaajicceoaaAmSim
import Derived.IntWalk
namespace Go.AM
open Go

theorem atEnd_normal (E : Env) (fn : Func) (s : St) : atEnd E fn (some (.normal, s)) = match resultsV E fn s with | some v => some (v, s) | none => none := rfl
theorem atEnd_ret (E : Env) (fn : Func) (s : St) : atEnd E fn (some (.ret, s)) = match resultsV E fn s with | some v => some (v, s) | none => none := rfl
theorem outOfCall_some (v : V) (s : St) : outOfCall (some (v, s)) = resolve s.objs depth v := rfl
theorem outOfCall_none : outOfCall none = none := rfl

theorem resolve_int (objs : List (Nat × Ob)) (n : Nat) (k : IntKind) (m : Int) : resolve objs (n + 1) (.int k m) = some (.int k m) := rfl
theorem resolve_bool (objs : List (Nat × Ob)) (n : Nat) (b : Bool) : resolve objs (n + 1) (.bool b) = some (.bool b) := rfl
theorem resolve_lit (objs : List (Nat × Ob)) (n : Nat) (v : Value) : resolve objs (n + 1) (.lit v) = some (.lit v) := rfl
theorem resolve_sl (objs : List (Nat × Ob)) (n : Nat) (t : Bool) (vs : List V) : resolve objs (n + 1) (.sl t vs) = some (.sl t vs) := rfl
theorem resolve_fp (objs : List (Nat × Ob)) (n : Nat) (t : Bool) (cs : List V) (o : Nat) : resolve objs (n + 1) (.fp t cs o) = some (.fp t cs o) := rfl
theorem resolve_emp (objs : List (Nat × Ob)) (n : Nat) : resolve objs (n + 1) .emp = some (.sl true []) := rfl
theorem resolve_agg (objs : List (Nat × Ob)) (n : Nat) (cs : List V) : resolve objs (n + 1) (.agg cs) = (allM (resolve objs n) cs).map .agg := rfl
theorem resolve_tup (objs : List (Nat × Ob)) (n : Nat) (cs : List V) : resolve objs (n + 1) (.tup cs) = (allM (resolve objs n) cs).map .tup := rfl
theorem resolve_clo (objs : List (Nat × Ob)) (n f : Nat) (a b : List V) : resolve objs (n + 1) (.clo f a b) = match allM (resolve objs n) a, allM (resolve objs n) b with
      | some a', some b' => some (.clo f a' b')
      | _, _ => none := rfl
theorem resolve_own (objs : List (Nat × Ob)) (n id off len : Nat) : resolve objs (n + 1) (.own id off len) = match look objs id with
      | some o =>
        if off + len ≤ o.elems.length then
          if o.flat then some (.sl o.t ((o.elems.drop off).take len))
          else match allM (resolve objs n) (retagL o.t ((o.elems.drop off).take len)) with
            | some es => some (.sl (isNewL es) es)
            | none => none
        else none
      | none => none := rfl

theorem resolve_ptr (objs : List (Nat × Ob)) (n id i c : Nat) : resolve objs (n + 1) (.ptr id i c) = match look objs id with
      | some o => match o.elems[i]? with
        | some e => match cells? e with
          | some cs => if o.flat then some (.fp o.t cs c)
            else match allM (resolve objs n) (retagL o.t cs) with
              | some es => some (.fp (isNewL es) es c)
              | none => none
          | none => none
        | none => none
      | none => none := rfl

theorem allM_nil {α β : Type} (f : α → Option β) : allM f [] = some [] := rfl
theorem allM_cons {α β : Type} (f : α → Option β) (x : α) (r : List α) : allM f (x :: r) = match f x with
    | some b => match allM f r with
      | some bs => some (b :: bs)
      | none => none
    | none => none := rfl
theorem beqT (b : Bool) : (b == true) = b := by cases b <;> rfl
theorem beqF (b : Bool) : (b == false) = !b := by cases b <;> rfl

theorem wrap_in {n : Int} (h : -9223372036854775808 ≤ n ∧ n ≤ 9223372036854775807) : IntKind.i64.wrap n = n := IntWalk.i64_in n h
theorem ite_min (a b : Int) : (if b < a then b else a) = min a b := by omega
theorem ite_max (a b : Int) : (if a < b then b else a) = max a b := by omega
theorem tidy_mk (l : List V) (o : List (List V)) (b : List (Nat × Ob)) : tidy { slots := l, outer := o, objs := b } = norm [] { slots := [], outer := o, objs := b } := rfl
theorem ask_true : ask true = some true := rfl
theorem ask_false : ask false = some false := rfl
theorem ask_cases {b : Bool} {w : Option Bool} (h : ask b = w) : (b = true ∧ w = some true) ∨ (b = false ∧ w = some false) := by
  subst h
  cases b
  · exact .inr ⟨rfl, rfl⟩
  · exact .inl ⟨rfl, rfl⟩

/-- The test that is asked now. -/
def ask2 (b : Bool) : Option Bool := ask b
theorem ask_to (b : Bool) : ask b = ask2 b := rfl
theorem take_map_length {α β : Type} (f : α → β) (l : List α) : (l.map f).take l.length = l.map f := List.take_of_length_le (by simp)

section
variable (E : Env) (O : Orc) (X : Ext) (fc : FC) (base : Nat)

def condB (w : Option Bool) (f g : St → Option (Ex × St)) (st : St) : Option (Ex × St) := match w with
  | some true => f st
  | some false => g st
  | none => none

noncomputable def condG (a b : Code) (st : St) (v : V) : Option (Ex × St) := match v with
  | .bool t => condB (ask t) (den E X fc base a) (den E X fc base b) st
  | _ => none

noncomputable def loopAt (b : Code) (st : St) : Option (Ex × St) := andThen (den E X fc base b st) (den E X fc base (.loop b))
end

section
variable {E : Env} {O : Orc} {X : Ext} {fc : FC} {base : Nat} {st : St}

theorem condB_true (f g : St → Option (Ex × St)) : condB (some true) f g st = f st := rfl
theorem condB_false (f g : St → Option (Ex × St)) : condB (some false) f g st = g st := rfl
theorem condG_bool (a b : Code) (t : Bool) : condG E X fc base a b st (.bool t) = condB (ask t) (den E X fc base a) (den E X fc base b) st := rfl
theorem den_condG (c : Operand) (a b : Code) : den E X fc base (.cond c a b) st = condG E X fc base a b st (st.eval c) := by
  rw [den_cond]
  unfold onBool condG
  split
  · rename_i h; rw [h]; rfl
  · rename_i h; rw [h]; rfl
  · rename_i h1 h2
    split
    · rename_i t h
      cases t
      · exact absurd h h2
      · exact absurd h h1
    · rfl
theorem den_loopAt (b : Code) : den E X fc base (.loop b) st = loopAt E X fc base b (normOf fc b st) := den_loop b st
theorem pickV_true (x y : V) : pickV (some true) x y = some x := rfl
theorem pickV_false (x y : V) : pickV (some false) x y = some y := rfl
end

section
variable (E : Env) (O : Orc) (fc : FC) (base : Nat)

/-- What follows a call that has answered. -/
def callG (dst : Option Nat) (as_ : List V) (st : St) (r : Option V) : Option St := match r with
  | some r =>
    if refFree r then
      match dst.bind (look fc.thaw) with
      | some (k, es) => match dst with
        | some d => if isNew r then thawed fc base d k es r (if isNew r then st else st.dropL (reach st.objs depth (idsL as_))) else none
        | none => none
      | none => some ((if isNew r then st else st.dropL (reach st.objs depth (idsL as_))).put dst r)
    else none
  | none => none

def lendG (g : Nat) (dst : Option Nat) (as_ : List V) (st : St) (l : Option (List V)) : Option St := match l with
  | some as' => callG fc base dst as_ st (O.call g as')
  | none => none

def inlG (dst : Option Nat) (r : Option (V × St)) : Option St := match r with
  | some (r, s) => match s.outer with
    | sl :: out => some (St.put { s with slots := sl, outer := out } dst r)
    | [] => none
  | none => none

theorem evCall_clo (dst : Option Nat) (g : Nat) (first cap args : List V) (st : St) : evCall E O fc base dst (.clo g first cap) args st =
    if E.inl g then inlG dst (O.inl (base + 1000) g (first ++ args ++ cap) { st with slots := [], outer := st.slots :: st.outer })
    else lendG O fc base g dst (first ++ args ++ cap) st (lend st (first ++ args ++ cap)) := by
  unfold evCall
  dsimp only
  split
  · rfl
  · unfold lendG callG
    split
    · rename_i h
      rw [h]
      dsimp only
      split
      · rename_i h2
        rw [h2]
        dsimp only
        split <;> rfl
      · rename_i h2; rw [h2]
    · rename_i h; rw [h]
end

section
variable {O : Orc} {fc : FC} {base : Nat}
theorem lendG_some (g : Nat) (dst : Option Nat) (as_ as' : List V) (st : St) : lendG O fc base g dst as_ st (some as') = callG fc base dst as_ st (O.call g as') := rfl
theorem callG_some (dst : Option Nat) (as_ : List V) (st : St) (r : V) : callG fc base dst as_ st (some r) =
    if refFree r then
      match dst.bind (look fc.thaw) with
      | some (k, es) => match dst with
        | some d => if isNew r then thawed fc base d k es r (if isNew r then st else st.dropL (reach st.objs depth (idsL as_))) else none
        | none => none
      | none => some ((if isNew r then st else st.dropL (reach st.objs depth (idsL as_))).put dst r)
    else none := rfl
theorem inlG_some (dst : Option Nat) (r : V) (s : St) : inlG dst (some (r, s)) = match s.outer with
    | sl :: out => some (St.put { s with slots := sl, outer := out } dst r)
    | [] => none := rfl
end

theorem look_upd_same {α : Type} (l : List (Nat × α)) (i : Nat) (y : α) : look (upd l i y) i = some y := by rw [look_upd, if_pos rfl]
theorem upd_upd {α : Type} (l : List (Nat × α)) (i : Nat) (x y : α) : upd (upd l i x) i y = upd l i y := by
  induction l with
  | nil => simp [upd]
  | cons p r ih =>
    obtain ⟨j, z⟩ := p
    simp only [upd]
    split
    · rename_i h; simp [upd, h]
    · rename_i h
      split
      · simp [upd]
      · rename_i h2; simp [upd, h, h2, ih]

/-- The assignment of a round is done; then its body. -/
def afterA (x : Option (Ex × St)) (k : St → Prop) : Prop := match x with
  | some (.normal, s) => k s
  | _ => False
def afterR (x : Option (Ex × St)) (N : St → Prop) (K : Option (Ex × St) → Prop) : Prop := match x with
  | some (.normal, s) => N s
  | some (.exit i, s) => K (popped (some (.exit i, s)))
  | some (.ret, s) => K (popped (some (.ret, s)))
  | none => False

theorem afterA_normal (s : St) (k : St → Prop) : afterA (some (.normal, s)) k = k s := rfl
theorem afterR_normal (s : St) (N : St → Prop) (K : Option (Ex × St) → Prop) : afterR (some (.normal, s)) N K = N s := rfl
theorem afterR_exit (i : Nat) (s : St) (N : St → Prop) (K : Option (Ex × St) → Prop) : afterR (some (.exit i, s)) N K = K (popped (some (.exit i, s))) := rfl
theorem afterR_ret (s : St) (N : St → Prop) (K : Option (Ex × St) → Prop) : afterR (some (.ret, s)) N K = K (popped (some (.ret, s))) := rfl
theorem popped_some (e : Ex) (l s0 : List V) (out : List (List V)) (objs : List (Nat × Ob)) : popped (some (e, { slots := l, outer := s0 :: out, objs := objs })) = some (e, { slots := s0, outer := out, objs := objs }) := rfl

section
variable (id d : Nat) (ei : TI)
def appG2 (s : St) (t1 : Bool) (ns : List V) (r : Option (Option Nat × Bool × List V)) : Option St := match r with
  | some (i, t, old) =>
    if roomy (old.length + ns.length) ei.bytes = true ∧ old.length + ns.length ≤ 4294967296 ∧ sized ei.size ns = true ∧ 0 < ei.size then
      some (((dropO s i).alloc id { es := ei.size, flat := true, t := t && t1, app := true, elems := old ++ ns }).put (some d) (.own id 0 (old.length + ns.length)))
    else none
  | none => none
def appG1 (x : V) (r : Option (St × Bool × List V)) : Option St := match r with
  | some (s, t1, ns) => appG2 id d ei s t1 ns (onto ei x s)
  | none => none
def appG0 (x : V) (st : St) (r : Option (Bool × Bool × List V)) : Option St := match r with
  | some (fl, t', ys) => appG1 id d ei x (freeze st fl t' ys)
  | none => none
theorem evAppend_eq (x y : V) (st : St) : evAppend id d ei x y st = appG0 id d ei x st (elemsV st.objs y) := by
  unfold evAppend appG0 appG1 appG2
  rfl
theorem appG0_some (x : V) (st : St) (fl t' : Bool) (ys : List V) : appG0 id d ei x st (some (fl, t', ys)) = appG1 id d ei x (freeze st fl t' ys) := rfl
theorem appG1_some (x : V) (s : St) (t1 : Bool) (ns : List V) : appG1 id d ei x (some (s, t1, ns)) = appG2 id d ei s t1 ns (onto ei x s) := rfl
theorem appG2_some (s : St) (t1 : Bool) (ns : List V) (i : Option Nat) (t : Bool) (old : List V) : appG2 id d ei s t1 ns (some (i, t, old)) =
    if roomy (old.length + ns.length) ei.bytes = true ∧ old.length + ns.length ≤ 4294967296 ∧ sized ei.size ns = true ∧ 0 < ei.size then
      some (((dropO s i).alloc id { es := ei.size, flat := true, t := t && t1, app := true, elems := old ++ ns }).put (some d) (.own id 0 (old.length + ns.length)))
    else none := rfl
end

def setSlots : List V → List (Nat × V) → List V
  | l, [] => l
  | l, (i, v) :: r => setSlots (l.set i v) r

def setObs : List (Nat × Ob) → List (Nat × Ob) → List (Nat × Ob)
  | l, [] => l
  | l, (i, o) :: r => setObs (upd l i o) r

/-- A state with other slots and objects. -/
def St.with (s : St) (vs : List (Nat × V)) (os : List (Nat × Ob)) : St := { slots := setSlots s.slots vs, outer := s.outer, objs := setObs s.objs os }

section
variable {E : Env} {X : Ext} {fc : FC} {base : Nat} {b : Code}

/-- A loop by what varies at its head, and a measure that falls. -/
theorem loop_inv {ι : Type} {K : Option (Ex × St) → Prop} {s0 : St} (vs : ι → List (Nat × V)) (os : ι → List (Nat × Ob)) (m : ι → Nat) (i0 : ι) (h0 : s0 = s0.with (vs i0) (os i0))
    (h : ∀ i, after fc b (den E X fc base b (s0.with (vs i) (os i))) (fun s => ∃ i', s = s0.with (vs i') (os i') ∧ m i' < m i) (fun q => K (some q))) : ∀ r, loopAt E X fc base b s0 = r → K r := by
  rintro r rfl
  have key : ∀ (n : Nat) (i : ι), m i < n → K (loopAt E X fc base b (s0.with (vs i) (os i))) := by
    intro n
    induction n with
    | zero => intro i hm; omega
    | succ n ih =>
      intro i hm
      have ha := h i
      unfold loopAt
      cases hd : den E X fc base b (s0.with (vs i) (os i)) with
      | none => rw [hd] at ha; exact ha.elim
      | some p =>
        obtain ⟨e, s⟩ := p
        rw [hd] at ha
        cases e with
        | normal =>
          obtain ⟨i', h1, h3⟩ := ha
          rw [andThen_normal, den_loopAt, h1]
          exact ih i' (by omega)
        | exit i => exact ha
        | ret => exact ha
  have := key (m i0 + 1) i0 (Nat.lt_succ_self _)
  rwa [← h0] at this

/-- A loop that goes over a list, element by element. -/
theorem loop_list {γ σ : Type} {K : Option (Ex × St) → Prop} {s0 : St} (xs : List γ) (vs : List γ → σ → List (Nat × V)) (os : List γ → σ → List (Nat × Ob)) (I : List γ → σ → Prop) (c0 : σ)
    (hn : xs.length ≤ 1000000000000) (h0 : s0 = s0.with (vs [] c0) (os [] c0)) (hI : I [] c0)
    (hend : ∀ c, I xs c → after fc b (den E X fc base b (s0.with (vs xs c) (os xs c))) (fun _ => False) (fun q => K (some q)))
    (hstep : ∀ pre x post c, xs = pre ++ x :: post → I pre c → (pre.length : Int) < xs.length → pre.length < xs.length → xs[pre.length]? = some x → IntKind.i64.wrap ((pre.length : Int) + 1) = ((pre ++ [x]).length : Int) →
      after fc b (den E X fc base b (s0.with (vs pre c) (os pre c))) (fun s => ∃ c', s = s0.with (vs (pre ++ [x]) c') (os (pre ++ [x]) c') ∧ I (pre ++ [x]) c') (fun q => K (some q))) : ∀ r, loopAt E X fc base b s0 = r → K r := by
  refine loop_inv (ι := { p : (List γ × List γ) × σ // xs = p.1.1 ++ p.1.2 ∧ I p.1.1 p.2 }) (fun i => vs i.1.1.1 i.1.2) (fun i => os i.1.1.1 i.1.2) (fun i => i.1.1.2.length) ⟨(([], xs), c0), rfl, hI⟩ h0 ?_
  rintro ⟨⟨⟨pre, post⟩, c⟩, hp, hi⟩
  dsimp only at hp hi ⊢
  cases post with
  | nil =>
    obtain rfl : xs = pre := by simpa using hp
    have := hend c hi
    revert this
    cases den E X fc base b (s0.with (vs xs c) (os xs c)) with
    | none => exact fun h => h
    | some p =>
      obtain ⟨e, s⟩ := p
      cases e with
      | normal => exact fun h => h.elim
      | exit i => exact fun h => h
      | ret => exact fun h => h
  | cons x post =>
    have hlt : pre.length < xs.length := by subst hp; simp
    have := hstep pre x post c hp hi (by omega) hlt (by subst hp; simp) (by rw [Go.IntWalk.i64_in _ (by omega)]; simp)
    revert this
    cases den E X fc base b (s0.with (vs pre c) (os pre c)) with
    | none => exact fun h => h
    | some p =>
      obtain ⟨e, s⟩ := p
      cases e with
      | normal =>
        rintro ⟨c', h1, h2⟩
        exact ⟨⟨((pre ++ [x], post), c'), by simpa using hp, h2⟩, h1, Nat.lt_succ_self _⟩
      | exit i => exact fun h => h
      | ret => exact fun h => h
end

theorem refFreeL_map {α : Type} {f : α → V} (h : ∀ x, refFree (f x) = true) : ∀ l : List α, refFreeL (l.map f) = true
  | [] => rfl
  | x :: l => by simp only [List.map_cons, refFreeL, h, refFreeL_map h l, Bool.and_self]
theorem isNewL_map {α : Type} {f : α → V} (h : ∀ x, isNew (f x) = true) : ∀ l : List α, isNewL (l.map f) = true
  | [] => rfl
  | x :: l => by simp only [List.map_cons, isNewL, h, isNewL_map h l, Bool.and_self]
theorem plainL_map {α : Type} {f : α → V} (h : ∀ x, plain (f x) = true) : ∀ l : List α, plainL (l.map f) = true
  | [] => rfl
  | x :: l => by simp only [List.map_cons, plainL, h, plainL_map h l, Bool.and_self]
theorem sized_map {α : Type} {f : α → V} {n : Nat} (h : ∀ x, ∃ cs, cells? (f x) = some cs ∧ cs.length = n) : ∀ l : List α, sized n (l.map f) = true
  | [] => rfl
  | x :: l => by
    obtain ⟨cs, h1, h2⟩ := h x
    simp only [List.map_cons, sized, h1, h2, sized_map h l, beq_self_eq_true, Bool.and_self]

/-- A list of integers. -/
def vI (n : Int) : V := .int .i64 n
theorem vI_def (n : Int) : vI n = .int .i64 n := rfl
theorem refFree_vI (l : List Int) : refFreeL (l.map vI) = true := refFreeL_map (fun _ => rfl) l
theorem isNew_vI (l : List Int) : isNewL (l.map vI) = true := isNewL_map (fun _ => rfl) l
theorem plain_vI (l : List Int) : plainL (l.map vI) = true := plainL_map (fun _ => rfl) l
theorem sized_vI (l : List Int) : sized 1 (l.map vI) = true := sized_map (fun n => ⟨[.int .i64 n], rfl, rfl⟩) l
end Go.AM
