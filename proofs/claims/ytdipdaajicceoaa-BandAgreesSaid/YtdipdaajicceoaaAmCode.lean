/-
The abstract machine on code: regions, tests, loops, calls. Definitions.
-/
import Derived.Test.YtdipdaajicceoaaAmDef
namespace Go.AM
open Go

inductive Ex where
  | normal
  | exit (id : Nat)
  | ret
  deriving DecidableEq

/-- The first region of a piece of code: its name. -/
def firstRegion : Code → Option Nat
  | .region id _ _ => some id
  | .seq a b => match firstRegion a with
    | some i => some i
    | none => firstRegion b
  | .cond _ a b => match firstRegion a with
    | some i => some i
    | none => firstRegion b
  | .block _ b => firstRegion b
  | .loop b => firstRegion b
  | .scope b => firstRegion b
  | _ => none

def maskFrom (keep : List Nat) : Nat → List V → List V
  | _, [] => []
  | i, v :: r => (if keep.contains i then v else .junk) :: maskFrom keep (i + 1) r

def idsLL : List (List V) → List Nat
  | [] => []
  | l :: r => idsL l ++ idsLL r

/-- What is dead at a loop's head is forgotten. -/
def norm (keep : List Nat) (st : St) : St :=
  let s := { st with slots := maskFrom keep 0 st.slots }
  s.dropL ((s.objs.map (·.1)).filter fun i => !(reach s.objs depth (idsL s.slots ++ idsLL s.outer)).contains i)

def normOf (fc : FC) (b : Code) (st : St) : St := match firstRegion b with
  | some i => match look fc.live i with
    | some keep => if fc.lax = true then { st with slots := maskFrom keep 0 st.slots } else norm keep st
    | none => st
  | none => st

/-- No loop over a function. -/
def noRange : Code → Bool
  | .seq a b => noRange a && noRange b
  | .cond _ a b => noRange a && noRange b
  | .block _ b => noRange b
  | .loop b => noRange b
  | .scope b => noRange b
  | .rangeFunc _ _ _ _ => false
  | _ => true

def setAll : List V → List Nat → List V → List V
  | s, p :: ps, x :: xs => setAll (s.set p x) ps xs
  | s, _, _ => s

/-- What no outer slot leads to is forgotten. -/
def tidy (st : St) : St := norm [] { st with slots := [] }

/-- The rounds of a loop over a function; what the slots are at its beginning lies among the outer ones. -/
def roundsIn (run : Code → St → Option (Ex × St)) (ps : List Nat) (assign body : Code) : List (List V) → St → Option (Ex × St)
  | [], st => some (.normal, tidy st)
  | xs :: r, st => match run assign { tidy st with slots := setAll ((tidy st).outer.headD []) ps xs } with
    | some (.normal, s) => match run body s with
      | some (.normal, s') => roundsIn run ps assign body r s'
      | p => p
    | _ => none

def popped (r : Option (Ex × St)) : Option (Ex × St) := match r with
  | some (e, s) => match s.outer with
    | s0 :: out => some (e, { s with slots := s0, outer := out })
    | [] => none
  | none => none

/-- What is ranged over, as far as it is known. -/
def seqOf (E : Env) (ps : Array Nat) (assign body : Code) (g : V) (st : St) : Option (List (List V)) := match g with
  | .clo f [] cap =>
    if idsL cap = [] ∧ noRange assign = true ∧ noRange body = true then match lend st cap with
      | some as => match E.seq f as with
        | some (k, xss) => if k = ps.size then some xss else none
        | none => none
      | none => none
    else none
  | _ => none

section
variable (E : Env) (O : Orc) (fc : FC) (base : Nat)

/-- An operation's effect where a region draws its order. -/
inductive Eff where
  | put (v : V)
  | new (id : Nat) (ob : Ob) (v : V)
  | wr (id : Nat) (ob : Ob)

def Eff.ap (dst : Option Nat) : Eff → St → St
  | .put v, s => s.put dst v
  | .new id ob v, s => St.put { s with objs := upd s.objs id ob } dst v
  | .wr id ob, s => St.put { s with objs := upd s.objs id ob } dst .und

def Eff.writes : Eff → List Nat
  | .put _ => []
  | .new id _ _ => [id]
  | .wr id _ => [id]

def effVar (id : Nat) (ti : TI) (x : V) (st : St) : Option Eff := match cells? x, look st.objs id with
  | some cs, none => if cs.length = ti.size ∧ 0 < ti.size then some (.new id { es := ti.size, flat := refFree x, t := isNew x, app := false, elems := [x] } (.ptr id 0 0)) else none
  | _, _ => none

def effMake (id : Nat) (ei : TI) (l c : V) (st : St) : Option Eff := match l, c, look st.objs id with
  | .int .i64 n, .int .i64 m, none =>
    if n = m ∧ 0 ≤ n ∧ n ≤ 4294967296 ∧ roomy n.toNat ei.bytes = true ∧ 0 < ei.size ∧ refFree ei.zero = true ∧ isNew ei.zero = true then
      some (.new id { es := ei.size, flat := true, t := true, app := true, elems := List.replicate n.toNat ei.zero } (.own id 0 n.toNat)) else none
  | _, _, _ => none

def effLit (id : Nat) (ei : TI) (n : Nat) (ix : List Nat) (xs : List V) (st : St) : Option Eff :=
  if n = 0 then (if ix = [] ∧ 0 < ei.size then some (.put .emp) else none)
  else match look st.objs id with
    | none => if ix = List.range n ∧ xs.length = n ∧ n * ei.size ≤ 16777216 ∧ 0 < ei.size ∧ n ≤ 16777216 ∧ refFreeL xs = true ∧ sized ei.size xs = true then
        some (.new id { es := ei.size, flat := true, t := isNewL xs, app := true, elems := xs } (.own id 0 n)) else none
    | some _ => none

def effApp (id : Nat) (ei : TI) (x y : V) (st : St) : Option Eff := match x, elemsV st.objs y, look st.objs id with
  | .emp, some (true, t, ys), none => if roomy ys.length ei.bytes = true ∧ ys.length ≤ 4294967296 ∧ sized ei.size ys = true ∧ 0 < ei.size then
      some (.new id { es := ei.size, flat := true, t := t, app := true, elems := ys } (.own id 0 ys.length)) else none
  | _, _, _ => none

def effStore (ti : TI) (p x : V) (st : St) : Option Eff := match p with
  | .ptr id i c => match look st.objs id, cells? x with
    | some ob, some ds => match ob.elems[i]? with
      | some e => match cellsJ ob.es e with
        | some cs => if ds.length = ti.size ∧ c + ti.size ≤ cs.length ∧ 0 < ti.size ∧ junkOk e c ti.size ob.es = true then
            some (.wr id { ob with flat := ob.flat && refFree x, t := ob.t && isNew x, elems := ob.elems.set i (putIn e c ds x) }) else none
        | none => none
      | none => none
    | _, _ => none
  | _ => none

def effCall (dst : Option Nat) (f : V) (args : List V) (st : St) : Option Eff := match f with
  | .clo g first cap => if E.inl g = false ∧ dst.bind (look fc.thaw) = none then match lend st (first ++ args ++ cap) with
      | some as' => match O.call g as' with
        | some r => if refFree r = true ∧ (isNew r = true ∨ idsL (first ++ args ++ cap) = []) then some (.put r) else none
        | none => none
      | none => none
    else none
  | _ => none

def effMem (o : Oper) (st : St) : Option Eff :=
  match o.op with
  | .alloc e => match o.dst, E.ty e with
    | some d, some ti => effVar (nameOf fc base d) ti ti.zero st
    | _, _ => none
  | .box e x => match o.dst, E.ty e with
    | some d, some ti => effVar (nameOf fc base d) ti (st.eval x) st
    | _, _ => none
  | .buildSlice t n parts => match o.dst, sliceOf E t with
    | some d, some ei => effLit (nameOf fc base d) ei n (parts.toList.map (·.1)) (parts.toList.map fun p => st.eval p.2) st
    | _, _ => none
  | .store t a x => match E.ty t with
    | some ti => effStore ti (st.eval a) (st.eval x) st
    | none => none
  | .makeSlice t l c => match o.dst, sliceOf E t with
    | some d, some ei => effMake (nameOf fc base d) ei (st.eval l) (st.eval c) st
    | _, _ => none
  | .call c => match c.callee with
    | .builtin .append => match o.dst, c.argTypes.toList, c.args.toList with
      | some d, [t, t'], [x, y] => if t = t' then match sliceOf E t with
          | some ei => effApp (nameOf fc base d) ei (st.eval x) (st.eval y) st
          | none => none else none
      | _, _, _ => none
    | .value f => effCall E O fc o.dst (st.eval f) (c.args.toList.map st.eval) st
    | _ => none
  | _ => none

def effOf (o : Oper) (st : St) : Option Eff := match evVal E fc o st with
  | some v => some (.put v)
  | none => effMem E O fc base o st

/-- The objects that an operation looks at. -/
def supp (o : Oper) (st : St) : List Nat := match o.op with
  | .load _ x => ids (st.eval x)
  | .indexAddr _ x _ => ids (st.eval x)
  | .slice _ x _ _ _ => ids (st.eval x)
  | .store _ p _ => ids (st.eval p)
  | .alloc _ => (o.dst.map (nameOf fc base)).toList
  | .box _ _ => (o.dst.map (nameOf fc base)).toList
  | .buildSlice _ _ _ => (o.dst.map (nameOf fc base)).toList
  | .makeSlice _ _ _ => (o.dst.map (nameOf fc base)).toList
  | .call c => match c.callee with
    | .builtin .append => (o.dst.map (nameOf fc base)).toList ++ idsL (c.args.toList.map st.eval)
    | .value f => reach st.objs depth (idsL [st.eval f] ++ idsL (c.args.toList.map st.eval))
    | _ => []
  | _ => []

structure Rec where
  i : Nat
  o : Oper
  eff : Eff
  supp : List Nat

/-- The operations that come before each, by the edges that always bind. -/
def deps (all : Array Oper) (i : Nat) : List Nat := match all[i]? with
  | some o => (o.after.toList.filter fun e => Region.binds .any e).map (·.on)
  | none => []

def clo (all : Array Oper) : Nat → List (List Nat)
  | 0 => []
  | n + 1 => clo all n ++ [(List.range n).filter fun k => (deps all n).contains k || (deps all n).any fun d => ((clo all n).getD d []).contains k]

def free (l l' : List Nat) : Bool := l.all fun i => !l'.contains i

/-- Two operations whose order is open do not disturb each other. -/
def calm (all : Array Oper) (x y : Rec) : Bool :=
  x.o.apart all y.o && free x.eff.writes y.supp && free y.eff.writes x.supp && free x.eff.writes y.eff.writes

/-- The operations of a region that draws its order, in the order of the text; what each does is written down. -/
def evD (all : Array Oper) (cl : List (List Nat)) : List (Nat × Oper) → St → List Rec → Option St
  | [], st, _ => some st
  | (i, o) :: r, st, rs => match wantedV all o st with
    | some true => match effOf E O fc base o st with
      | some e =>
        let x : Rec := { i, o, eff := e, supp := supp fc base o st }
        if (deps all i).all (fun d => decide (d < i)) && rs.all (fun y => (cl.getD i []).contains y.i || calm all y x) then evD all cl r (e.ap o.dst st) (rs ++ [x]) else none
      | none => none
    | some false =>
      let x : Rec := { i, o, eff := .put .und, supp := [] }
      if (deps all i).all (fun d => decide (d < i)) && rs.all (fun y => (cl.getD i []).contains y.i || calm all y x) then evD all cl r (st.put o.dst .und) (rs ++ [x]) else none
    | none => none

def numbered {α : Type} : Nat → List α → List (Nat × α)
  | _, [] => []
  | i, x :: r => (i, x) :: numbered (i + 1) r

def evRegion (ops : Array Oper) (draw : Bool) (st : St) : Option St :=
  if draw then evD E O fc base ops (clo ops ops.size) (numbered 0 ops.toList) st [] else evOps E O fc base ops ops.toList st

def ev : Nat → Code → St → Option (Ex × St)
  | 0, _, _ => none
  | n + 1, c, st => match c with
    | .skip => some (.normal, st)
    | .region _ ops draw => match evRegion E O fc base ops draw st with
      | some s => some (.normal, s)
      | none => none
    | .seq a b => match ev n a st with
      | some (.normal, s) => ev n b s
      | r => r
    | .cond c a b => match st.eval c with
      | .bool t => ev n (if t then a else b) st
      | _ => none
    | .block id b => match ev n b st with
      | some (.exit i, s) => if i = id then some (.normal, s) else some (.exit i, s)
      | r => r
    | .loop b => match ev n b (normOf fc b st) with
      | some (.normal, s) => ev n (.loop b) s
      | r => r
    | .rangeFunc g ps assign body => match seqOf E ps assign body (st.eval g) st with
      | some xss => popped (roundsIn (ev n) ps.toList assign body xss { st with outer := st.slots :: st.outer })
      | none => none
    | .exit id => some (.exit id, st)
    | .ret => some (.ret, st)
    | .label _ => some (.normal, st)
    | _ => none
end

def resultV (E : Env) (s : St) : ResultVar → Option V
  | .tmp t => some (s.get t)
  | .cell p t => match E.ty t with
    | some ti => evLoad ti (s.get p) s
    | none => none

def resultsV (E : Env) (fn : Func) (s : St) : Option V := match allM (resultV E s) fn.results.toList with
  | some [v] => some v
  | some vs => some (.tup vs)
  | none => none

/-- A function's body, run in a frame of its own. -/
def evFn (E : Env) (O : Orc) (n base f : Nat) (args : List V) (st : St) : Option (V × St) := match E.fn f with
  | some fn => match fn.body with
    | some c => match ev E O (E.fc f) base n c { st with slots := args ++ List.replicate (fn.ntmps - args.length) .und } with
      | some (.normal, s) | some (.ret, s) => match resultsV E fn s with
        | some r => some (r, s)
        | none => none
      | _ => none
    | none => none
  | none => none

/-- What is known of functions that are not run here: by value, and in the caller's objects. -/
structure Ext where
  call : Nat → List V → Option V
  inl : Nat → Nat → List V → St → Option (V × St)

def orc (E : Env) (X : Ext) : Nat → Orc
  | 0 => { call := X.call, inl := X.inl }
  | n + 1 => {
      call := fun f args => match X.call f args with
        | some r => some r
        | none => match evFn E (orc E X n) n 0 f args { slots := [], outer := [], objs := [] } with
          | some (r, s) => resolve s.objs depth r
          | none => none
      inl := fun base f args st => match X.inl base f args st with
        | some r => some r
        | none => evFn E (orc E X n) n base f args st }
end Go.AM
