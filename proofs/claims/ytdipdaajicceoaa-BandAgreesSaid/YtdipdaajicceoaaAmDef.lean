/-
An abstract machine for the model's code: values without addresses, evaluated by plain functions. Definitions only; that the machine is right is proved in the files that follow.
-/
import Derived.CallsIn
import Derived.OrdersIn
import Derived.Below
import Derived.Laws.AppendOwn
import Derived.Laws.Sem
import Derived.Laws.World
namespace Go.AM

/-- An abstract value. sl: a slice that is only read (t: all of its memory is new); fp: a pointer to cell o of a variable that is only read; own, ptr: into an object of the running call. -/
inductive V where
  | int (k : IntKind) (n : Int)
  | bool (b : Bool)
  | lit (v : Value)
  | und
  | agg (cs : List V)
  | tup (cs : List V)
  | sl (t : Bool) (vs : List V)
  | emp
  | fp (t : Bool) (cs : List V) (o : Nat)
  | own (id off len : Nat)
  | ptr (id i o : Nat)
  | clo (f : Nat) (first captured : List V)
  | junk
  deriving Inhabited

/-- An object of the running call: its elements have es cells each; flat: no element refers to an object; t: all that the elements read is new; app: it may be appended to. -/
structure Ob where
  es : Nat
  flat : Bool
  t : Bool
  app : Bool
  elems : List V
  deriving Inhabited

structure St where
  slots : List V
  outer : List (List V)
  objs : List (Nat × Ob)

inductive Ty where
  | int (k : IntKind) | bool | str | slice (elem : Nat) | struct (fields : List (Nat × Nat)) | array (n elem : Nat) | other
  deriving DecidableEq

/-- What is known of a type: its kind, its cells, its bytes, its zero value; eq: a struct whose fields are all compared, and plainly. -/
structure TI where
  ty : Ty
  size : Nat
  bytes : Nat
  zero : V
  eq : Bool := false

/-- What is chosen for a function: the live slots at a loop's head (by the first region of its body), other names for new objects, slots whose nil is an object, calls whose result is written to; lax: no object is forgotten at a loop's head. -/
structure FC where
  live : List (Nat × List Nat) := []
  alias : List (Nat × Nat) := []
  born : List Nat := []
  thaw : List (Nat × Nat × Nat) := []
  lax : Bool := false

/-- seq: what a function that is ranged over yields, in order, with the number of its loop variables. -/
structure Env where
  ty : Nat → Option TI
  fn : Nat → Option Func
  fc : Nat → FC
  inl : Nat → Bool
  seq : Nat → List V → Option (Nat × List (List V)) := fun _ _ => none

structure Orc where
  call : Nat → List V → Option V
  inl : Nat → Nat → List V → St → Option (V × St)

def look {α : Type} : List (Nat × α) → Nat → Option α
  | [], _ => none
  | (j, x) :: r, i => if j = i then some x else look r i

def upd {α : Type} : List (Nat × α) → Nat → α → List (Nat × α)
  | [], i, y => [(i, y)]
  | (j, x) :: r, i, y => if i = j then (j, y) :: r else if i < j then (i, y) :: (j, x) :: r else (j, x) :: upd r i y

def del {α : Type} : List (Nat × α) → Nat → List (Nat × α)
  | [], _ => []
  | (j, x) :: r, i => if j = i then del r i else (j, x) :: del r i

def allM {α β : Type} (f : α → Option β) : List α → Option (List β)
  | [] => some []
  | a :: r => match f a with
    | some b => match allM f r with
      | some bs => some (b :: bs)
      | none => none
    | none => none

def cellsOf : V → List V
  | .agg cs => cs
  | v => [v]

/-- The cells of a value that can be stored. -/
def cells? : V → Option (List V)
  | .agg cs => some cs
  | .und => none
  | .tup _ => none
  | .junk => none
  | v => some [v]

mutual
/-- No reference to object id is left. -/
def kill (id : Nat) : V → V
  | .agg cs => .agg (killL id cs)
  | .tup cs => .tup (killL id cs)
  | .clo f a b => .clo f (killL id a) (killL id b)
  | .own j o l => if j = id then .junk else .own j o l
  | .ptr j i o => if j = id then .junk else .ptr j i o
  | v => v
def killL (id : Nat) : List V → List V
  | [] => []
  | v :: r => kill id v :: killL id r
end

mutual
def retag (t : Bool) : V → V
  | .agg cs => .agg (retagL t cs)
  | .tup cs => .tup (retagL t cs)
  | .clo f a b => .clo f (retagL t a) (retagL t b)
  | .sl _ vs => .sl t vs
  | .fp _ cs o => .fp t cs o
  | v => v
def retagL (t : Bool) : List V → List V
  | [] => []
  | v :: r => retag t v :: retagL t r
end

mutual
def refFree : V → Bool
  | .agg cs => refFreeL cs
  | .tup cs => refFreeL cs
  | .clo _ a b => refFreeL a && refFreeL b
  | .own .. => false
  | .ptr .. => false
  | _ => true
def refFreeL : List V → Bool
  | [] => true
  | v :: r => refFree v && refFreeL r
end

mutual
def isNew : V → Bool
  | .agg cs => isNewL cs
  | .tup cs => isNewL cs
  | .clo _ a b => isNewL a && isNewL b
  | .sl t _ => t
  | .fp t _ _ => t
  | _ => true
def isNewL : List V → Bool
  | [] => true
  | v :: r => isNew v && isNewL r
end

mutual
/-- No slice, no pointer: nothing of memory. -/
def plain : V → Bool
  | .agg cs => plainL cs
  | .tup cs => plainL cs
  | .int .. => true
  | .bool _ => true
  | .lit _ => true
  | .junk => true
  | _ => false
def plainL : List V → Bool
  | [] => true
  | v :: r => plain v && plainL r
end

mutual
/-- The objects that a value names. -/
def ids : V → List Nat
  | .agg cs => idsL cs
  | .tup cs => idsL cs
  | .clo _ a b => idsL a ++ idsL b
  | .own j _ _ => [j]
  | .ptr j _ _ => [j]
  | _ => []
def idsL : List V → List Nat
  | [] => []
  | v :: r => ids v ++ idsL r
end

def killOb (id : Nat) (o : Ob) : Ob := if o.flat then o else { o with elems := killL id o.elems }

def killObs (id : Nat) : List (Nat × Ob) → List (Nat × Ob)
  | [] => []
  | (j, o) :: r => if j = id then killObs id r else (j, killOb id o) :: killObs id r

def killAll (id : Nat) : List (List V) → List (List V)
  | [] => []
  | l :: r => killL id l :: killAll id r

/-- Object id is forgotten. -/
def St.drop (st : St) (id : Nat) : St := { slots := killL id st.slots, outer := killAll id st.outer, objs := killObs id st.objs }

def St.dropL (st : St) : List Nat → St
  | [] => st
  | i :: r => (st.drop i).dropL r

/-- The objects reachable from a list of them. -/
def reach (objs : List (Nat × Ob)) : Nat → List Nat → List Nat
  | 0, l => l
  | n + 1, l => l ++ reach objs n (l.flatMap fun i => match look objs i with
    | some o => if o.flat then [] else idsL o.elems
    | none => [])

/-- A value as it can be read, without objects. -/
def resolve (objs : List (Nat × Ob)) : Nat → V → Option V
  | 0, _ => none
  | n + 1, v => match v with
    | .int .. | .bool _ | .lit _ | .sl .. | .fp .. => some v
    | .emp => some (.sl true [])
    | .und | .junk => none
    | .agg cs => (allM (resolve objs n) cs).map .agg
    | .tup cs => (allM (resolve objs n) cs).map .tup
    | .clo f a b => match allM (resolve objs n) a, allM (resolve objs n) b with
      | some a', some b' => some (.clo f a' b')
      | _, _ => none
    | .own id off len => match look objs id with
      | some o =>
        if off + len ≤ o.elems.length then
          if o.flat then some (.sl o.t ((o.elems.drop off).take len))
          else match allM (resolve objs n) (retagL o.t ((o.elems.drop off).take len)) with
            | some es => some (.sl (isNewL es) es)
            | none => none
        else none
      | none => none
    | .ptr id i c => match look objs id with
      | some o => match o.elems[i]? with
        | some e => match cells? e with
          | some cs => if o.flat then some (.fp o.t cs c)
            else match allM (resolve objs n) (retagL o.t cs) with
              | some es => some (.fp (isNewL es) es c)
              | none => none
          | none => none
        | none => none
      | none => none

def depth : Nat := 6

/-- A test whose answer is wanted here. -/
def ask (b : Bool) : Option Bool := some b

def pickV : Option Bool → V → V → Option V
  | some true, x, _ => some x
  | some false, _, y => some y
  | none, _, _ => none

def St.get (st : St) (t : Nat) : V := st.slots.getD t .junk
def St.put (st : St) (dst : Option Nat) (v : V) : St :=
  match dst with
  | some d => { st with slots := st.slots.set d v }
  | none => st

/-- A constant. -/
def constV : Value → V
  | .int k n => .int k n
  | .bool b => .bool b
  | .slice none 0 0 => .emp
  | .string s => .lit (.string s)
  | .pointer none => .lit (.pointer none)
  | .map none => .lit (.map none)
  | .nilFunc => .lit .nilFunc
  | .nilIface => .lit .nilIface
  | _ => .junk

def St.eval (st : St) : Operand → V
  | .tmp t => st.get t
  | .const v => constV v
  | .func f => .clo f [] []
  | .global _ => .junk

/-- A new object in place of whatever had its name. -/
def St.alloc (st : St) (id : Nat) (o : Ob) : St :=
  let s := st.drop id
  { s with objs := upd s.objs id o }

/-- Cells off .. off + n - 1 as a value of a type. -/
def part (agg : Bool) (n : Nat) (cs : List V) (off : Nat) : Option V :=
  if agg then (if off + n ≤ cs.length then some (.agg ((cs.drop off).take n)) else none)
  else cs[off]?

def Ty.isAgg : Ty → Bool
  | .struct _ | .array _ _ => true
  | _ => false

def splice (cs : List V) (off : Nat) (ds : List V) : List V := cs.take off ++ ds ++ cs.drop (off + ds.length)

def fillV (place : Nat → Option (Nat × Nat)) (cs : List V) : List (Nat × V) → Option (List V)
  | [] => some cs
  | (i, v) :: r => match place i with
    | some (off, n) => match cells? v with
      | some ds => if ds.length = n ∧ off + n ≤ cs.length then fillV place (splice cs off ds) r else none
      | none => none
    | none => none

def bitsI (op : BinOp) (k : IntKind) (x y : Int) : Int :=
  let a := BitVec.ofInt k.bits x
  let b := BitVec.ofInt k.bits y
  match op with
  | .and => k.wrap (a &&& b).toNat
  | .or => k.wrap (a ||| b).toNat
  | .xor => k.wrap (a ^^^ b).toNat
  | _ => k.wrap (a &&& ~~~b).toNat

def evBin (op : BinOp) (x y : V) : Option V :=
  match op, x, y with
  | .add, .int k a, .int k' b => if k = k' then some (.int k (k.wrap (a + b))) else none
  | .sub, .int k a, .int k' b => if k = k' then some (.int k (k.wrap (a - b))) else none
  | .mul, .int k a, .int k' b => if k = k' then some (.int k (k.wrap (a * b))) else none
  | .quo, .int k a, .int k' b => if k = k' ∧ b ≠ 0 then some (.int k (k.wrap (a.tdiv b))) else none
  | .rem, .int k a, .int k' b => if k = k' ∧ b ≠ 0 then some (.int k (a.tmod b)) else none
  | .and, .int k a, .int k' b => if k = k' then some (.int k (bitsI .and k a b)) else none
  | .or, .int k a, .int k' b => if k = k' then some (.int k (bitsI .or k a b)) else none
  | .xor, .int k a, .int k' b => if k = k' then some (.int k (bitsI .xor k a b)) else none
  | .andNot, .int k a, .int k' b => if k = k' then some (.int k (bitsI .andNot k a b)) else none
  | .shl, .int k a, .int _ b => if 0 ≤ b then some (.int k (k.wrap (a * 2 ^ (min b.toNat k.bits)))) else none
  | .shr, .int k a, .int _ b => if 0 ≤ b then some (.int k (a.fdiv (2 ^ (min b.toNat k.bits)))) else none
  | .lss, .int k a, .int k' b => if k = k' then some (.bool (decide (a < b))) else none
  | .leq, .int k a, .int k' b => if k = k' then some (.bool (decide (a ≤ b))) else none
  | .gtr, .int k a, .int k' b => if k = k' then some (.bool (decide (b < a))) else none
  | .geq, .int k a, .int k' b => if k = k' then some (.bool (decide (b ≤ a))) else none
  | .eql, .int k a, .int k' b => if k = k' then some (.bool (a == b)) else none
  | .neq, .int k a, .int k' b => if k = k' then some (.bool (a != b)) else none
  | _, _, _ => none

def evUn (op : UnOp) (x : V) : Option V :=
  match op, x with
  | .neg, .int k n => some (.int k (k.wrap (0 - n)))
  | .not, .bool b => some (.bool (!b))
  | _, _ => none

def minV (big : Bool) : V → List V → Option V
  | x, [] => some x
  | .int k a, .int k' b :: r => if k = k' then minV big (.int k (if big then (if a < b then b else a) else (if b < a then b else a))) r else none
  | _, _ => none

def lenV : V → Option Nat
  | .sl _ vs => some vs.length
  | .own _ _ l => some l
  | .emp => some 0
  | _ => none

/-- The elements of a slice: whether they name no object, whether they are new, and they. -/
def elemsV (objs : List (Nat × Ob)) : V → Option (Bool × Bool × List V)
  | .emp => some (true, true, [])
  | .sl t vs => some (true, t, vs)
  | .own id off len => match look objs id with
    | some o => if off + len ≤ o.elems.length then some (o.flat, o.t, (o.elems.drop off).take len) else none
    | none => none
  | _ => none

/-- Elements that name no object: those that do are turned into what they read, and their objects are forgotten. -/
def freeze (st : St) (flat t : Bool) (vs : List V) : Option (St × Bool × List V) :=
  if flat then some (st, t, vs)
  else match allM (resolve st.objs depth) (retagL t vs) with
    | some es => some (st.dropL (reach st.objs depth (idsL vs)), isNewL es, es)
    | none => none

def roomy (n bytes : Nat) : Bool := n * bytes ≤ 140737488355328

def nameOf (fc : FC) (base d : Nat) : Nat := base + (look fc.alias d).getD d

/-- The element type of a slice type. -/
def sliceOf (E : Env) (t : Nat) : Option TI := match E.ty t with
  | some ti => match ti.ty with
    | .slice e => E.ty e
    | _ => none
  | none => none

def arrayOf (E : Env) (t : Nat) : Option (Nat × TI) := match E.ty t with
  | some ti => match ti.ty with
    | .array n e => (E.ty e).map fun x => (n, x)
    | _ => none
  | none => none

def fieldsOf (E : Env) (t : Nat) : Option (List (Nat × Nat)) := match E.ty t with
  | some ti => match ti.ty with
    | .struct fs => some fs
    | _ => none
  | none => none

/-- The fields of two structs are compared, each by f. -/
def eqG (E : Env) (f : Nat → V → V → Option Bool) : List (Nat × Nat) → List V → List V → Option Bool
  | [], _, _ => some true
  | (off, ft) :: r, cs, ds => match E.ty ft with
    | some fi => match part fi.ty.isAgg fi.size cs off, part fi.ty.isAgg fi.size ds off with
      | some x, some y => match f ft x y, eqG E f r cs ds with
        | some b, some c => some (b && c)
        | _, _ => none
      | _, _ => none
    | none => none

/-- Two values of a type are compared: integers, bools, and structs of these. -/
def eqT (E : Env) : Nat → Nat → V → V → Option Bool
  | 0, _, _, _ => none
  | n + 1, t, x, y => match E.ty t with
    | some ti => match ti.ty, x, y with
      | .int _, .int k a, .int k' b => if k = k' then some (a == b) else none
      | .bool, .bool a, .bool b => some (a == b)
      | .struct fs, .agg cs, .agg ds => if ti.eq = true then eqG E (eqT E n) fs cs ds else none
      | _, _, _ => none
    | none => none

def eqF (E : Env) (n : Nat) (fs : List (Nat × Nat)) (cs ds : List V) : Option Bool := eqG E (eqT E n) fs cs ds

def evCmp (E : Env) (op : BinOp) (t : Nat) (x y : V) : Option V := match op with
  | .eql => (eqT E 8 t x y).map .bool
  | .neq => (eqT E 8 t x y).map fun b => .bool (!b)
  | _ => none

def placeOf (E : Env) (p : Nat × Nat) : Option (Nat × Nat) := match E.ty p.2 with
  | some fi => some (p.1, fi.size)
  | none => none

/-- Every one of these has n cells. -/
def sized (n : Nat) : List V → Bool
  | [] => true
  | v :: r => (match cells? v with | some cs => cs.length == n | none => false) && sized n r

def evVar (id d : Nat) (ti : TI) (x : V) (st : St) : Option St := match cells? x with
  | some cs => if cs.length = ti.size ∧ 0 < ti.size then
      some ((st.alloc id { es := ti.size, flat := refFree (kill id x), t := isNew (kill id x), app := false, elems := [kill id x] }).put (some d) (.ptr id 0 0)) else none
  | none => none

def evNil (id d : Nat) (ei : TI) (st : St) : Option St :=
  if 0 < ei.size then some ((st.alloc id { es := ei.size, flat := true, t := true, app := true, elems := [] }).put (some d) (.own id 0 0)) else none

def evMake (id d : Nat) (ei : TI) (l c : V) (st : St) : Option St := match l, c with
  | .int .i64 n, .int .i64 m =>
    if n = m ∧ 0 ≤ n ∧ n ≤ 4294967296 ∧ roomy n.toNat ei.bytes = true ∧ 0 < ei.size ∧ refFree ei.zero = true ∧ isNew ei.zero = true then
      some ((st.alloc id { es := ei.size, flat := true, t := true, app := true, elems := List.replicate n.toNat ei.zero }).put (some d) (.own id 0 n.toNat))
    else none
  | _, _ => none

def evLit (id d : Nat) (ei : TI) (n : Nat) (ix : List Nat) (xs : List V) (st : St) : Option St :=
  if n = 0 then (if ix = [] ∧ 0 < ei.size then some (st.put (some d) .emp) else none)
  else if ix = List.range n ∧ xs.length = n ∧ n * ei.size ≤ 16777216 ∧ 0 < ei.size ∧ n ≤ 16777216 then
    match freeze st (refFreeL xs) (isNewL xs) xs with
    | some (s, t, vs) => if sized ei.size vs = true then
        some ((s.alloc id { es := ei.size, flat := true, t := t, app := true, elems := vs }).put (some d) (.own id 0 n)) else none
    | none => none
  else none

def evLoad (ti : TI) (p : V) (st : St) : Option V := match p with
  | .ptr id i c => match look st.objs id with
    | some ob => match ob.elems[i]? with
      | some e => match cells? e with
        | some cs => match part ti.ty.isAgg ti.size cs c with
          | some v => some (retag ob.t v)
          | none => none
        | none => none
      | none => none
    | none => none
  | .fp t cs c => match part ti.ty.isAgg ti.size cs c with
    | some v => some (retag t v)
    | none => none
  | _ => none

def putIn (e : V) (c : Nat) (ds : List V) (x : V) : V := match e with
  | .agg cs => .agg (splice cs c ds)
  | _ => x

/-- The cells of an element that is written; what is forgotten is written whole. -/
def cellsJ (es : Nat) : V → Option (List V)
  | .junk => some (List.replicate es .junk)
  | v => cells? v

def junkOk (e : V) (c n es : Nat) : Bool := match e with
  | .junk => c == 0 && n == es
  | _ => true

def evStore (ti : TI) (p x : V) (st : St) : Option St := match p with
  | .ptr id i c => match look st.objs id, cells? x with
    | some ob, some ds => match ob.elems[i]? with
      | some e => match cellsJ ob.es e with
        | some cs => if ds.length = ti.size ∧ c + ti.size ≤ cs.length ∧ 0 < ti.size ∧ junkOk e c ti.size ob.es = true then
            some { st with objs := upd st.objs id { ob with flat := ob.flat && refFree x, t := ob.t && isNew x, elems := ob.elems.set i (putIn e c ds x) } }
          else none
        | none => none
      | none => none
    | _, _ => none
  | _ => none

def evNilCheck : V → Option V
  | .ptr id i c => some (.ptr id i c)
  | .fp t cs c => some (.fp t cs c)
  | .clo f a b => some (.clo f a b)
  | _ => none

def evSlice (ei : TI) (x : V) (lo hi : Option (Option Int)) (mx : Option V) (st : St) : Option V := match lenV x with
  | some n => match lo, hi with
    | some lo, some hi => match mx with
      | none =>
        if 0 ≤ lo.getD 0 ∧ lo.getD 0 ≤ hi.getD n ∧ hi.getD n ≤ n then
          match x with
          | .emp => some .emp
          | .sl t vs => if sized ei.size vs = true then some (.sl t ((vs.drop (lo.getD 0).toNat).take (hi.getD n - lo.getD 0).toNat)) else none
          | .own id off _ => match look st.objs id with
            | some ob => if ob.es = ei.size then some (.own id (off + (lo.getD 0).toNat) (hi.getD n - lo.getD 0).toNat) else none
            | none => none
          | _ => none
        else none
      | some (.int _ 0) => if lo.getD 0 = 0 ∧ hi = some 0 then some .emp else none
      | some _ => none
    | _, _ => none
  | none => none

def evFieldAddr (E : Env) (fs : List (Nat × Nat)) (f : Nat) (x : V) : Option V := match fs[f]? with
  | some (off, ft) => match E.ty ft with
    | some fi => if 0 < fi.size then match x with
        | .ptr id i c => some (.ptr id i (c + off))
        | .fp t cs c => some (.fp t cs (c + off))
        | _ => none
      else none
    | none => none
  | none => none

def evField (E : Env) (fs : List (Nat × Nat)) (f : Nat) (x : V) : Option V := match fs[f]?, x with
  | some (off, ft), .agg cs => match E.ty ft with
    | some fi => part fi.ty.isAgg fi.size cs off
    | none => none
  | _, _ => none

def evIndexS (ei : TI) (x : V) (i : Int) (st : St) : Option V := match x with
  | .sl t vs => if 0 ≤ i then match vs[i.toNat]? with
      | some v => match cells? v with
        | some cs => if cs.length = ei.size then some (.fp t cs 0) else none
        | none => none
      | none => none else none
  | .own id off len => match look st.objs id with
    | some ob => if 0 ≤ i ∧ i < len ∧ ob.es = ei.size then some (.ptr id (off + i.toNat) 0) else none
    | none => none
  | _ => none

def evIndexA (n : Nat) (ei : TI) (x : V) (i : Int) : Option V :=
  if 0 ≤ i ∧ i < n then match x with
    | .ptr id j c => some (.ptr id j (c + i.toNat * ei.size))
    | .fp t cs c => some (.fp t cs (c + i.toNat * ei.size))
    | _ => none
  else none

def evIndexV (n : Nat) (ei : TI) (x : V) (i : Int) : Option V := match x with
  | .agg cs => if 0 ≤ i ∧ i < n then part ei.ty.isAgg ei.size cs (i.toNat * ei.size) else none
  | _ => none

def evExtract (x : V) (i : Nat) : Option V := match x with
  | .tup cs => cs[i]?
  | _ => none

/-- What is appended to: its object, if any, whether it reads new memory alone, its elements. -/
def onto (ei : TI) (x : V) (st : St) : Option (Option Nat × Bool × List V) := match x with
  | .emp => some (none, true, [])
  | .own id off len => match look st.objs id with
    | some o => if o.app = true ∧ o.flat = true ∧ off = 0 ∧ len = o.elems.length ∧ o.es = ei.size then some (some id, o.t, o.elems) else none
    | none => none
  | _ => none

def dropO (st : St) : Option Nat → St
  | none => st
  | some id => st.drop id

def evAppend (id d : Nat) (ei : TI) (x y : V) (st : St) : Option St := match elemsV st.objs y with
  | some (fl, t', ys) => match freeze st fl t' ys with
    | some (s, t1, ns) => match onto ei x s with
      | some (i, t, old) =>
        if roomy (old.length + ns.length) ei.bytes = true ∧ old.length + ns.length ≤ 4294967296 ∧ sized ei.size ns = true ∧ 0 < ei.size then
          some (((dropO s i).alloc id { es := ei.size, flat := true, t := t && t1, app := true, elems := old ++ ns }).put (some d) (.own id 0 (old.length + ns.length)))
        else none
      | none => none
    | none => none
  | none => none

section
variable (E : Env) (O : Orc) (fc : FC) (base : Nat)

/-- What a call's arguments read as: objects are lent. -/
def lend (st : St) (args : List V) : Option (List V) := (allM (resolve st.objs depth) args).map (retagL false)

/-- A result that is written to later becomes an object. -/
def thawed (d : Nat) (k es : Nat) (r : V) (st : St) : Option St :=
  match r with
  | .sl true vs => if refFreeL vs ∧ plainL vs ∧ sized es vs ∧ 0 < es then
      some ((st.alloc (nameOf fc base d) { es := es, flat := true, t := true, app := false, elems := vs }).put (some d) (.own (nameOf fc base d) 0 vs.length)) else none
  | .tup cs => match cs[k]? with
    | some (.sl true vs) =>
      if refFreeL vs ∧ plainL vs ∧ sized es vs ∧ 0 < es ∧ plainL (cs.set k .junk) then
        some ((st.alloc (nameOf fc base d) { es := es, flat := true, t := true, app := false, elems := vs }).put (some d) (.tup (cs.set k (.own (nameOf fc base d) 0 vs.length))))
      else none
    | _ => none
  | _ => none

def evCall (dst : Option Nat) (f : V) (args : List V) (st : St) : Option St :=
  match f with
  | .clo g first cap =>
    let as := first ++ args ++ cap
    if E.inl g then
      match O.inl (base + 1000) g as { st with slots := [], outer := st.slots :: st.outer } with
      | some (r, s) => match s.outer with
        | sl :: out => some (St.put { s with slots := sl, outer := out } dst r)
        | [] => none
      | none => none
    else match lend st as with
      | some as' => match O.call g as' with
        | some r => if refFree r then
            let s := if isNew r then st else st.dropL (reach st.objs depth (idsL as))
            match dst.bind (look fc.thaw) with
            | some (k, es) => match dst with
              | some d => if isNew r then thawed fc base d k es r s else none
              | none => none
            | none => some (s.put dst r)
          else none
        | none => none
      | none => none
  | _ => none

def isNilSlice : Operand → Bool
  | .const (.slice none 0 0) => true
  | _ => false

def optInt (st : St) : Option Operand → Option (Option Int)
  | none => some none
  | some y => match st.eval y with
    | .int _ n => some (some n)
    | _ => none

/-- The value of an operation that lays no object and writes none. -/
def evVal (o : Oper) (st : St) : Option V :=
  match o.op with
  | .move x => some (st.eval x)
  | .assign x => match o.dst with
    | some d => if fc.born.contains d && isNilSlice x then none else some (st.eval x)
    | none => none
  | .pick c a b => match st.eval c with
    | .bool b' => pickV (ask b') (st.eval a) (st.eval b)
    | _ => none
  | .build t parts => match E.ty t, fieldsOf E t with
    | some ti, some fs => match cells? ti.zero, allM (placeOf E) fs with
      | some zs, some ps => (fillV (fun i => ps[i]?) zs (parts.toList.map fun p => (p.1, st.eval p.2))).map .agg
      | _, _ => none
    | _, _ => none
  | .load t a => match E.ty t with
    | some ti => evLoad ti (st.eval a) st
    | none => none
  | .nilCheck x => evNilCheck (st.eval x)
  | .binOp op t x y _ => match st.eval x with
    | .int k n => evBin op (.int k n) (st.eval y)
    | v => evCmp E op t v (st.eval y)
  | .unOp op _ x => evUn op (st.eval x)
  | .convert s d x => match E.ty s, E.ty d with
    | some _, some ti => match ti.ty, st.eval x with
      | .int k, .int _ n => some (.int k (k.wrap n))
      | _, _ => none
    | _, _ => none
  | .makeFunc fn first cap => match fn with
    | .func f => some (.clo f (first.toList.map st.eval) (cap.toList.map st.eval))
    | _ => none
  | .slice t x lo hi mx => match sliceOf E t with
    | some ei => evSlice ei (st.eval x) (optInt st lo) (optInt st hi) (mx.map st.eval) st
    | none => none
  | .fieldAddr s x f => match fieldsOf E s with
    | some fs => evFieldAddr E fs f (st.eval x)
    | none => none
  | .field s x f => match fieldsOf E s with
    | some fs => evField E fs f (st.eval x)
    | none => none
  | .indexAddr t x ix => match st.eval ix with
    | .int _ i => match sliceOf E t with
      | some ei => evIndexS ei (st.eval x) i st
      | none => match arrayOf E t with
        | some (n, ei) => evIndexA n ei (st.eval x) i
        | none => none
    | _ => none
  | .index t x ix => match st.eval ix, arrayOf E t with
    | .int _ i, some (n, ei) => evIndexV n ei (st.eval x) i
    | _, _ => none
  | .extract x ix => evExtract (st.eval x) ix
  | .call c => match c.callee with
    | .builtin .len => match c.argTypes.toList, c.args.toList with
      | [t], [x] => match sliceOf E t, lenV (st.eval x) with
        | some _, some n => some (.int .i64 n)
        | _, _ => none
      | _, _ => none
    | .builtin .min => match c.args.toList with
      | x :: r => minV false (st.eval x) (r.map st.eval)
      | [] => none
    | .builtin .max => match c.args.toList with
      | x :: r => minV true (st.eval x) (r.map st.eval)
      | [] => none
    | _ => none
  | _ => none

/-- An operation that lays an object, or writes one. -/
def evMem (o : Oper) (st : St) : Option St :=
  match o.op with
  | .assign x => match o.dst with
    | some d => if fc.born.contains d && isNilSlice x then (match sliceOf E o.type with
        | some ei => evNil (nameOf fc base d) d ei st
        | none => none) else none
    | none => none
  | .alloc e => match o.dst, E.ty e with
    | some d, some ti => evVar (nameOf fc base d) d ti ti.zero st
    | _, _ => none
  | .box e x => match o.dst, E.ty e with
    | some d, some ti => evVar (nameOf fc base d) d ti (st.eval x) st
    | _, _ => none
  | .buildSlice t n parts => match o.dst, sliceOf E t with
    | some d, some ei => evLit (nameOf fc base d) d ei n (parts.toList.map (·.1)) (parts.toList.map fun p => st.eval p.2) st
    | _, _ => none
  | .store t a x => match E.ty t with
    | some ti => (evStore ti (st.eval a) (st.eval x) st).map fun s => s.put o.dst .und
    | none => none
  | .makeSlice t l c => match o.dst, sliceOf E t with
    | some d, some ei => evMake (nameOf fc base d) d ei (st.eval l) (st.eval c) st
    | _, _ => none
  | .call c => match c.callee with
    | .builtin .append => match o.dst, c.argTypes.toList, c.args.toList with
      | some d, [t, t'], [x, y] => if t = t' then match sliceOf E t with
          | some ei => evAppend (nameOf fc base d) d ei (st.eval x) (st.eval y) st
          | none => none else none
      | _, _, _ => none
    | _ => none
  | _ => none

/-- One operation that is no call of a function. -/
def evPlain (o : Oper) (st : St) : Option St := match evVal E fc o st with
  | some v => some (st.put o.dst v)
  | none => evMem E fc base o st

def evOp (o : Oper) (st : St) : Option St :=
  match o.op with
  | .call c => match c.callee with
    | .value f => evCall E O fc base o.dst (st.eval f) (c.args.toList.map st.eval) st
    | _ => evPlain E fc base o st
  | _ => evPlain E fc base o st

def wantedV (all : Array Oper) (o : Oper) (st : St) : Option Bool :=
  match o.guard with
  | none => some true
  | some (j, b) => match (all[j]?).bind (·.dst) with
    | some d => match st.get d with
      | .bool b' => ask (b' == b)
      | .und => some false
      | _ => none
    | none => none

def evOps (all : Array Oper) : List Oper → St → Option St
  | [], st => some st
  | o :: r, st => match wantedV all o st with
    | some true => match evOp E O fc base o st with
      | some s => evOps all r s
      | none => none
    | some false => evOps all r (st.put o.dst .und)
    | none => none

end
end Go.AM
