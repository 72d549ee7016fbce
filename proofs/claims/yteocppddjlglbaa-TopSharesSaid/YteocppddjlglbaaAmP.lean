/- A part of the proof: the texts AmDef, AmCode, AmRep, AmSim, AmOpsA, AmOpsB, AmRes, AmOpsC, AmOpsD, AmOpsE, AmOpsF, one after another. No condition. -/
import Derived.CallsIn
import Derived.OrdersIn
import Derived.Below
import Derived.Laws.AppendOwn
import Derived.Laws.Sem
import Derived.Laws.World
import Derived.RangeFuncOwn
import Derived.Laws.MakeOwn
import Derived.Laws.Entries
import Derived.Laws.CopyRow
import Derived.Laws.NewBlocks
set_option linter.unusedVariables false
set_option linter.unusedSimpArgs false

section
/-
An abstract machine for the model's code: values without addresses, evaluated by plain functions. Definitions only; that the machine is right is proved in the files that follow.
-/
namespace Go.AM

inductive V where
  | int (k : IntKind) (n : Int)
  | bool (b : Bool)
  | lit (v : Value)
  | und
  | agg (cs : List V)
  | tup (cs : List V)
  | sl (t : Bool) (vs : List V)
  | emp
  | full (t : Bool) (vs : List V)
  | fp (t : Bool) (cs : List V) (o : Nat)
  | own (id off len : Nat)
  | pre (id off len room : Nat)
  | ptr (id i o : Nat)
  | mapr (id : Nat)
  | clo (f : Nat) (first captured : List V)
  | junk
  deriving Inhabited

structure Ob where
  es : Nat
  flat : Bool
  t : Bool
  app : Bool
  elems : List V
  deriving Inhabited

structure St where
  slots : List V
  outer : List (List V)
  objs : List (Nat × Ob)

inductive Ty where
  | int (k : IntKind) | bool | str | slice (elem : Nat) | struct (fields : List (Nat × Nat)) | array (n elem : Nat) | map (key elem : Nat) | other
  deriving DecidableEq

structure TI where
  ty : Ty
  size : Nat
  bytes : Nat
  zero : V
  eq : Bool := false

structure FC where
  live : List (Nat × List Nat) := []
  alias : List (Nat × Nat) := []
  born : List Nat := []
  thaw : List (Nat × Nat × Nat) := []
  lax : Bool := false
  bar : Bool := false
  frame : Bool := false
  lead : Bool := false
  pres : List Nat := []
  fresh : Bool := false
  tew : Bool := false
  stiff : List (Nat × Nat) := []

structure Env where
  ty : Nat → Option TI
  fn : Nat → Option Func
  fc : Nat → FC
  inl : Nat → Bool
  seq : Nat → List V → Option (Nat × List (List V)) := fun _ _ => none

structure Orc where
  call : Nat → List V → Option V
  inl : Nat → Nat → List V → St → Option (V × St)

def look {α : Type} : List (Nat × α) → Nat → Option α
  | [], _ => none
  | (j, x) :: r, i => if j = i then some x else look r i

def upd {α : Type} : List (Nat × α) → Nat → α → List (Nat × α)
  | [], i, y => [(i, y)]
  | (j, x) :: r, i, y => if i = j then (j, y) :: r else if i < j then (i, y) :: (j, x) :: r else (j, x) :: upd r i y

def del {α : Type} : List (Nat × α) → Nat → List (Nat × α)
  | [], _ => []
  | (j, x) :: r, i => if j = i then del r i else (j, x) :: del r i

def allM {α β : Type} (f : α → Option β) : List α → Option (List β)
  | [] => some []
  | a :: r => match f a with
    | some b => match allM f r with
      | some bs => some (b :: bs)
      | none => none
    | none => none

def cellsOf : V → List V
  | .agg cs => cs
  | v => [v]

def cells? : V → Option (List V)
  | .agg cs => some cs
  | .und => none
  | .tup _ => none
  | .junk => none
  | v => some [v]

mutual
def kill (id : Nat) : V → V
  | .agg cs => .agg (killL id cs)
  | .tup cs => .tup (killL id cs)
  | .clo f a b => .clo f (killL id a) (killL id b)
  | .own j o l => if j = id then .junk else .own j o l
  | .pre j o l r => if j = id then .junk else .pre j o l r
  | .ptr j i o => if j = id then .junk else .ptr j i o
  | .mapr j => if j = id then .junk else .mapr j
  | v => v
def killL (id : Nat) : List V → List V
  | [] => []
  | v :: r => kill id v :: killL id r
end

mutual
def retag (t : Bool) : V → V
  | .agg cs => .agg (xU t cs)
  | .tup cs => .tup (xU t cs)
  | .clo f a b => .clo f (xU t a) (xU t b)
  | .sl _ vs => .sl t vs
  | .full _ vs => .full t vs
  | .fp _ cs o => .fp t cs o
  | v => v
def xU (t : Bool) : List V → List V
  | [] => []
  | v :: r => retag t v :: xU t r
end

mutual
def refFree : V → Bool
  | .agg cs => xS cs
  | .tup cs => xS cs
  | .clo _ a b => xS a && xS b
  | .own .. => false
  | .pre .. => false
  | .ptr .. => false
  | .mapr _ => false
  | _ => true
def xS : List V → Bool
  | [] => true
  | v :: r => refFree v && xS r
end

mutual
def isNew : V → Bool
  | .agg cs => xT cs
  | .tup cs => xT cs
  | .clo _ a b => xT a && xT b
  | .sl t _ => t
  | .full t _ => t
  | .fp t _ _ => t
  | _ => true
def xT : List V → Bool
  | [] => true
  | v :: r => isNew v && xT r
end

mutual
def plain : V → Bool
  | .agg cs => plainL cs
  | .tup cs => plainL cs
  | .int .. => true
  | .bool _ => true
  | .lit _ => true
  | .junk => true
  | _ => false
def plainL : List V → Bool
  | [] => true
  | v :: r => plain v && plainL r
end

mutual
def ids : V → List Nat
  | .agg cs => idsL cs
  | .tup cs => idsL cs
  | .clo _ a b => idsL a ++ idsL b
  | .own j _ _ => [j]
  | .pre j _ _ _ => [j]
  | .ptr j _ _ => [j]
  | .mapr j => [j]
  | _ => []
def idsL : List V → List Nat
  | [] => []
  | v :: r => ids v ++ idsL r
end

def zA (id : Nat) (o : Ob) : Ob := if o.flat then o else { o with elems := killL id o.elems }

def xW (id : Nat) : List (Nat × Ob) → List (Nat × Ob)
  | [] => []
  | (j, o) :: r => if j = id then xW id r else (j, zA id o) :: xW id r

def xV (id : Nat) : List (List V) → List (List V)
  | [] => []
  | l :: r => killL id l :: xV id r

def St.drop (st : St) (id : Nat) : St := { slots := killL id st.slots, outer := xV id st.outer, objs := xW id st.objs }

def St.dropL (st : St) : List Nat → St
  | [] => st
  | i :: r => (st.drop i).dropL r

def reach (objs : List (Nat × Ob)) : Nat → List Nat → List Nat
  | 0, l => l
  | n + 1, l => l ++ reach objs n (l.flatMap fun i => match look objs i with
    | some o => if o.flat then [] else idsL o.elems
    | none => [])

def resolve (objs : List (Nat × Ob)) : Nat → V → Option V
  | 0, _ => none
  | n + 1, v => match v with
    | .int .. | .bool _ | .lit _ | .sl .. | .fp .. => some v
    | .emp => some (.sl true [])
    | .und | .junk | .mapr _ | .full .. => none
    | .agg cs => (allM (resolve objs n) cs).map .agg
    | .tup cs => (allM (resolve objs n) cs).map .tup
    | .clo f a b => match allM (resolve objs n) a, allM (resolve objs n) b with
      | some a', some b' => some (.clo f a' b')
      | _, _ => none
    | .own id off len => match look objs id with
      | some o =>
        if off + len ≤ o.elems.length then
          if o.flat then some (.sl o.t ((o.elems.drop off).take len))
          else match allM (resolve objs n) (xU o.t ((o.elems.drop off).take len)) with
            | some es => some (.sl (xT es) es)
            | none => none
        else none
      | none => none
    | .pre id off len _ => match look objs id with
      | some o =>
        if off + len ≤ o.elems.length then
          if o.flat then some (.sl o.t ((o.elems.drop off).take len))
          else match allM (resolve objs n) (xU o.t ((o.elems.drop off).take len)) with
            | some es => some (.sl (xT es) es)
            | none => none
        else none
      | none => none
    | .ptr id i c => match look objs id with
      | some o => match o.elems[i]? with
        | some e => match cells? e with
          | some cs => if o.flat then some (.fp o.t cs c)
            else match allM (resolve objs n) (xU o.t cs) with
              | some es => some (.fp (xT es) es c)
              | none => none
          | none => none
        | none => none
      | none => none

def depth : Nat := 6

def ask (b : Bool) : Option Bool := some b

def pickV : Option Bool → V → V → Option V
  | some true, x, _ => some x
  | some false, _, y => some y
  | none, _, _ => none

def St.get (st : St) (t : Nat) : V := st.slots.getD t .junk
def St.put (st : St) (dst : Option Nat) (v : V) : St :=
  match dst with
  | some d => { st with slots := st.slots.set d v }
  | none => st

def constV : Value → V
  | .int k n => .int k n
  | .bool b => .bool b
  | .slice none 0 0 => .emp
  | .string s => .lit (.string s)
  | .pointer none => .lit (.pointer none)
  | .map none => .lit (.map none)
  | .nilFunc => .lit .nilFunc
  | .nilIface => .lit .nilIface
  | _ => .junk

def St.eval (st : St) : Operand → V
  | .tmp t => st.get t
  | .const v => constV v
  | .func f => .clo f [] []
  | .global _ => .junk

def St.alloc (st : St) (id : Nat) (o : Ob) : St :=
  let s := st.drop id
  { s with objs := upd s.objs id o }

def part (agg : Bool) (n : Nat) (cs : List V) (off : Nat) : Option V :=
  if agg then (if off + n ≤ cs.length then some (.agg ((cs.drop off).take n)) else none)
  else cs[off]?

def Ty.isAgg : Ty → Bool
  | .struct _ | .array _ _ => true
  | _ => false

def zB (cs : List V) (off : Nat) (ds : List V) : List V := cs.take off ++ ds ++ cs.drop (off + ds.length)

def xD (place : Nat → Option (Nat × Nat)) (cs : List V) : List (Nat × V) → Option (List V)
  | [] => some cs
  | (i, v) :: r => match place i with
    | some (off, n) => match cells? v with
      | some ds => if ds.length = n ∧ off + n ≤ cs.length then xD place (zB cs off ds) r else none
      | none => none
    | none => none

def bitsI (op : BinOp) (k : IntKind) (x y : Int) : Int :=
  let a := BitVec.ofInt k.bits x
  let b := BitVec.ofInt k.bits y
  match op with
  | .and => k.wrap (a &&& b).toNat
  | .or => k.wrap (a ||| b).toNat
  | .xor => k.wrap (a ^^^ b).toNat
  | _ => k.wrap (a &&& ~~~b).toNat

def xY (op : BinOp) (x y : V) : Option V :=
  match op, x, y with
  | .add, .int k a, .int k' b => if k = k' then some (.int k (k.wrap (a + b))) else none
  | .sub, .int k a, .int k' b => if k = k' then some (.int k (k.wrap (a - b))) else none
  | .mul, .int k a, .int k' b => if k = k' then some (.int k (k.wrap (a * b))) else none
  | .quo, .int k a, .int k' b => if k = k' ∧ b ≠ 0 then some (.int k (k.wrap (a.tdiv b))) else none
  | .rem, .int k a, .int k' b => if k = k' ∧ b ≠ 0 then some (.int k (a.tmod b)) else none
  | .and, .int k a, .int k' b => if k = k' then some (.int k (bitsI .and k a b)) else none
  | .or, .int k a, .int k' b => if k = k' then some (.int k (bitsI .or k a b)) else none
  | .xor, .int k a, .int k' b => if k = k' then some (.int k (bitsI .xor k a b)) else none
  | .andNot, .int k a, .int k' b => if k = k' then some (.int k (bitsI .andNot k a b)) else none
  | .shl, .int k a, .int _ b => if 0 ≤ b then some (.int k (k.wrap (a * 2 ^ (min b.toNat k.bits)))) else none
  | .shr, .int k a, .int _ b => if 0 ≤ b then some (.int k (a.fdiv (2 ^ (min b.toNat k.bits)))) else none
  | .lss, .int k a, .int k' b => if k = k' then some (.bool (decide (a < b))) else none
  | .leq, .int k a, .int k' b => if k = k' then some (.bool (decide (a ≤ b))) else none
  | .gtr, .int k a, .int k' b => if k = k' then some (.bool (decide (b < a))) else none
  | .geq, .int k a, .int k' b => if k = k' then some (.bool (decide (b ≤ a))) else none
  | .eql, .int k a, .int k' b => if k = k' then some (.bool (a == b)) else none
  | .neq, .int k a, .int k' b => if k = k' then some (.bool (a != b)) else none
  | _, _, _ => none

def evUn (op : UnOp) (x : V) : Option V :=
  match op, x with
  | .neg, .int k n => some (.int k (k.wrap (0 - n)))
  | .not, .bool b => some (.bool (!b))
  | .xor, .int k n => some (.int k (bitsI .xor k (if k.signed then -1 else k.max) n))
  | _, _ => none

def minV (big : Bool) : V → List V → Option V
  | x, [] => some x
  | .int k a, .int k' b :: r => if k = k' then minV big (.int k (if big then (if a < b then b else a) else (if b < a then b else a))) r else none
  | _, _ => none

def lenV : V → Option Nat
  | .sl _ vs => some vs.length
  | .own _ _ l => some l
  | .pre _ _ l _ => some l
  | .emp => some 0
  | _ => none

def xB (objs : List (Nat × Ob)) : V → Option (Bool × Bool × List V)
  | .emp => some (true, true, [])
  | .lit (.slice _ 0 _) => some (true, true, [])
  | .sl t vs => some (true, t, vs)
  | .own id off len => match look objs id with
    | some o => if off + len ≤ o.elems.length then some (o.flat, o.t, (o.elems.drop off).take len) else none
    | none => none
  | .pre id off len _ => match look objs id with
    | some o => if off + len ≤ o.elems.length then some (o.flat, o.t, (o.elems.drop off).take len) else none
    | none => none
  | _ => none

def zI (st : St) (flat t : Bool) (vs : List V) : Option (St × Bool × List V) :=
  if flat then some (st, t, vs)
  else match allM (resolve st.objs depth) (xU t vs) with
    | some es => some (st.dropL (reach st.objs depth (idsL vs)), xT es, es)
    | none => none

def roomy (n bytes : Nat) : Bool := n * bytes ≤ 140737488355328

def qI (fc : FC) (base d : Nat) : Nat := base + (look fc.alias d).getD d

def qE (E : Env) (t : Nat) : Option TI := match E.ty t with
  | some ti => match ti.ty with
    | .slice e => E.ty e
    | _ => none
  | none => none

def qF (E : Env) (t : Nat) : Option (Nat × TI) := match E.ty t with
  | some ti => match ti.ty with
    | .array n e => (E.ty e).map fun x => (n, x)
    | _ => none
  | none => none

def qX (E : Env) (t : Nat) : Option (Nat × Nat) := match E.ty t with
  | some ti => match ti.ty with
    | .map k e => some (k, e)
    | _ => none
  | none => none

def qB (E : Env) (t : Nat) : Option (List (Nat × Nat)) := match E.ty t with
  | some ti => match ti.ty with
    | .struct fs => some fs
    | _ => none
  | none => none

def eqG (E : Env) (f : Nat → V → V → Option Bool) : List (Nat × Nat) → List V → List V → Option Bool
  | [], _, _ => some true
  | (off, ft) :: r, cs, ds => match E.ty ft with
    | some fi => match part fi.ty.isAgg fi.size cs off, part fi.ty.isAgg fi.size ds off with
      | some x, some y => match f ft x y, eqG E f r cs ds with
        | some b, some c => some (b && c)
        | _, _ => none
      | _, _ => none
    | none => none

def eqCells : List V → List V → Option Bool
  | [], [] => some true
  | .int k a :: r, .int k' b :: s => if k = k' then match eqCells r s with
      | some c => some (a == b && c)
      | none => none else none
  | _, _ => none

def plainInt (E : Env) (t : Nat) : Bool := match E.ty t with
  | some ti => (match ti.ty with | .int _ => true | _ => false) && ti.size == 1
  | none => false

def eqT (E : Env) : Nat → Nat → V → V → Option Bool
  | 0, _, _, _ => none
  | n + 1, t, x, y => match E.ty t with
    | some ti => match ti.ty, x, y with
      | .int _, .int k a, .int k' b => if k = k' then some (a == b) else none
      | .bool, .bool a, .bool b => some (a == b)
      | .struct fs, .agg cs, .agg ds => if ti.eq = true then eqG E (eqT E n) fs cs ds else none
      | _, _, _ => none
    | none => none

def eqF (E : Env) (n : Nat) (fs : List (Nat × Nat)) (cs ds : List V) : Option Bool := eqG E (eqT E n) fs cs ds

def eqA (E : Env) (t : Nat) (x y : V) : Option Bool := match E.ty t with
  | some ti => match ti.ty, x, y with
    | .array m et, .agg cs, .agg ds => if ti.eq = true ∧ plainInt E et = true ∧ cs.length = m ∧ ds.length = m then eqCells cs ds else none
    | _, _, _ => none
  | none => none

def orArr : Option Bool → Option Bool → Option Bool
  | some b, _ => some b
  | none, r => r

def zQ (E : Env) (op : BinOp) (t : Nat) (x y : V) : Option V := match op with
  | .eql => (orArr (eqT E 8 t x y) (eqA E t x y)).map .bool
  | .neq => (orArr (eqT E 8 t x y) (eqA E t x y)).map fun b => .bool (!b)
  | _ => none

def qV (E : Env) (p : Nat × Nat) : Option (Nat × Nat) := match E.ty p.2 with
  | some fi => some (p.1, fi.size)
  | none => none

def sized (n : Nat) : List V → Bool
  | [] => true
  | v :: r => (match cells? v with | some cs => cs.length == n | none => false) && sized n r

def zE (id d : Nat) (ti : TI) (x : V) (st : St) : Option St := match cells? x with
  | some cs => if cs.length = ti.size ∧ 0 < ti.size then
      some ((st.alloc id { es := ti.size, flat := refFree (kill id x), t := isNew (kill id x), app := false, elems := [kill id x] }).put (some d) (.ptr id 0 0)) else none
  | none => none

def qR (id d : Nat) (ei : TI) (st : St) : Option St :=
  if 0 < ei.size then some ((st.alloc id { es := ei.size, flat := true, t := true, app := true, elems := [] }).put (some d) (.own id 0 0)) else none

def offB : Option Nat → Bool
  | none => true
  | some _ => false

def xX (app : Bool) (id d : Nat) (ei : TI) (l c : V) (st : St) : Option St := match l, c with
  | .int .i64 n, .int .i64 m =>
    if n = m ∧ 0 ≤ n ∧ n ≤ 4294967296 ∧ roomy n.toNat ei.bytes = true ∧ 0 < ei.size ∧ refFree ei.zero = true ∧ isNew ei.zero = true then
      some ((st.alloc id { es := ei.size, flat := true, t := true, app := app, elems := List.replicate n.toNat ei.zero }).put (some d) (.own id 0 n.toNat))
    else none
  | _, _ => none

def qQ (id d : Nat) (ei : TI) (n : Nat) (ix : List Nat) (xs : List V) (st : St) : Option St :=
  if n = 0 then (if ix = [] ∧ 0 < ei.size then some (st.put (some d) .emp) else none)
  else if ix = List.range n ∧ xs.length = n ∧ n * ei.size ≤ 16777216 ∧ 0 < ei.size ∧ n ≤ 16777216 then
    match zI st (xS xs) (xT xs) xs with
    | some (s, t, vs) => if sized ei.size vs = true then
        some ((s.alloc id { es := ei.size, flat := true, t := t, app := true, elems := vs }).put (some d) (.own id 0 n)) else none
    | none => none
  else none

def zM (ti : TI) (p : V) (st : St) : Option V := match p with
  | .ptr id i c => match look st.objs id with
    | some ob => match ob.elems[i]? with
      | some e => match cells? e with
        | some cs => match part ti.ty.isAgg ti.size cs c with
          | some v => some (retag ob.t v)
          | none => none
        | none => none
      | none => none
    | none => none
  | .fp t cs c => match part ti.ty.isAgg ti.size cs c with
    | some v => some (retag t v)
    | none => none
  | _ => none

def putIn (e : V) (c : Nat) (ds : List V) (x : V) : V := match e with
  | .agg cs => .agg (zB cs c ds)
  | _ => x

def zZ (es : Nat) : V → Option (List V)
  | .junk => some (List.replicate es .junk)
  | v => cells? v

def xA (e : V) (c n es : Nat) : Bool := match e with
  | .junk => c == 0 && n == es
  | _ => true

def zO (ti : TI) (p x : V) (st : St) : Option St := match p with
  | .ptr id i c => match look st.objs id, cells? x with
    | some ob, some ds => match ob.elems[i]? with
      | some e => match zZ ob.es e with
        | some cs => if ds.length = ti.size ∧ c + ti.size ≤ cs.length ∧ 0 < ti.size ∧ xA e c ti.size ob.es = true then
            some { st with objs := upd st.objs id { ob with flat := ob.flat && refFree x, t := ob.t && isNew x, elems := ob.elems.set i (putIn e c ds x) } }
          else none
        | none => none
      | none => none
    | _, _ => none
  | _ => none

def xJ : V → Option V
  | .ptr id i c => some (.ptr id i c)
  | .fp t cs c => some (.fp t cs c)
  | .clo f a b => some (.clo f a b)
  | _ => none

def evSlice0 (ei : TI) (x : V) (lo hi : Option (Option Int)) (mx : Option V) (st : St) : Option V := match lenV x with
  | some n => match lo, hi with
    | some lo, some hi => match mx with
      | none =>
        if 0 ≤ lo.getD 0 ∧ lo.getD 0 ≤ hi.getD n ∧ hi.getD n ≤ n then
          match x with
          | .emp => some .emp
          | .sl t vs => if sized ei.size vs = true then some (.sl t ((vs.drop (lo.getD 0).toNat).take (hi.getD n - lo.getD 0).toNat)) else none
          | .own id off _ => match look st.objs id with
            | some ob => if ob.es = ei.size then some (.own id (off + (lo.getD 0).toNat) (hi.getD n - lo.getD 0).toNat) else none
            | none => none
          | _ => none
        else none
      | some (.int _ m) => if m = 0 then (if lo.getD 0 = 0 ∧ hi = some 0 then some .emp else none)
        else match x with
          | .sl t vs => if lo.getD 0 = 0 ∧ hi = some m ∧ m = vs.length then some (.full t vs) else none
          | .own _ _ _ => match hi with
            | some h => if 0 ≤ lo.getD 0 ∧ lo.getD 0 ≤ h ∧ h ≤ m ∧ m ≤ n then some .junk else none
            | none => none
          | _ => none
      | some _ => none
    | _, _ => none
  | none => none

def xK (ei : TI) (id off len room : Nat) (lo hi : Option (Option Int)) (mx : Option V) (st : St) : Option V := match lo, hi, mx with
  | some lo, some hi, none => if 0 ≤ lo.getD 0 ∧ lo.getD 0 ≤ hi.getD len ∧ hi.getD len ≤ room then match look st.objs id with
      | some ob => if ob.es = ei.size then some (.own id (off + (lo.getD 0).toNat) (hi.getD len - lo.getD 0).toNat) else none
      | none => none
    else none
  | _, _, _ => none

def qU (ei : TI) (x : V) (lo hi : Option (Option Int)) (mx : Option V) (st : St) : Option V := match x with
  | .pre id off len room => xK ei id off len room lo hi mx st
  | x => evSlice0 ei x lo hi mx st

def preV (x : V) (r : Option V) : Bool → Option V
  | false => r
  | true => match x, r with
    | .own _ off len, some (.own id o l) => if o < off + len ∧ o + l ≤ off + len then some (.pre id o l (off + len - o)) else none
    | _, _ => none

def qA (E : Env) (fs : List (Nat × Nat)) (f : Nat) (x : V) : Option V := match fs[f]? with
  | some (off, ft) => match E.ty ft with
    | some fi => if 0 < fi.size then match x with
        | .ptr id i c => some (.ptr id i (c + off))
        | .fp t cs c => some (.fp t cs (c + off))
        | _ => none
      else none
    | none => none
  | none => none

def qS (E : Env) (fs : List (Nat × Nat)) (f : Nat) (x : V) : Option V := match fs[f]?, x with
  | some (off, ft), .agg cs => match E.ty ft with
    | some fi => part fi.ty.isAgg fi.size cs off
    | none => none
  | _, _ => none

def zP (ei : TI) (x : V) (i : Int) (st : St) : Option V := match x with
  | .sl t vs => if 0 ≤ i then match vs[i.toNat]? with
      | some v => match cells? v with
        | some cs => if cs.length = ei.size then some (.fp t cs 0) else none
        | none => none
      | none => none else none
  | .own id off len => match look st.objs id with
    | some ob => if 0 ≤ i ∧ i < len ∧ ob.es = ei.size then some (.ptr id (off + i.toNat) 0) else none
    | none => none
  | _ => none

def zS (n : Nat) (ei : TI) (x : V) (i : Int) : Option V :=
  if 0 ≤ i ∧ i < n then match x with
    | .ptr id j c => some (.ptr id j (c + i.toNat * ei.size))
    | .fp t cs c => some (.fp t cs (c + i.toNat * ei.size))
    | _ => none
  else none

def zT (n : Nat) (ei : TI) (x : V) (i : Int) : Option V := match x with
  | .agg cs => if 0 ≤ i ∧ i < n then part ei.ty.isAgg ei.size cs (i.toNat * ei.size) else none
  | _ => none

def xZ (E : Env) (kt : Nat) (k : V) : List V → Option (Option V)
  | [] => some none
  | .tup [k', v] :: r => match eqT E 8 kt k k' with
    | some b => match ask b with
      | some true => some (some v)
      | some false => xZ E kt k r
      | none => none
    | none => none
  | _ => none

def isIntV : V → Bool
  | .int _ _ => true
  | _ => false

def qY (E : Env) (kt : Nat) (k : V) : Bool := ((qB E kt).isSome || isIntV k) && (eqT E 8 kt k k).isSome

def toldV (ok : Bool) (v : V) (b : Bool) : V := if ok = true then .tup [v, .bool b] else v

def zU (E : Env) (kt : Nat) (ei : TI) (ok : Bool) (m k : V) (st : St) : Option V := match m with
  | .mapr id => match look st.objs id with
    | some ob => if qY E kt k = true then match xZ E kt k ob.elems with
        | some (some v) => some (toldV ok v true)
        | some none => some (toldV ok ei.zero false)
        | none => none
      else none
    | none => none
  | _ => none

def qW (id d : Nat) (st : St) : Option St :=
  some ((st.alloc id { es := 0, flat := true, t := true, app := false, elems := [] }).put (some d) (.mapr id))

def zV (E : Env) (kt : Nat) (m k v : V) (st : St) : Option St := match m with
  | .mapr id => match look st.objs id with
    | some ob => match xZ E kt k ob.elems with
      | some none => if qY E kt k = true ∧ refFree k = true ∧ refFree v = true ∧ ob.es = 0 then
          some { st with objs := upd st.objs id { ob with elems := ob.elems ++ [.tup [k, v]] } } else none
      | _ => none
    | none => none
  | _ => none

def qC (ti : TI) (x : V) (i : Int) : Option V := match ti.ty, x with
  | .str, .lit (.string s) => if 0 ≤ i then (s[i.toNat]?).map fun b => .int .u8 b.toNat else none
  | _, _ => none

def zR (x : V) (i : Nat) : Option V := match x with
  | .tup cs => cs[i]?
  | _ => none

def clearN (ti : TI) (id : Nat) : Nat → Nat → St → Option St
  | 0, _, st => some st
  | n + 1, k, st => match zO ti (.ptr id k 0) ti.zero st with
    | some s => clearN ti id n (k + 1) s
    | none => none
def evClear (ti : TI) (x : V) (st : St) : Option St := match x with
  | .own id off len => match look st.objs id with
    | some ob => if ob.es = ti.size ∧ 0 < len then clearN ti id len off st else if len = 0 then some st else none
    | none => none
  | _ => none

def copyN (ti : TI) (id : Nat) : List V → Nat → St → Option St
  | [], _, st => some st
  | x :: r, k, st => match zO ti (.ptr id k 0) x st with
    | some s => copyN ti id r (k + 1) s
    | none => none
def evCopy (ei : TI) (x y : V) (st : St) : Option (Nat × St) := match x, xB st.objs y with
  | .own id off len, some (true, t, ys) =>
    if ys.length = len ∧ 0 < ei.size ∧ sized ei.size ys = true then
      if len = 0 then some (0, st) else match look st.objs id with
      | some ob => if ob.es = ei.size then (copyN ei id (xU t ys) off st).map fun s => (len, s) else none
      | none => none
    else none
  | _, _ => none

def onto (ei : TI) (x : V) (st : St) : Option (Option Nat × Bool × List V) := match x with
  | .emp => some (none, true, [])
  | .own id off len => match look st.objs id with
    | some o => if o.app = true ∧ o.flat = true ∧ off = 0 ∧ len = o.elems.length ∧ o.es = ei.size then some (some id, o.t, o.elems) else none
    | none => none
  | .full t vs => if sized ei.size vs = true then some (none, t, vs) else none
  | _ => none

def qH : V → List V → Option V
  | .full t vs, [] => some (.sl t vs)
  | _, _ => none

def dropO (st : St) : Option Nat → St
  | none => st
  | some id => st.drop id

mutual
def bare : V → Bool
  | .int .. => true
  | .bool _ => true
  | .agg cs => bareL cs
  | _ => false
def bareL : List V → Bool
  | [] => true
  | v :: r => bare v && bareL r
end

def upO (x : V) : Option (Bool × Bool × List V) → Option (Bool × Bool × List V)
  | some (fl, t', ys) => match x, fl, t' with
    | .emp, true, false => some (true, bareL ys, ys)
    | _, _, _ => some (fl, t', ys)
  | none => none

def evAppend (id d : Nat) (ei : TI) (x y : V) (st : St) : Option St := match upO x (xB st.objs y) with
  | some (fl, t', ys) => match zI st fl t' ys with
    | some (s, t1, ns) => match qH x ns with
      | some v => some (s.put (some d) v)
      | none => match onto ei x s with
        | some (i, t, old) =>
          if roomy (old.length + ns.length) ei.bytes = true ∧ old.length + ns.length ≤ 4294967296 ∧ sized ei.size ns = true ∧ 0 < ei.size then
            some (((dropO s i).alloc id { es := ei.size, flat := true, t := t && t1, app := true, elems := old ++ ns }).put (some d) (.own id 0 (old.length + ns.length)))
          else none
        | none => none
    | none => none
  | none => none

def evPre (d : Nat) (ei : TI) (id off len room : Nat) (y : V) (st : St) : Option St := match xB st.objs y with
  | some (true, t, ys) => if len + ys.length ≤ room ∧ 0 < ei.size ∧ sized ei.size ys = true then match look st.objs id with
      | some ob => if ob.es = ei.size then (copyN ei id (xU t ys) (off + len) st).map fun s => s.put (some d) (.pre id off (len + ys.length) room) else none
      | none => none
    else none
  | _ => none

def evApp (id d : Nat) (ei : TI) (x y : V) (st : St) : Option St := match x with
  | .pre i off len room => evPre d ei i off len room y st
  | x => evAppend id d ei x y st

section
variable (E : Env) (O : Orc) (fc : FC) (base : Nat)

def qP (st : St) (args : List V) : Option (List V) := (allM (resolve st.objs depth) args).map (xU false)

def xE (d : Nat) (k es : Nat) (r : V) (st : St) : Option St :=
  match r with
  | .sl true vs => if xS vs ∧ plainL vs ∧ sized es vs ∧ 0 < es then
      some ((st.alloc (qI fc base d) { es := es, flat := true, t := true, app := false, elems := vs }).put (some d) (.own (qI fc base d) 0 vs.length)) else none
  | .tup cs => match cs[k]? with
    | some (.sl true vs) =>
      if xS vs ∧ plainL vs ∧ sized es vs ∧ 0 < es ∧ plainL (cs.set k .junk) then
        some ((st.alloc (qI fc base d) { es := es, flat := true, t := true, app := false, elems := vs }).put (some d) (.tup (cs.set k (.own (qI fc base d) 0 vs.length))))
      else none
    | _ => none
  | _ => none

def wit (objs : List (Nat × Ob)) (id : Nat) : V := match look objs id with
  | some ob => if ob.es = 0 then .mapr id else .ptr id 0 0
  | none => .junk

def xI : List V → List V → Bool
  | [], [] => true
  | .mapr i :: r, .mapr j :: s => i == j && xI r s
  | .ptr i a b :: r, .ptr j c d :: s => i == j && a == c && b == d && xI r s
  | _, _ => false

def zJ (objs : List (Nat × Ob)) (R : List Nat) : Bool := R.all fun id => match look objs id with
  | some o => o.flat || (idsL o.elems).all fun j => R.contains j
  | none => false

def zK (objs : List (Nat × Ob)) (R : List Nat) : Bool := R.all fun id => match look objs id with
  | some o => !o.app && (o.es == 0 || !o.elems.isEmpty)
  | none => false

def zL (objs objs' : List (Nat × Ob)) (R : List Nat) : Bool := R.all fun id => match look objs id, look objs' id with
  | some o, some o' => o.es == o'.es && !o'.app
  | _, _ => false

def xG (R : List Nat) : List (Nat × Ob) → List (Nat × Ob)
  | [] => []
  | (j, o) :: r => if R.contains j then (j, o) :: xG R r else xG R r

def pickR : List Nat → List (Nat × Ob) → List (Nat × Ob)
  | [], _ => []
  | id :: r, objs => match look objs id with
    | some ob => upd (pickR r objs) id ob
    | none => pickR r objs

def xH (old : List (Nat × Ob)) : List (Nat × Ob) → List (Nat × Ob)
  | [] => old
  | (j, o) :: r => upd (xH old r) j o

def xF (dst : Option Nat) (R : List Nat) (st : St) : Option (V × St) → Option St
  | some (r, s) => match s.outer with
    | [w'] =>
      if xI (R.map (wit st.objs)) w' && zL st.objs s.objs R && zJ s.objs (R ++ reach s.objs depth (ids r)) && (reach s.objs depth (ids r)).all (fun j => R.contains j || (look st.objs j).isNone) then
        some (St.put { st with objs := xH st.objs (xG (R ++ reach s.objs depth (ids r)) s.objs) } dst r)
      else none
    | _ => none
  | none => none

def qZ (dst : Option Nat) (g : Nat) (as : List V) (st : St) : Option St :=
  if zJ st.objs (reach st.objs depth (idsL as)) && zK st.objs (reach st.objs depth (idsL as)) then
    xF dst (reach st.objs depth (idsL as)) st
      (O.inl 1000 g as { slots := [], outer := [(reach st.objs depth (idsL as)).map (wit st.objs)], objs := pickR (reach st.objs depth (idsL as)) st.objs })
  else none

def freshed (id d : Nat) (st : St) : Option (V × St) → Option St
  | some (.own j off len, s) => match look s.objs j with
    | some ob => if ob.flat = true ∧ off = 0 ∧ len = ob.elems.length then some ((st.alloc id ob).put (some d) (.own id 0 len)) else none
    | none => none
  | some (r, _) => if refFree r = true then some (st.put (some d) r) else none
  | none => none

def evFresh (dst : Option Nat) (g : Nat) (as : List V) (st : St) : Option St := match dst, qP st as with
  | some d, some as' => if idsL as = [] then freshed (qI fc base d) d st (O.inl 1000 g as' { slots := [], outer := [], objs := [] }) else none
  | _, _ => none

def evCall (dst : Option Nat) (f : V) (args : List V) (st : St) : Option St :=
  match f with
  | .clo g first cap =>
    let as := first ++ args ++ cap
    if E.inl g then
      if (E.fc g).frame then (if (E.fc g).fresh then evFresh O fc base dst g as st else qZ O dst g as st) else
      match O.inl (base + 1000) g as { st with slots := [], outer := st.slots :: st.outer } with
      | some (r, s) => match s.outer with
        | sl :: out => some (St.put { s with slots := sl, outer := out } dst r)
        | [] => none
      | none => none
    else match qP st as with
      | some as' => match O.call g as' with
        | some r => if refFree r then
            let s := if isNew r then st else st.dropL (reach st.objs depth (idsL as))
            match dst.bind (look fc.thaw) with
            | some (k, es) => match dst with
              | some d => if isNew r then xE fc base d k es r s else none
              | none => none
            | none => some (s.put dst r)
          else none
        | none => none
      | none => none
  | _ => none

def xC : Operand → Bool
  | .const (.slice none 0 0) => true
  | _ => false

def nilTest : V → Option Bool
  | .lit (.slice none _ _) => some true
  | .lit (.slice (some _) _ _) => some false
  | .sl _ (_ :: _) => some false
  | _ => none
def qT (E : Env) (op : BinOp) (t : Nat) (v : V) (y : Operand) : Option V → Option V
  | some r => some r
  | none => match op, E.ty t with
    | .eql, some ti => match ti.ty with
      | .slice _ => if xC y = true then (nilTest v).map .bool else none
      | _ => none
    | _, _ => none

def optInt (st : St) : Option Operand → Option (Option Int)
  | none => some none
  | some y => match st.eval y with
    | .int _ n => some (some n)
    | _ => none

def zF (o : Oper) (st : St) : Option V :=
  match o.op with
  | .move x => some (st.eval x)
  | .assign x => match o.dst with
    | some d => if fc.born.contains d && xC x then none else some (st.eval x)
    | none => none
  | .pick c a b => match st.eval c with
    | .bool b' => pickV (ask b') (st.eval a) (st.eval b)
    | _ => none
  | .build t parts => match E.ty t, qB E t with
    | some ti, some fs => match cells? ti.zero, allM (qV E) fs with
      | some zs, some ps => (xD (fun i => ps[i]?) zs (parts.toList.map fun p => (p.1, st.eval p.2))).map .agg
      | _, _ => none
    | some ti, none => match cells? ti.zero, qF E t with
      | some zs, some (_, ei) => (xD (fun i => some (i * ei.size, ei.size)) zs (parts.toList.map fun p => (p.1, st.eval p.2))).map .agg
      | _, _ => none
    | _, _ => none
  | .load t a => match E.ty t with
    | some ti => zM ti (st.eval a) st
    | none => none
  | .nilCheck x => xJ (st.eval x)
  | .binOp op t x y _ => match st.eval x with
    | .int k n => xY op (.int k n) (st.eval y)
    | v => qT E op t v y (zQ E op t v (st.eval y))
  | .unOp op _ x => evUn op (st.eval x)
  | .convert s d x => match E.ty s, E.ty d with
    | some _, some ti => match ti.ty, st.eval x with
      | .int k, .int _ n => some (.int k (k.wrap n))
      | _, _ => none
    | _, _ => none
  | .makeFunc fn first cap => match fn with
    | .func f => some (.clo f (first.toList.map st.eval) (cap.toList.map st.eval))
    | _ => none
  | .slice t x lo hi mx => match qE E t with
    | some ei => preV (st.eval x) (qU ei (st.eval x) (optInt st lo) (optInt st hi) (mx.map st.eval) st) (fc.pres.contains (o.dst.getD 0))
    | none => none
  | .fieldAddr s x f => match qB E s with
    | some fs => qA E fs f (st.eval x)
    | none => none
  | .field s x f => match qB E s with
    | some fs => qS E fs f (st.eval x)
    | none => none
  | .indexAddr t x ix => match st.eval ix with
    | .int _ i => match qE E t with
      | some ei => zP ei (st.eval x) i st
      | none => match qF E t with
        | some (n, ei) => zS n ei (st.eval x) i
        | none => none
    | _ => none
  | .index t x ix => match st.eval ix, qF E t with
    | .int _ i, some (n, ei) => zT n ei (st.eval x) i
    | .int _ i, none => match E.ty t with
      | some ti => qC ti (st.eval x) i
      | none => none
    | _, _ => none
  | .lookup t x ix ok => match qX E t with
    | some (k, e) => match E.ty e with
      | some ei => zU E k ei ok (st.eval x) (st.eval ix) st
      | none => none
    | none => none
  | .extract x ix => zR (st.eval x) ix
  | .call c => match c.callee with
    | .builtin .len => match c.argTypes.toList, c.args.toList with
      | [t], [x] => match qE E t, lenV (st.eval x) with
        | some _, some n => some (.int .i64 n)
        | _, _ => none
      | _, _ => none
    | .builtin .min => match c.args.toList with
      | x :: r => minV false (st.eval x) (r.map st.eval)
      | [] => none
    | .builtin .max => match c.args.toList with
      | x :: r => minV true (st.eval x) (r.map st.eval)
      | [] => none
    | _ => none
  | _ => none

def zG (o : Oper) (st : St) : Option St :=
  match o.op with
  | .assign x => match o.dst with
    | some d => if fc.born.contains d && xC x then (match qE E o.type with
        | some ei => qR (qI fc base d) d ei st
        | none => none) else none
    | none => none
  | .alloc e => match o.dst, E.ty e with
    | some d, some ti => zE (qI fc base d) d ti ti.zero st
    | _, _ => none
  | .box e x => match o.dst, E.ty e with
    | some d, some ti => zE (qI fc base d) d ti (st.eval x) st
    | _, _ => none
  | .buildSlice t n parts => match o.dst, qE E t with
    | some d, some ei => qQ (qI fc base d) d ei n (parts.toList.map (·.1)) (parts.toList.map fun p => st.eval p.2) st
    | _, _ => none
  | .store t a x => match E.ty t with
    | some ti => (zO ti (st.eval a) (st.eval x) st).map fun s => s.put o.dst .und
    | none => none
  | .makeMap t none => match o.dst, qX E t with
    | some d, some _ => qW (qI fc base d) d st
    | _, _ => none
  | .mapUpdate t m k x => match qX E t with
    | some (kt, _) => (zV E kt (st.eval m) (st.eval k) (st.eval x) st).map fun s => s.put o.dst .und
    | none => none
  | .makeSlice t l c => match o.dst, qE E t with
    | some d, some ei => xX (offB (look fc.stiff d)) (qI fc base d) d ei (st.eval l) (st.eval c) st
    | _, _ => none
  | .call c => match c.callee with
    | .builtin .append => match o.dst, c.argTypes.toList, c.args.toList with
      | some d, [t, t'], [x, y] => if t = t' then match qE E t with
          | some ei => evApp (qI fc base d) d ei (st.eval x) (st.eval y) st
          | none => none else none
      | _, _, _ => none
    | .builtin .clear => match o.dst, c.argTypes.toList, c.args.toList with
      | none, [t], [x] => match qE E t with
        | some ei => evClear ei (st.eval x) st
        | none => none
      | _, _, _ => none
    | .builtin .copy => match o.dst, c.argTypes.toList, c.args.toList with
      | some d, [t, t'], [x, y] => if t = t' then match qE E t with
          | some ei => (evCopy ei (st.eval x) (st.eval y) st).map fun p => p.2.put (some d) (.int .i64 p.1)
          | none => none else none
      | _, _, _ => none
    | _ => none
  | _ => none

def qG (o : Oper) (st : St) : Option St := match zF E fc o st with
  | some v => some (st.put o.dst v)
  | none => zG E fc base o st

def zH (o : Oper) (st : St) : Option St :=
  match o.op with
  | .call c => match c.callee with
    | .value f => evCall E O fc base o.dst (st.eval f) (c.args.toList.map st.eval) st
    | _ => qG E fc base o st
  | _ => qG E fc base o st

def wantedV (all : Array Oper) (o : Oper) (st : St) : Option Bool :=
  match o.guard with
  | none => some true
  | some (j, b) => match (all[j]?).bind (·.dst) with
    | some d => match st.get d with
      | .bool b' => ask (b' == b)
      | .und => some false
      | _ => none
    | none => none

def evOps (all : Array Oper) : List Oper → St → Option St
  | [], st => some st
  | o :: r, st => match wantedV all o st with
    | some true => match zH E O fc base o st with
      | some s => evOps all r s
      | none => none
    | some false => evOps all r (st.put o.dst .und)
    | none => none

end
end Go.AM
end

section
/-
The abstract machine on code: regions, tests, loops, calls. Definitions.
-/
namespace Go.AM
open Go

inductive Ex where
  | normal
  | exit (id : Nat)
  | ret
  deriving DecidableEq

def xR : Code → Option Nat
  | .region id _ _ => some id
  | .seq a b => match xR a with
    | some i => some i
    | none => xR b
  | .cond _ a b => match xR a with
    | some i => some i
    | none => xR b
  | .block _ b => xR b
  | .loop b => xR b
  | .scope b => xR b
  | _ => none

def xQ (keep : List Nat) : Nat → List V → List V
  | _, [] => []
  | i, v :: r => (if keep.contains i then v else .junk) :: xQ keep (i + 1) r

def idsLL : List (List V) → List Nat
  | [] => []
  | l :: r => idsL l ++ idsLL r

def norm (keep : List Nat) (st : St) : St :=
  let s := { st with slots := xQ keep 0 st.slots }
  s.dropL ((s.objs.map (·.1)).filter fun i => !(reach s.objs depth (idsL s.slots ++ idsLL s.outer)).contains i)

def zC (fc : FC) (b : Code) (st : St) : St := match xR b with
  | some i => match look fc.live i with
    | some keep => if fc.lax = true then { st with slots := xQ keep 0 st.slots } else norm keep st
    | none => st
  | none => st

def xO : Code → Bool
  | .seq a b => xO a && xO b
  | .cond _ a b => xO a && xO b
  | .block _ b => xO b
  | .loop b => xO b
  | .scope b => xO b
  | .rangeFunc _ _ _ _ => false
  | _ => true

def xP : List V → List Nat → List V → List V
  | s, p :: ps, x :: xs => xP (s.set p x) ps xs
  | s, _, _ => s

def tidy (st : St) : St := norm [] { st with slots := [] }

def roundsIn (run : Code → St → Option (Ex × St)) (ps : List Nat) (assign body : Code) : List (List V) → St → Option (Ex × St)
  | [], st => some (.normal, tidy st)
  | xs :: r, st => match run assign { tidy st with slots := xP ((tidy st).outer.headD []) ps xs } with
    | some (.normal, s) => match run body s with
      | some (.normal, s') => roundsIn run ps assign body r s'
      | p => p
    | _ => none

def popped (r : Option (Ex × St)) : Option (Ex × St) := match r with
  | some (e, s) => match s.outer with
    | s0 :: out => some (e, { s with slots := s0, outer := out })
    | [] => none
  | none => none

def xN (E : Env) (ps : Array Nat) (assign body : Code) (g : V) (st : St) : Option (List (List V)) := match g with
  | .clo f [] cap =>
    if idsL cap = [] ∧ xO assign = true ∧ xO body = true then match qP st cap with
      | some as => match E.seq f as with
        | some (k, xss) => if k = ps.size then some xss else none
        | none => none
      | none => none
    else none
  | _ => none

section
variable (E : Env) (O : Orc) (fc : FC) (base : Nat)

inductive Eff where
  | put (v : V)
  | new (id : Nat) (ob : Ob) (v : V)
  | wr (id : Nat) (ob : Ob)

def Eff.ap (dst : Option Nat) : Eff → St → St
  | .put v, s => s.put dst v
  | .new id ob v, s => St.put { s with objs := upd s.objs id ob } dst v
  | .wr id ob, s => St.put { s with objs := upd s.objs id ob } dst .und

def Eff.writes : Eff → List Nat
  | .put _ => []
  | .new id _ _ => [id]
  | .wr id _ => [id]

def qL (id : Nat) (ti : TI) (x : V) (st : St) : Option Eff := match cells? x, look st.objs id with
  | some cs, none => if cs.length = ti.size ∧ 0 < ti.size then some (.new id { es := ti.size, flat := refFree x, t := isNew x, app := false, elems := [x] } (.ptr id 0 0)) else none
  | _, _ => none

def qN (app : Bool) (id : Nat) (ei : TI) (l c : V) (st : St) : Option Eff := match l, c, look st.objs id with
  | .int .i64 n, .int .i64 m, none =>
    if n = m ∧ 0 ≤ n ∧ n ≤ 4294967296 ∧ roomy n.toNat ei.bytes = true ∧ 0 < ei.size ∧ refFree ei.zero = true ∧ isNew ei.zero = true then
      some (.new id { es := ei.size, flat := true, t := true, app := app, elems := List.replicate n.toNat ei.zero } (.own id 0 n.toNat)) else none
  | _, _, _ => none

def qM (id : Nat) (ei : TI) (n : Nat) (ix : List Nat) (xs : List V) (st : St) : Option Eff :=
  if n = 0 then (if ix = [] ∧ 0 < ei.size then some (.put .emp) else none)
  else match look st.objs id with
    | none => if ix = List.range n ∧ xs.length = n ∧ n * ei.size ≤ 16777216 ∧ 0 < ei.size ∧ n ≤ 16777216 ∧ xS xs = true ∧ sized ei.size xs = true then
        some (.new id { es := ei.size, flat := true, t := xT xs, app := true, elems := xs } (.own id 0 n)) else none
    | some _ => none

def qO (id : Nat) (ei : TI) (x y : V) (st : St) : Option Eff := match x, upO x (xB st.objs y), look st.objs id with
  | .emp, some (true, t, ys), none => if roomy ys.length ei.bytes = true ∧ ys.length ≤ 4294967296 ∧ sized ei.size ys = true ∧ 0 < ei.size then
      some (.new id { es := ei.size, flat := true, t := t, app := true, elems := ys } (.own id 0 ys.length)) else none
  | _, _, _ => none

def zW (ti : TI) (p x : V) (st : St) : Option Eff := match p with
  | .ptr id i c => match look st.objs id, cells? x with
    | some ob, some ds => match ob.elems[i]? with
      | some e => match zZ ob.es e with
        | some cs => if ds.length = ti.size ∧ c + ti.size ≤ cs.length ∧ 0 < ti.size ∧ xA e c ti.size ob.es = true then
            some (.wr id { ob with flat := ob.flat && refFree x, t := ob.t && isNew x, elems := ob.elems.set i (putIn e c ds x) }) else none
        | none => none
      | none => none
    | _, _ => none
  | _ => none

def zY (kt : Nat) (m k v : V) (st : St) : Option Eff := match m with
  | .mapr id => match look st.objs id with
    | some ob => match xZ E kt k ob.elems with
      | some none => if qY E kt k = true ∧ refFree k = true ∧ refFree v = true ∧ ob.es = 0 then some (.wr id { ob with elems := ob.elems ++ [.tup [k, v]] }) else none
      | _ => none
    | none => none
  | _ => none

def zX (dst : Option Nat) (f : V) (args : List V) (st : St) : Option Eff := match f with
  | .clo g first cap => if E.inl g = false ∧ dst.bind (look fc.thaw) = none then match qP st (first ++ args ++ cap) with
      | some as' => match O.call g as' with
        | some r => if refFree r = true ∧ (isNew r = true ∨ idsL (first ++ args ++ cap) = []) then some (.put r) else none
        | none => none
      | none => none
    else none
  | _ => none

def qK (o : Oper) (st : St) : Option Eff :=
  match o.op with
  | .alloc e => match o.dst, E.ty e with
    | some d, some ti => qL (qI fc base d) ti ti.zero st
    | _, _ => none
  | .box e x => match o.dst, E.ty e with
    | some d, some ti => qL (qI fc base d) ti (st.eval x) st
    | _, _ => none
  | .buildSlice t n parts => match o.dst, qE E t with
    | some d, some ei => qM (qI fc base d) ei n (parts.toList.map (·.1)) (parts.toList.map fun p => st.eval p.2) st
    | _, _ => none
  | .store t a x => match E.ty t with
    | some ti => zW ti (st.eval a) (st.eval x) st
    | none => none
  | .mapUpdate t m k x => match qX E t with
    | some (kt, _) => zY E kt (st.eval m) (st.eval k) (st.eval x) st
    | none => none
  | .makeSlice t l c => match o.dst, qE E t with
    | some d, some ei => qN (offB (look fc.stiff d)) (qI fc base d) ei (st.eval l) (st.eval c) st
    | _, _ => none
  | .call c => match c.callee with
    | .builtin .append => match o.dst, c.argTypes.toList, c.args.toList with
      | some d, [t, t'], [x, y] => if t = t' then match qE E t with
          | some ei => qO (qI fc base d) ei (st.eval x) (st.eval y) st
          | none => none else none
      | _, _, _ => none
    | .value f => zX E O fc o.dst (st.eval f) (c.args.toList.map st.eval) st
    | _ => none
  | _ => none

def qJ (o : Oper) (st : St) : Option Eff := match zF E fc o st with
  | some v => some (.put v)
  | none => qK E O fc base o st

def effFreshed (id : Nat) (st : St) : Option (V × St) → Option Eff
  | some (.own j off len, s) => match look s.objs j, look st.objs id with
    | some ob, none => if ob.flat = true ∧ off = 0 ∧ len = ob.elems.length then some (.new id ob (.own id 0 len)) else none
    | _, _ => none
  | some (r, _) => if refFree r = true then some (.put r) else none
  | none => none

def effThaw (id es : Nat) (st : St) : V → Option Eff
  | .sl true vs => match look st.objs id with
    | none => if xS vs ∧ plainL vs ∧ sized es vs ∧ 0 < es then some (.new id { es := es, flat := true, t := true, app := false, elems := vs } (.own id 0 vs.length)) else none
    | some _ => none
  | _ => none

def mapIn : List Nat → List (Nat × Ob) → Option Nat
  | [], _ => none
  | j :: r, objs => match look objs j with
    | some ob => if ob.es = 0 then some j else mapIn r objs
    | none => mapIn r objs
mutual
def eqW : V → V → Bool
  | .int k n, .int k' n' => k == k' && n == n'
  | .bool b, .bool b' => b == b'
  | .emp, .emp => true
  | .agg cs, .agg ds => eqWL cs ds
  | .sl t cs, .sl u ds => t == u && eqWL cs ds
  | .mapr i, .mapr j => i == j
  | _, _ => false
def eqWL : List V → List V → Bool
  | [], [] => true
  | v :: r, u :: s => eqW v u && eqWL r s
  | _, _ => false
end
def sameO : Option Ob → Option Ob → Bool
  | some x, some y => x.es == y.es && x.flat == y.flat && x.t == y.t && x.app == y.app && eqWL x.elems y.elems
  | _, _ => false
def restSame (id : Nat) : List Nat → List (Nat × Ob) → List (Nat × Ob) → Bool
  | [], _, _ => true
  | j :: r, a, b => if j = id then restSame id r a b else sameO (look a j) (look b j) && restSame id r a b
def effFr3 (R : List Nat) (st s : St) (r : V) : Option Nat → Option Eff
  | some id => match look s.objs id with
    | some ob => if restSame id R s.objs st.objs = true then some (.new id ob r) else none
    | none => none
  | none => none
def effFr2 (R : List Nat) (st : St) : Option (V × St) → Option Eff
  | some (r, s) => match s.outer with
    | [w'] => if xI (R.map (wit st.objs)) w' = true ∧ zL st.objs s.objs R = true ∧ zJ s.objs R = true ∧ refFree r = true then effFr3 R st s r (mapIn R st.objs) else none
    | _ => none
  | none => none
def effFr (g : Nat) (as : List V) (st : St) : Option Eff :=
  if (E.fc g).frame = true ∧ (E.fc g).fresh = false ∧ zJ st.objs (reach st.objs depth (idsL as)) = true ∧ zK st.objs (reach st.objs depth (idsL as)) = true then
    effFr2 (reach st.objs depth (idsL as)) st (O.inl 1000 g as { slots := [], outer := [(reach st.objs depth (idsL as)).map (wit st.objs)], objs := pickR (reach st.objs depth (idsL as)) st.objs })
  else none

def effNew (dst : Option Nat) (f : V) (args : List V) (st : St) : Option Eff := match f, dst with
  | .clo g first cap, some d =>
    if E.inl g then
      if (E.fc g).frame = true ∧ (E.fc g).fresh = true ∧ idsL (first ++ args ++ cap) = [] then match qP st (first ++ args ++ cap) with
        | some as' => effFreshed (qI fc base d) st (O.inl 1000 g as' { slots := [], outer := [], objs := [] })
        | none => none
      else effFr E O g (first ++ args ++ cap) st
    else match look fc.thaw d with
      | some (_, es) => match qP st (first ++ args ++ cap) with
        | some as' => match O.call g as' with
          | some r => effThaw (qI fc base d) es st r
          | none => none
        | none => none
      | none => none
  | _, _ => none

def effX (o : Oper) (st : St) : Option Eff := match qJ E O fc base o st with
  | some e => some e
  | none => match o.op with
    | .call c => match c.callee with
      | .value f => effNew E O fc base o.dst (st.eval f) (c.args.toList.map st.eval) st
      | _ => none
    | _ => none

def supp (o : Oper) (st : St) : List Nat := match o.op with
  | .load _ x => ids (st.eval x)
  | .indexAddr _ x _ => ids (st.eval x)
  | .slice _ x _ _ _ => ids (st.eval x)
  | .store _ p _ => ids (st.eval p)
  | .lookup _ x _ _ => ids (st.eval x)
  | .mapUpdate _ m _ _ => ids (st.eval m)
  | .alloc _ => (o.dst.map (qI fc base)).toList
  | .box _ _ => (o.dst.map (qI fc base)).toList
  | .buildSlice _ _ _ => (o.dst.map (qI fc base)).toList
  | .makeSlice _ _ _ => (o.dst.map (qI fc base)).toList
  | .call c => match c.callee with
    | .builtin .append => (o.dst.map (qI fc base)).toList ++ idsL (c.args.toList.map st.eval)
    | .value f => reach st.objs depth (idsL [st.eval f] ++ idsL (c.args.toList.map st.eval))
    | _ => []
  | _ => []

def suppX (o : Oper) (st : St) : List Nat := match o.op with
  | .call c => match c.callee with
    | .value _ => (o.dst.map (qI fc base)).toList ++ supp fc base o st
    | _ => supp fc base o st
  | _ => supp fc base o st

structure Rec where
  i : Nat
  o : Oper
  eff : Eff
  supp : List Nat

def deps (all : Array Oper) (i : Nat) : List Nat := match all[i]? with
  | some o => (o.after.toList.filter fun e => Region.binds .any e).map (·.on)
  | none => []

def clo (all : Array Oper) : Nat → List (List Nat)
  | 0 => []
  | n + 1 => clo all n ++ [(List.range n).filter fun k => (deps all n).contains k || (deps all n).any fun d => ((clo all n).getD d []).contains k]

def free (l l' : List Nat) : Bool := l.all fun i => !l'.contains i

def calm (all : Array Oper) (x y : Rec) : Bool :=
  x.o.apart all y.o && free x.eff.writes y.supp && free y.eff.writes x.supp && free x.eff.writes y.eff.writes

def evD (all : Array Oper) (cl : List (List Nat)) : List (Nat × Oper) → St → List Rec → Option St
  | [], st, _ => some st
  | (i, o) :: r, st, rs => match wantedV all o st with
    | some true => match qJ E O fc base o st with
      | some e =>
        let x : Rec := { i, o, eff := e, supp := supp fc base o st }
        if (deps all i).all (fun d => decide (d < i)) && rs.all (fun y => (cl.getD i []).contains y.i || calm all y x) then evD all cl r (e.ap o.dst st) (rs ++ [x]) else none
      | none => none
    | some false =>
      let x : Rec := { i, o, eff := .put .und, supp := [] }
      if (deps all i).all (fun d => decide (d < i)) && rs.all (fun y => (cl.getD i []).contains y.i || calm all y x) then evD all cl r (st.put o.dst .und) (rs ++ [x]) else none
    | none => none

def numbered {α : Type} : Nat → List α → List (Nat × α)
  | _, [] => []
  | i, x :: r => (i, x) :: numbered (i + 1) r

def evRegion (ops : Array Oper) (draw : Bool) (st : St) : Option St :=
  if draw then evD E O fc base ops (clo ops ops.size) (numbered 0 ops.toList) st [] else evOps E O fc base ops ops.toList st

def isBar (o : Oper) (st : St) : Bool := match o.op with
  | .call c => match c.callee with
    | .value f => match st.eval f with
      | .clo g _ _ => E.inl g
      | _ => false
    | .builtin .append => true
    | _ => false
  | _ => false

def isBarL (o : Oper) (st : St) : Bool := match o.op with
  | .buildSlice _ _ _ => true
  | _ => isBar E o st

def barAt (all : Array Oper) (cl : List (List Nat)) (i : Nat) : Bool :=
  (deps all i).all (fun d => decide (d < i)) && (List.range i).all (fun k => (cl.getD i []).contains k) && (List.range all.size).all (fun j => decide (j ≤ i) || (cl.getD j []).contains i)

def nops (n : Nat) (o : Oper) : List Rec := (List.range n).map fun i => { i := i, o := { o with dst := none }, eff := .put .und, supp := [] }

def isBarX (o : Oper) (st : St) : Bool := match o.op with
  | .call c => match c.callee with
    | .value f => match st.eval f with
      | .clo g _ _ => E.inl g && !(E.fc g).frame
      | _ => false
    | .builtin .append => true
    | _ => false
  | _ => false

def evB (ef : Oper → St → Option Eff) (sp : Oper → St → List Nat) (bk : Oper → St → Bool) (all : Array Oper) (cl : List (List Nat)) : List (Nat × Oper) → St → List Rec → Option St
  | [], st, _ => some st
  | (i, o) :: r, st, rs => match wantedV all o st with
    | some true => match ef o st with
      | some e =>
        let x : Rec := { i, o, eff := e, supp := sp o st }
        if (deps all i).all (fun d => decide (d < i)) && rs.all (fun y => (cl.getD i []).contains y.i || calm all y x) then evB ef sp bk all cl r (e.ap o.dst st) (rs ++ [x]) else none
      | none => if bk o st && barAt all cl i then match zH E O fc base o st with
          | some s => evB ef sp bk all cl r s (nops (i + 1) o)
          | none => none
        else none
    | some false =>
      let x : Rec := { i, o, eff := .put .und, supp := [] }
      if (deps all i).all (fun d => decide (d < i)) && rs.all (fun y => (cl.getD i []).contains y.i || calm all y x) then evB ef sp bk all cl r (st.put o.dst .und) (rs ++ [x]) else none
    | none => none

def regX (ops : Array Oper) (st : St) : Bool → Option St
  | true => evB E O fc base (effX E O fc base) (suppX fc base) (isBarX E) ops (clo ops ops.size) (numbered 0 ops.toList) st []
  | false => evB E O fc base (qJ E O fc base) (supp fc base) (isBar E) ops (clo ops ops.size) (numbered 0 ops.toList) st []

def regG (ops : Array Oper) (st : St) : Bool → Option St
  | true => regX E O fc base ops st fc.tew
  | false => evRegion E O fc base ops true st

def cloL (ops : Array Oper) : List (List Nat) := (clo ops ops.size).map fun l => 0 :: l

def leadOk (ops : Array Oper) : Bool := match ops[0]? with
  | some o => (match o.op with | .move _ => true | _ => false) && o.guard.isNone && o.after.isEmpty && Region.noSelect ops && (ops.toList.all fun o => match o.op with | .defer _ => false | _ => true)
      && Region.free .any ops (Array.replicate ops.size false) 0
  | none => false

def evLead (ops : Array Oper) (st : St) : Option St := match ops[0]? with
  | some o => match zF E fc o st with
    | some v => if leadOk ops then evB E O fc base (qJ E O fc base) (supp fc base) (isBarL E) ops (cloL ops) (numbered 1 (ops.toList.drop 1)) (st.put o.dst v) (nops 1 o) else none
    | none => none
  | none => none

def regL (ops : Array Oper) (st : St) : Bool → Option St
  | true => evLead E O fc base ops st
  | false => regG E O fc base ops st fc.bar

def evReg (ops : Array Oper) (draw : Bool) (st : St) : Option St := match draw with
  | true => regL E O fc base ops st fc.lead
  | false => evRegion E O fc base ops false st

def ev : Nat → Code → St → Option (Ex × St)
  | 0, _, _ => none
  | n + 1, c, st => match c with
    | .skip => some (.normal, st)
    | .region _ ops draw => match evReg E O fc base ops draw st with
      | some s => some (.normal, s)
      | none => none
    | .seq a b => match ev n a st with
      | some (.normal, s) => ev n b s
      | r => r
    | .cond c a b => match st.eval c with
      | .bool t => ev n (if t then a else b) st
      | _ => none
    | .block id b => match ev n b st with
      | some (.exit i, s) => if i = id then some (.normal, s) else some (.exit i, s)
      | r => r
    | .loop b => match ev n b (zC fc b st) with
      | some (.normal, s) => ev n (.loop b) s
      | r => r
    | .rangeFunc g ps assign body => match xN E ps assign body (st.eval g) st with
      | some xss => popped (roundsIn (ev n) ps.toList assign body xss { st with outer := st.slots :: st.outer })
      | none => none
    | .exit id => some (.exit id, st)
    | .ret => some (.ret, st)
    | .label _ => some (.normal, st)
    | .scope b => ev n b st
    | _ => none
end

def resultV (E : Env) (s : St) : ResultVar → Option V
  | .tmp t => some (s.get t)
  | .cell p t => match E.ty t with
    | some ti => zM ti (s.get p) s
    | none => none

def qD (E : Env) (fn : Func) (s : St) : Option V := match allM (resultV E s) fn.results.toList with
  | some [v] => some v
  | some vs => some (.tup vs)
  | none => none

def evFn (E : Env) (O : Orc) (n base f : Nat) (args : List V) (st : St) : Option (V × St) := match E.fn f with
  | some fn => match fn.body with
    | some c => match ev E O (E.fc f) base n c { st with slots := args ++ List.replicate (fn.ntmps - args.length) .und } with
      | some (.normal, s) | some (.ret, s) => match qD E fn s with
        | some r => some (r, s)
        | none => none
      | _ => none
    | none => none
  | none => none

structure Ext where
  call : Nat → List V → Option V
  inl : Nat → Nat → List V → St → Option (V × St)

def orc (E : Env) (X : Ext) : Nat → Orc
  | 0 => { call := X.call, inl := X.inl }
  | n + 1 => {
      call := fun f args => match X.call f args with
        | some r => some r
        | none => match evFn E (orc E X n) n 0 f args { slots := [], outer := [], objs := [] } with
          | some (r, s) => resolve s.objs depth r
          | none => none
      inl := fun base f args st => match X.inl base f args st with
        | some r => some r
        | none => evFn E (orc E X n) n base f args st }
end Go.AM
end

section
/-
What an abstract value says of a value in memory, and that it keeps saying it while memory grows and other objects are written.
-/
namespace Go.AM
open Go Go.RowKit

inductive At where
  | virt (app : Bool)
  | blk (b bo es cap : Nat) (app : Bool)
  | mp (b : Nat)

def At.block : At → Option Nat
  | .virt _ => none
  | .blk b _ _ _ _ => some b
  | .mp b => some b

structure Cx where
  F : Nat → Prop
  B : Nat
  w0 : World
  Z : Nat → Prop
  mrk : Bool
  H : Nat → Prop

abbrev Places := Nat → Option At

def Held (σ : Places) (b : Nat) : Prop := ∃ id loc, σ id = some loc ∧ loc.block = some b

def okB (C : Cx) (w : World) (σ : Places) (t : Bool) (b : Nat) : Prop :=
  ¬ Held σ b ∧ b < w.heap.size ∧ ((C.B ≤ b ∧ ¬ C.H b) ∨ (t = false ∧ C.F b)) ∧ (t = true → ∃ cur e, w.heap[b]? = some (.cells cur e (0, 0)))

def flat (ds : List Value) : List Value := ds.flatMap fun d => d.cells.toList

def Wf (es : Nat) (ds : List Value) : Prop := ∀ d ∈ ds, d.cells.size = es ∧ ∀ u ∈ d.cells.toList, u.oneCell' = true

def LiesE (w : World) (b off es : Nat) (ds : List Value) : Prop :=
  ∀ i d r u, ds[i]? = some d → d.cells.toList[r]? = some u → w.cell? ⟨b, off + i * es + r, none⟩ = some u

def Lies (w : World) (b off : Nat) (us : List Value) : Prop := ∀ j u, us[j]? = some u → w.cell? ⟨b, off + j, none⟩ = some u

section
variable (C : Cx) (w : World) (σ : Places)
mutual
def Rep (m : Option Bool) : V → Value → Prop
  | .int k n, c => c = .int k n
  | .bool b, c => c = .bool b
  | .lit v, c => c = v ∧ v.oneCell' = true
  | .und, c => c = undef
  | .agg cs, c => ∃ ds : List Value, c = .agg ds.toArray ∧ RepL m cs ds ∧ ∀ u ∈ ds, u.oneCell' = true
  | .tup cs, c => ∃ ds : List Value, c = .tuple ds.toArray ∧ RepL m cs ds
  | .sl t vs, c => xS vs = true ∧ ∃ a cap, c = .slice a vs.length cap ∧ vs.length ≤ cap ∧
      (vs = [] ∨ ∃ b off es ds, a = some ⟨b, off, none⟩ ∧ okB C w σ (m.getD t) b ∧ RepL (some (m.getD t)) vs ds ∧ Wf es ds ∧ 0 < es ∧ LiesE w b off es ds)
  | .emp, c => ∃ a, c = .slice a 0 0
  | .full t vs, c => xS vs = true ∧ ∃ a, c = .slice a vs.length vs.length ∧
      (vs = [] ∨ ∃ b off es ds, a = some ⟨b, off, none⟩ ∧ okB C w σ (m.getD t) b ∧ RepL (some (m.getD t)) vs ds ∧ Wf es ds ∧ 0 < es ∧ LiesE w b off es ds)
  | .fp t cs o, c => xS cs = true ∧ ∃ b off ds, c = .pointer (some ⟨b, off + o, none⟩) ∧ okB C w σ (m.getD t) b ∧
      RepL (some (m.getD t)) cs ds ∧ (∀ u ∈ ds, u.oneCell' = true) ∧ Lies w b off ds
  | .own id off len, c => match σ id with
    | none => False
    | some (.virt app) => off = 0 ∧ len = 0 ∧ ∃ a cp, c = .slice a 0 cp ∧ (app = true → cp = 0)
    | some (.blk b bo es cap app) => ∃ a cp, c = .slice a len cp ∧ len ≤ cp ∧
        ((len = 0 ∧ (app = true → cp = 0)) ∨ (a = some ⟨b, bo + off * es, none⟩ ∧ (app = true → off + cp ≤ cap)))
    | some (.mp _) => False
  | .pre id off len room, c => match σ id with
    | none => False
    | some (.virt _) => False
    | some (.blk b bo es cap app) => ∃ cp, c = .slice (some ⟨b, bo + off * es, none⟩) len cp ∧ len ≤ room ∧ room ≤ cp ∧ (app = true → off + cp ≤ cap)
    | some (.mp _) => False
  | .ptr id i o, c => match σ id with
    | none => False
    | some (.virt _) => False
    | some (.blk b bo es _ _) => c = .pointer (some ⟨b, bo + i * es + o, none⟩)
    | some (.mp _) => False
  | .mapr id, c => match σ id with
    | some (.mp b) => c = .map (some b)
    | _ => False
  | .clo f xs ys, c => ∃ fa fb : List Value, c = .func (.func f) fa.toArray fb.toArray ∧ RepL m xs fa ∧ RepL m ys fb
  | .junk, _ => True
def RepL (m : Option Bool) : List V → List Value → Prop
  | [], ds => ds = []
  | v :: vs, ds => ∃ d r, ds = d :: r ∧ Rep m v d ∧ RepL m vs r
end
end

section
variable {C C' : Cx} {w w' : World} {σ σ' : Places}

theorem RepL.length {m : Option Bool} : ∀ {vs : List V} {ds : List Value}, RepL C w σ m vs ds → ds.length = vs.length
  | [], ds, h => by simp [RepL] at h; simp [h]
  | v :: vs, ds, h => by
    simp only [RepL] at h
    obtain ⟨d, r, rfl, _, hr⟩ := h
    simp [RepL.length hr]

theorem Lies.mono {b off : Nat} {us : List Value} (h : Lies w b off us) (hc : ∀ o, w'.cell? ⟨b, o, none⟩ = w.cell? ⟨b, o, none⟩) : Lies w' b off us :=
  fun j u hu => (hc _).trans (h j u hu)

theorem LiesE.mono {b off es : Nat} {ds : List Value} (h : LiesE w b off es ds) (hc : ∀ o, w'.cell? ⟨b, o, none⟩ = w.cell? ⟨b, o, none⟩) : LiesE w' b off es ds :=
  fun i d r u hd hu => (hc _).trans (h i d r u hd hu)

mutual
theorem Rep.kill (id : Nat) (hok : ∀ t b, okB C w σ t b → okB C' w' σ' t b) (hc : ∀ t b o, okB C w σ t b → w'.cell? ⟨b, o, none⟩ = w.cell? ⟨b, o, none⟩)
    (hσ : ∀ j, j ≠ id → σ' j = σ j) : ∀ {m : Option Bool} (v : V) {c : Value}, Rep C w σ m v c → Rep C' w' σ' m (kill id v) c
  | m, .int k n, c, h => h
  | m, .bool b, c, h => h
  | m, .lit v, c, h => h
  | m, .und, c, h => h
  | m, .agg cs, c, h => by
    simp only [Rep, AM.kill] at h ⊢
    obtain ⟨ds, rfl, hl, h1⟩ := h
    exact ⟨ds, rfl, RepL.kill id hok hc hσ cs hl, h1⟩
  | m, .tup cs, c, h => by
    simp only [Rep, AM.kill] at h ⊢
    obtain ⟨ds, rfl, hl⟩ := h
    exact ⟨ds, rfl, RepL.kill id hok hc hσ cs hl⟩
  | m, .sl t vs, c, h => by
    simp only [Rep, AM.kill] at h ⊢
    obtain ⟨hf, a, cap, rfl, hle, hv⟩ := h
    refine ⟨hf, a, cap, rfl, hle, ?_⟩
    rcases hv with hv | ⟨b, off, es, ds, rfl, hb, hl, hw, hes, hlie⟩
    · exact .inl hv
    · exact .inr ⟨b, off, es, ds, rfl, hok _ _ hb, RepL.free hok hc vs hf hl, hw, hes, hlie.mono fun o => hc _ b o hb⟩
  | m, .full t vs, c, h => by
    simp only [Rep, AM.kill] at h ⊢
    obtain ⟨hf, a, rfl, hv⟩ := h
    refine ⟨hf, a, rfl, ?_⟩
    rcases hv with hv | ⟨b, off, es, ds, rfl, hb, hl, hw, hes, hlie⟩
    · exact .inl hv
    · exact .inr ⟨b, off, es, ds, rfl, hok _ _ hb, RepL.free hok hc vs hf hl, hw, hes, hlie.mono fun o => hc _ b o hb⟩
  | m, .emp, c, h => h
  | m, .fp t cs o, c, h => by
    simp only [Rep, AM.kill] at h ⊢
    obtain ⟨hf, b, off, ds, rfl, hb, hl, h1, hlie⟩ := h
    exact ⟨hf, b, off, ds, rfl, hok _ _ hb, RepL.free hok hc cs hf hl, h1, hlie.mono fun o => hc _ b o hb⟩
  | m, .own j off len, c, h => by
    simp only [AM.kill]
    split
    · trivial
    · rename_i hj
      simpa [Rep, hσ j hj] using h
  | m, .pre j off len room, c, h => by
    simp only [AM.kill]
    split
    · trivial
    · rename_i hj
      simpa [Rep, hσ j hj] using h
  | m, .ptr j i o, c, h => by
    simp only [AM.kill]
    split
    · trivial
    · rename_i hj
      simpa [Rep, hσ j hj] using h
  | m, .mapr j, c, h => by
    simp only [AM.kill]
    split
    · trivial
    · rename_i hj
      simpa [Rep, hσ j hj] using h
  | m, .clo f xs ys, c, h => by
    simp only [Rep, AM.kill] at h ⊢
    obtain ⟨fa, fb, rfl, hx, hy⟩ := h
    exact ⟨fa, fb, rfl, RepL.kill id hok hc hσ xs hx, RepL.kill id hok hc hσ ys hy⟩
  | m, .junk, c, _ => trivial
theorem RepL.kill (id : Nat) (hok : ∀ t b, okB C w σ t b → okB C' w' σ' t b) (hc : ∀ t b o, okB C w σ t b → w'.cell? ⟨b, o, none⟩ = w.cell? ⟨b, o, none⟩)
    (hσ : ∀ j, j ≠ id → σ' j = σ j) : ∀ {m : Option Bool} (vs : List V) {ds : List Value}, RepL C w σ m vs ds → RepL C' w' σ' m (killL id vs) ds
  | m, [], ds, h => h
  | m, v :: vs, ds, h => by
    simp only [RepL, killL] at h ⊢
    obtain ⟨d, r, rfl, hd, hr⟩ := h
    exact ⟨d, r, rfl, Rep.kill id hok hc hσ v hd, RepL.kill id hok hc hσ vs hr⟩
theorem Rep.free (hok : ∀ t b, okB C w σ t b → okB C' w' σ' t b) (hc : ∀ t b o, okB C w σ t b → w'.cell? ⟨b, o, none⟩ = w.cell? ⟨b, o, none⟩) :
    ∀ {m : Option Bool} (v : V) {c : Value}, refFree v = true → Rep C w σ m v c → Rep C' w' σ' m v c
  | m, .int k n, c, _, h => h
  | m, .bool b, c, _, h => h
  | m, .lit v, c, _, h => h
  | m, .und, c, _, h => h
  | m, .agg cs, c, hf, h => by
    simp only [Rep, refFree] at h hf ⊢
    obtain ⟨ds, rfl, hl, h1⟩ := h
    exact ⟨ds, rfl, RepL.free hok hc cs hf hl, h1⟩
  | m, .tup cs, c, hf, h => by
    simp only [Rep, refFree] at h hf ⊢
    obtain ⟨ds, rfl, hl⟩ := h
    exact ⟨ds, rfl, RepL.free hok hc cs hf hl⟩
  | m, .sl t vs, c, _, h => by
    simp only [Rep] at h ⊢
    obtain ⟨hf, a, cap, rfl, hle, hv⟩ := h
    refine ⟨hf, a, cap, rfl, hle, ?_⟩
    rcases hv with hv | ⟨b, off, es, ds, rfl, hb, hl, hw, hes, hlie⟩
    · exact .inl hv
    · exact .inr ⟨b, off, es, ds, rfl, hok _ _ hb, RepL.free hok hc vs hf hl, hw, hes, hlie.mono fun o => hc _ b o hb⟩
  | m, .full t vs, c, _, h => by
    simp only [Rep] at h ⊢
    obtain ⟨hf, a, rfl, hv⟩ := h
    refine ⟨hf, a, rfl, ?_⟩
    rcases hv with hv | ⟨b, off, es, ds, rfl, hb, hl, hw, hes, hlie⟩
    · exact .inl hv
    · exact .inr ⟨b, off, es, ds, rfl, hok _ _ hb, RepL.free hok hc vs hf hl, hw, hes, hlie.mono fun o => hc _ b o hb⟩
  | m, .emp, c, _, h => h
  | m, .fp t cs o, c, _, h => by
    simp only [Rep] at h ⊢
    obtain ⟨hf, b, off, ds, rfl, hb, hl, h1, hlie⟩ := h
    exact ⟨hf, b, off, ds, rfl, hok _ _ hb, RepL.free hok hc cs hf hl, h1, hlie.mono fun o => hc _ b o hb⟩
  | m, .own j off len, c, hf, h => by simp [refFree] at hf
  | m, .pre j off len room, c, hf, h => by simp [refFree] at hf
  | m, .ptr j i o, c, hf, h => by simp [refFree] at hf
  | m, .mapr j, c, hf, h => by simp [refFree] at hf
  | m, .clo f xs ys, c, hf, h => by
    simp only [Rep, refFree, Bool.and_eq_true] at h hf ⊢
    obtain ⟨fa, fb, rfl, hx, hy⟩ := h
    exact ⟨fa, fb, rfl, RepL.free hok hc xs hf.1 hx, RepL.free hok hc ys hf.2 hy⟩
  | m, .junk, c, _, _ => trivial
theorem RepL.free (hok : ∀ t b, okB C w σ t b → okB C' w' σ' t b) (hc : ∀ t b o, okB C w σ t b → w'.cell? ⟨b, o, none⟩ = w.cell? ⟨b, o, none⟩) :
    ∀ {m : Option Bool} (vs : List V) {ds : List Value}, xS vs = true → RepL C w σ m vs ds → RepL C' w' σ' m vs ds
  | m, [], ds, _, h => h
  | m, v :: vs, ds, hf, h => by
    simp only [RepL, xS, Bool.and_eq_true] at h hf ⊢
    obtain ⟨d, r, rfl, hd, hr⟩ := h
    exact ⟨d, r, rfl, Rep.free hok hc v hf.1 hd, RepL.free hok hc vs hf.2 hr⟩
end

mutual
theorem Rep.mono (hok : ∀ t b, okB C w σ t b → okB C' w' σ' t b) (hc : ∀ t b o, okB C w σ t b → w'.cell? ⟨b, o, none⟩ = w.cell? ⟨b, o, none⟩)
    (hσ : ∀ j, σ' j = σ j) : ∀ {m : Option Bool} (v : V) {c : Value}, Rep C w σ m v c → Rep C' w' σ' m v c
  | m, .int k n, c, h => h
  | m, .bool b, c, h => h
  | m, .lit v, c, h => h
  | m, .und, c, h => h
  | m, .agg cs, c, h => by
    simp only [Rep] at h ⊢
    obtain ⟨ds, rfl, hl, h1⟩ := h
    exact ⟨ds, rfl, RepL.mono hok hc hσ cs hl, h1⟩
  | m, .tup cs, c, h => by
    simp only [Rep] at h ⊢
    obtain ⟨ds, rfl, hl⟩ := h
    exact ⟨ds, rfl, RepL.mono hok hc hσ cs hl⟩
  | m, .sl t vs, c, h => by
    have hf : refFree (.sl t vs) = true := rfl
    exact Rep.free hok hc _ hf h
  | m, .full t vs, c, h => by
    have hf : refFree (.full t vs) = true := rfl
    exact Rep.free hok hc _ hf h
  | m, .emp, c, h => h
  | m, .fp t cs o, c, h => by
    have hf : refFree (.fp t cs o) = true := rfl
    exact Rep.free hok hc _ hf h
  | m, .own j off len, c, h => by
    simpa [Rep, hσ j] using h
  | m, .pre j off len room, c, h => by
    simpa [Rep, hσ j] using h
  | m, .ptr j i o, c, h => by
    simpa [Rep, hσ j] using h
  | m, .mapr j, c, h => by
    simpa [Rep, hσ j] using h
  | m, .clo f xs ys, c, h => by
    simp only [Rep] at h ⊢
    obtain ⟨fa, fb, rfl, hx, hy⟩ := h
    exact ⟨fa, fb, rfl, RepL.mono hok hc hσ xs hx, RepL.mono hok hc hσ ys hy⟩
  | m, .junk, c, _ => trivial
theorem RepL.mono (hok : ∀ t b, okB C w σ t b → okB C' w' σ' t b) (hc : ∀ t b o, okB C w σ t b → w'.cell? ⟨b, o, none⟩ = w.cell? ⟨b, o, none⟩)
    (hσ : ∀ j, σ' j = σ j) : ∀ {m : Option Bool} (vs : List V) {ds : List Value}, RepL C w σ m vs ds → RepL C' w' σ' m vs ds
  | m, [], ds, h => h
  | m, v :: vs, ds, h => by
    simp only [RepL] at h ⊢
    obtain ⟨d, r, rfl, hd, hr⟩ := h
    exact ⟨d, r, rfl, Rep.mono hok hc hσ v hd, RepL.mono hok hc hσ vs hr⟩
end

theorem okB.weaken {t t' : Bool} {b : Nat} (ht : t' = true → t = true) (h : okB C w σ t b) : okB C w σ t' b := by
  refine ⟨h.1, h.2.1, ?_, fun e => h.2.2.2 (ht e)⟩
  rcases h.2.2.1 with h | ⟨h, hf⟩
  · exact .inl h
  · cases t' with
    | true => simp [ht rfl] at h
    | false => exact .inr ⟨rfl, hf⟩

mutual
theorem Rep.into {m : Option Bool} (t : Bool) : ∀ (v : V) {c : Value}, (t = true → m.getD true = true) → (t = true → m = none → isNew v = true) → Rep C w σ m v c → Rep C w σ (some t) v c
  | .int k n, c, _, _, h => h
  | .bool b, c, _, _, h => h
  | .lit v, c, _, _, h => h
  | .und, c, _, _, h => h
  | .agg cs, c, hm, hn, h => by
    simp only [Rep] at h ⊢
    obtain ⟨ds, rfl, hl, h1⟩ := h
    exact ⟨ds, rfl, RepL.into t cs hm (fun a b => by simpa [isNew] using hn a b) hl, h1⟩
  | .tup cs, c, hm, hn, h => by
    simp only [Rep] at h ⊢
    obtain ⟨ds, rfl, hl⟩ := h
    exact ⟨ds, rfl, RepL.into t cs hm (fun a b => by simpa [isNew] using hn a b) hl⟩
  | .sl s vs, c, hm, hn, h => by
    simp only [Rep] at h ⊢
    obtain ⟨hf, a, cap, rfl, hle, hv⟩ := h
    refine ⟨hf, a, cap, rfl, hle, ?_⟩
    rcases hv with hv | ⟨b, off, es, ds, rfl, hb, hl, hw, hes, hlie⟩
    · exact .inl hv
    · have hk : t = true → m.getD s = true := fun e => by
        cases m with
        | none => simpa [isNew] using hn e rfl
        | some x => simpa using hm e
      refine .inr ⟨b, off, es, ds, rfl, hb.weaken (by simpa using hk), RepL.into (m := some (m.getD s)) t vs (by simpa using hk) (fun _ e => by cases e) hl, hw, hes, hlie⟩
  | .full s vs, c, hm, hn, h => by
    simp only [Rep] at h ⊢
    obtain ⟨hf, a, rfl, hv⟩ := h
    refine ⟨hf, a, rfl, ?_⟩
    rcases hv with hv | ⟨b, off, es, ds, rfl, hb, hl, hw, hes, hlie⟩
    · exact .inl hv
    · have hk : t = true → m.getD s = true := fun e => by
        cases m with
        | none => simpa [isNew] using hn e rfl
        | some x => simpa using hm e
      refine .inr ⟨b, off, es, ds, rfl, hb.weaken (by simpa using hk), RepL.into (m := some (m.getD s)) t vs (by simpa using hk) (fun _ e => by cases e) hl, hw, hes, hlie⟩
  | .emp, c, _, _, h => h
  | .fp s cs o, c, hm, hn, h => by
    simp only [Rep] at h ⊢
    obtain ⟨hf, b, off, ds, rfl, hb, hl, h1, hlie⟩ := h
    have hk : t = true → m.getD s = true := fun e => by
      cases m with
      | none => simpa [isNew] using hn e rfl
      | some x => simpa using hm e
    exact ⟨hf, b, off, ds, rfl, hb.weaken (by simpa using hk), RepL.into (m := some (m.getD s)) t cs (by simpa using hk) (fun _ e => by cases e) hl, h1, hlie⟩
  | .own j off len, c, _, _, h => h
  | .pre j off len room, c, _, _, h => h
  | .ptr j i o, c, _, _, h => h
  | .mapr j, c, _, _, h => h
  | .clo f xs ys, c, hm, hn, h => by
    simp only [Rep] at h ⊢
    obtain ⟨fa, fb, rfl, hx, hy⟩ := h
    exact ⟨fa, fb, rfl, RepL.into t xs hm (fun a b => by have := hn a b; simp [isNew] at this; exact this.1) hx,
      RepL.into t ys hm (fun a b => by have := hn a b; simp [isNew] at this; exact this.2) hy⟩
  | .junk, c, _, _, _ => trivial
theorem RepL.into {m : Option Bool} (t : Bool) : ∀ (vs : List V) {ds : List Value}, (t = true → m.getD true = true) → (t = true → m = none → xT vs = true) → RepL C w σ m vs ds → RepL C w σ (some t) vs ds
  | [], ds, _, _, h => h
  | v :: vs, ds, hm, hn, h => by
    simp only [RepL] at h ⊢
    obtain ⟨d, r, rfl, hd, hr⟩ := h
    exact ⟨d, r, rfl, Rep.into t v hm (fun a b => by have := hn a b; simp [xT] at this; exact this.1) hd,
      RepL.into t vs hm (fun a b => by have := hn a b; simp [xT] at this; exact this.2) hr⟩
end

mutual
theorem Rep.bare {m m' : Option Bool} : ∀ (v : V) {c : Value}, bare v = true → Rep C w σ m v c → Rep C w σ m' v c
  | .int k n, c, _, h => h
  | .bool b, c, _, h => h
  | .agg cs, c, hb, h => by
    simp only [Go.AM.bare] at hb
    simp only [Rep] at h ⊢
    obtain ⟨ds, rfl, hl, h1⟩ := h
    exact ⟨ds, rfl, RepL.bare cs hb hl, h1⟩
  | .lit _, _, hb, _ => by simp [Go.AM.bare] at hb
  | .und, _, hb, _ => by simp [Go.AM.bare] at hb
  | .tup _, _, hb, _ => by simp [Go.AM.bare] at hb
  | .sl .., _, hb, _ => by simp [Go.AM.bare] at hb
  | .emp, _, hb, _ => by simp [Go.AM.bare] at hb
  | .full .., _, hb, _ => by simp [Go.AM.bare] at hb
  | .fp .., _, hb, _ => by simp [Go.AM.bare] at hb
  | .own .., _, hb, _ => by simp [Go.AM.bare] at hb
  | .pre .., _, hb, _ => by simp [Go.AM.bare] at hb
  | .ptr .., _, hb, _ => by simp [Go.AM.bare] at hb
  | .mapr _, _, hb, _ => by simp [Go.AM.bare] at hb
  | .clo .., _, hb, _ => by simp [Go.AM.bare] at hb
  | .junk, _, hb, _ => by simp [Go.AM.bare] at hb
theorem RepL.bare {m m' : Option Bool} : ∀ (vs : List V) {ds : List Value}, bareL vs = true → RepL C w σ m vs ds → RepL C w σ m' vs ds
  | [], ds, _, h => h
  | v :: vs, ds, hb, h => by
    simp only [Go.AM.bareL, Bool.and_eq_true] at hb
    simp only [RepL] at h ⊢
    obtain ⟨d, r, rfl, hd, hr⟩ := h
    exact ⟨d, r, rfl, Rep.bare v hb.1 hd, RepL.bare vs hb.2 hr⟩
end

mutual
theorem Rep.outOf (t : Bool) : ∀ (v : V) {c : Value}, Rep C w σ (some t) v c → Rep C w σ none (retag t v) c
  | .int k n, c, h => h
  | .bool b, c, h => h
  | .lit v, c, h => h
  | .und, c, h => h
  | .agg cs, c, h => by
    simp only [Rep, retag] at h ⊢
    obtain ⟨ds, rfl, hl, h1⟩ := h
    exact ⟨ds, rfl, RepL.outOf t cs hl, h1⟩
  | .tup cs, c, h => by
    simp only [Rep, retag] at h ⊢
    obtain ⟨ds, rfl, hl⟩ := h
    exact ⟨ds, rfl, RepL.outOf t cs hl⟩
  | .sl s vs, c, h => by simpa [Rep, retag] using h
  | .full s vs, c, h => by simpa [Rep, retag] using h
  | .emp, c, h => h
  | .fp s cs o, c, h => by simpa [Rep, retag] using h
  | .own j off len, c, h => h
  | .pre j off len room, c, h => h
  | .ptr j i o, c, h => h
  | .mapr j, c, h => h
  | .clo f xs ys, c, h => by
    simp only [Rep, retag] at h ⊢
    obtain ⟨fa, fb, rfl, hx, hy⟩ := h
    exact ⟨fa, fb, rfl, RepL.outOf t xs hx, RepL.outOf t ys hy⟩
  | .junk, c, _ => trivial
theorem RepL.outOf (t : Bool) : ∀ (vs : List V) {ds : List Value}, RepL C w σ (some t) vs ds → RepL C w σ none (xU t vs) ds
  | [], ds, h => h
  | v :: vs, ds, h => by
    simp only [RepL, xU] at h ⊢
    obtain ⟨d, r, rfl, hd, hr⟩ := h
    exact ⟨d, r, rfl, Rep.outOf t v hd, RepL.outOf t vs hr⟩
end

end
end Go.AM
end

section
/-
When a state of the abstract machine fits an activation and a world; what putting a value, forgetting an object, laying a new one and writing into one do to that.
-/
namespace Go.AM
open Go Go.RowKit

def RepLL (C : Cx) (w : World) (σ : Places) : List (List V) → List (List Value) → Prop
  | [], ds => ds = []
  | l :: r, ds => ∃ d q, ds = d :: q ∧ RepL C w σ none l d ∧ RepLL C w σ r q

def ObRep (C : Cx) (w : World) (σ : Places) (ob : Ob) : At → Prop
  | .virt app => ob.elems = [] ∧ ob.app = app ∧ 0 < ob.es
  | .blk b bo es cap app => ob.es = es ∧ 0 < es ∧ ob.app = app ∧ ∃ cur e ds, w.heap[b]? = some (.cells cur e (0, 0)) ∧ RepL C w σ (some ob.t) ob.elems ds ∧ Wf es ds ∧
      (∀ i d r u, ds[i]? = some d → d.cells.toList[r]? = some u → cur.toList[bo + i * es + r]? = some u) ∧ (app = true → bo = 0 ∧ cur.size = cap * es ∧ cap ≤ maxLen ∧ ob.elems.length ≤ cap)
  | .mp b => ob.es = 0 ∧ ob.flat = true ∧ ob.app = false ∧ ∃ es clock, w.heap[b]? = some (.map es clock) ∧ RepL C w σ none ob.elems (es.toList.map fun e => .tuple #[e.key, e.val])

def Marks (C : Cx) (w : World) (σ : Places) (ms : List Deferred) : Prop :=
  (ms = [] ∨ C.mrk = true) ∧ ms.Nodup ∧ ∀ d ∈ ms, ∃ r, d = { target := .collected r, args := #[] } ∧ (C.B ≤ r ∧ ¬ C.Z r) ∧ r < w.heap.size ∧ ¬ Held σ r ∧ w.heap[r]? = some (.deferred (some []))

structure Still (C : Cx) (w : World) (σ : Places) (D : List Deferred) (l : List Deferred) : Prop where
  marks : ∃ ms, l = ms ++ D ∧ Marks C w σ ms
  zed : ∀ b, C.Z b → ¬ Held σ b ∧ b < w.heap.size ∧ w.heap[b]? = C.w0.heap[b]?
  hid : ∀ b, C.H b → C.Z b

theorem Still.mono {C : Cx} {w w' : World} {σ σ' : Places} {D l : List Deferred} (h : Still C w σ D l) (hσ : ∀ b, b < w.heap.size → Held σ' b → Held σ b) (hs : w.heap.size ≤ w'.heap.size)
    (hw : ∀ b, b < w.heap.size → ¬ Held σ b → w'.heap[b]? = w.heap[b]?) : Still C w' σ' D l := by
  obtain ⟨ms, hl, hm⟩ := h.marks
  refine ⟨⟨ms, hl, hm.1, hm.2.1, fun d hd => ?_⟩, fun b hb => ?_, h.hid⟩
  · obtain ⟨r, h1, h2, h3, h4, h5⟩ := hm.2.2 d hd
    exact ⟨r, h1, h2, Nat.lt_of_lt_of_le h3 hs, fun hh => h4 (hσ r h3 hh), (hw r h3 h4).trans h5⟩
  · obtain ⟨h1, h2, h3⟩ := h.zed b hb
    exact ⟨fun hh => h1 (hσ b h2 hh), Nat.lt_of_lt_of_le h2 hs, (hw b h2 h1).trans h3⟩

theorem Still.refl {C : Cx} {w : World} {σ : Places} {D : List Deferred} (h : ∀ b, C.Z b → ¬ Held σ b ∧ b < w.heap.size ∧ w.heap[b]? = C.w0.heap[b]?) (hh : ∀ b, C.H b → C.Z b) : Still C w σ D D :=
  ⟨⟨[], rfl, .inl rfl, List.nodup_nil, fun _ h => by cases h⟩, h, hh⟩

structure Sim (C : Cx) (D : List Deferred) (outs : List (List Value)) (st : St) (a : Act) (w : World) (σ : Places) : Prop where
  slots : RepL C w σ none st.slots a.tmps.toList
  outer : RepLL C w σ st.outer outs
  objs : ∀ id ob, look st.objs id = some ob → ∃ loc, σ id = some loc ∧ ObRep C w σ ob loc ∧ (ob.flat = true → xS ob.elems = true)
  dom : ∀ id, look st.objs id = none → σ id = none
  inj : ∀ i j li lj b, σ i = some li → σ j = some lj → li.block = some b → lj.block = some b → i = j
  held : ∀ b, Held σ b → C.B ≤ b ∧ b < w.heap.size
  below : Below C.B C.w0 w
  base : C.B ≤ w.heap.size
  old : ∀ b, C.F b → b < C.B
  still : Still C w σ D a.defers

section
variable {α : Type}
theorem look_upd (l : List (Nat × α)) (i j : Nat) (y : α) : look (upd l i y) j = if j = i then some y else look l j := by
  induction l with
  | nil => by_cases h : j = i <;> simp [upd, look, h, eq_comm] ; intro e; exact absurd e.symm h
  | cons p r ih =>
    obtain ⟨k, x⟩ := p
    by_cases h : i = k
    · subst h
      by_cases h2 : j = i
      · simp [upd, look, h2]
      · simp [upd, look, h2, Ne.symm h2]
    · by_cases h3 : i < k
      · by_cases h2 : j = i
        · subst h2
          simp [upd, look, h, h3]
        · simp [upd, look, h, h3, h2, Ne.symm h2]
      · by_cases h2 : j = k
        · subst h2
          simp [upd, look, h, h3, Ne.symm h]
        · simp [upd, look, h, h3, Ne.symm h2, ih]
end

theorem look_killObs (id : Nat) (l : List (Nat × Ob)) (j : Nat) : look (xW id l) j = if j = id then none else (look l j).map (zA id) := by
  induction l with
  | nil => simp [xW, look]
  | cons p r ih =>
    obtain ⟨k, x⟩ := p
    simp only [xW]
    split
    · rename_i h; subst h
      rw [ih]
      simp only [look]
      split
      · rfl
      · rename_i hj; rw [if_neg (Ne.symm hj)]
    · rename_i hk
      simp only [look, ih]
      split
      · rename_i h; subst h; simp [hk]
      · rfl

section
variable {C C' : Cx} {D : List Deferred} {outs : List (List Value)} {st : St} {a : Act} {w w' : World} {σ σ' : Places}

theorem RepLL.mono (hok : ∀ t b, okB C w σ t b → okB C' w' σ' t b) (hc : ∀ t b o, okB C w σ t b → w'.cell? ⟨b, o, none⟩ = w.cell? ⟨b, o, none⟩)
    (hσ : ∀ j, σ' j = σ j) : ∀ {ls : List (List V)} {ds : List (List Value)}, RepLL C w σ ls ds → RepLL C' w' σ' ls ds
  | [], _, h => h
  | l :: r, ds, h => by
    simp only [RepLL] at h ⊢
    obtain ⟨d, q, rfl, h1, h2⟩ := h
    exact ⟨d, q, rfl, RepL.mono hok hc hσ l h1, RepLL.mono hok hc hσ h2⟩

theorem RepLL.kill (id : Nat) (hok : ∀ t b, okB C w σ t b → okB C w' σ' t b) (hc : ∀ t b o, okB C w σ t b → w'.cell? ⟨b, o, none⟩ = w.cell? ⟨b, o, none⟩)
    (hσ : ∀ j, j ≠ id → σ' j = σ j) : ∀ {ls : List (List V)} {ds : List (List Value)}, RepLL C w σ ls ds → RepLL C w' σ' (xV id ls) ds
  | [], _, h => h
  | l :: r, ds, h => by
    simp only [RepLL, xV] at h ⊢
    obtain ⟨d, q, rfl, h1, h2⟩ := h
    exact ⟨d, q, rfl, RepL.kill id hok hc hσ l h1, RepLL.kill id hok hc hσ h2⟩

theorem RepL.get {m : Option Bool} : ∀ {vs : List V} {ds : List Value} (i : Nat) {v : V}, RepL C w σ m vs ds → vs[i]? = some v → ∃ d, ds[i]? = some d ∧ Rep C w σ m v d
  | [], _, _, _, _, h => by simp at h
  | v :: vs, ds, 0, u, h, hu => by
    simp only [RepL] at h
    obtain ⟨d, r, rfl, hd, _⟩ := h
    simp at hu; subst hu
    exact ⟨d, rfl, hd⟩
  | v :: vs, ds, i + 1, u, h, hu => by
    simp only [RepL] at h
    obtain ⟨d, r, rfl, _, hr⟩ := h
    simpa using RepL.get i hr (by simpa using hu)

theorem RepL.set {m : Option Bool} : ∀ {vs : List V} {ds : List Value} (i : Nat) {v : V} {d : Value}, RepL C w σ m vs ds → Rep C w σ m v d → RepL C w σ m (vs.set i v) (ds.set i d)
  | [], ds, i, v, d, h, _ => by simp [RepL] at h; subst h; simp [RepL]
  | x :: vs, ds, 0, v, d, h, hv => by
    simp only [RepL] at h
    obtain ⟨e, r, rfl, _, hr⟩ := h
    exact ⟨d, r, rfl, hv, hr⟩
  | x :: vs, ds, i + 1, v, d, h, hv => by
    simp only [RepL] at h
    obtain ⟨e, r, rfl, he, hr⟩ := h
    exact ⟨e, r.set i d, rfl, he, RepL.set i hr hv⟩

theorem RepL.app {m : Option Bool} : ∀ {vs us : List V} {ds es : List Value}, RepL C w σ m vs ds → RepL C w σ m us es → RepL C w σ m (vs ++ us) (ds ++ es)
  | [], us, ds, es, h, h' => by simp [RepL] at h; subst h; simpa using h'
  | v :: vs, us, ds, es, h, h' => by
    simp only [RepL] at h
    obtain ⟨d, r, rfl, hd, hr⟩ := h
    exact ⟨d, r ++ es, rfl, hd, RepL.app hr h'⟩

theorem RepL.take {m : Option Bool} : ∀ {vs : List V} {ds : List Value} (n : Nat), RepL C w σ m vs ds → RepL C w σ m (vs.take n) (ds.take n)
  | [], ds, n, h => by simp [RepL] at h; subst h; simp [RepL]
  | v :: vs, ds, 0, h => by simp [RepL]
  | v :: vs, ds, n + 1, h => by
    simp only [RepL] at h
    obtain ⟨d, r, rfl, hd, hr⟩ := h
    exact ⟨d, r.take n, rfl, hd, RepL.take n hr⟩

theorem RepL.drop {m : Option Bool} : ∀ {vs : List V} {ds : List Value} (n : Nat), RepL C w σ m vs ds → RepL C w σ m (vs.drop n) (ds.drop n)
  | [], ds, n, h => by simp [RepL] at h; subst h; simp [RepL]
  | v :: vs, ds, 0, h => by simpa using h
  | v :: vs, ds, n + 1, h => by
    simp only [RepL] at h
    obtain ⟨d, r, rfl, hd, hr⟩ := h
    simpa using RepL.drop n hr

theorem RepL.split {m : Option Bool} : ∀ {vs us : List V} {ds : List Value}, RepL C w σ m (vs ++ us) ds → ∃ d1 d2, ds = d1 ++ d2 ∧ RepL C w σ m vs d1 ∧ RepL C w σ m us d2
  | [], us, ds, h => ⟨[], ds, rfl, rfl, h⟩
  | v :: vs, us, ds, h => by
    simp only [List.cons_append, RepL] at h
    obtain ⟨d, r, rfl, hd, hr⟩ := h
    obtain ⟨d1, d2, rfl, h1, h2⟩ := RepL.split hr
    exact ⟨d :: d1, d2, rfl, ⟨d, d1, rfl, hd, h1⟩, h2⟩

theorem Sim.get (h : Sim C D outs st a w σ) (t : Nat) : Rep C w σ none (st.get t) (a.tmps.getD t undef) := by
  unfold St.get
  rw [List.getD_eq_getElem?_getD]
  cases hv : st.slots[t]? with
  | none => simp [Rep]
  | some v =>
    obtain ⟨d, hd, hr⟩ := RepL.get t h.slots hv
    have : a.tmps[t]? = some d := by rw [← Array.getElem?_toList]; exact hd
    simpa [this] using hr

theorem Sim.put (h : Sim C D outs st a w σ) {dst : Option Nat} {v : V} {c : Value} (hv : Rep C w σ none v c) : Sim C D outs (st.put dst v) (a.put dst c) w σ := by
  cases dst with
  | none => exact h
  | some d =>
    refine { h with slots := ?_, outer := h.outer, objs := h.objs, dom := h.dom, still := ?_ }
    · have := RepL.set d h.slots hv
      simpa [St.put, Act.put] using this
    · simpa [Act.put] using h.still

theorem constV_rep (v : Value) : Rep C w σ none (constV v) v := by
  unfold constV
  split <;> first | rfl | exact ⟨_, rfl⟩ | exact ⟨rfl, rfl⟩ | trivial

theorem Sim.eval (h : Sim C D outs st a w σ) (x : Operand) : Rep C w σ none (st.eval x) (a.eval x) := by
  cases x with
  | tmp t => exact h.get t
  | const v => exact constV_rep v
  | func f => exact ⟨[], [], rfl, rfl, rfl⟩
  | global g => trivial

theorem Held.sub (hσ : ∀ j, σ' j = none ∨ σ' j = σ j) {b : Nat} (h : Held σ' b) : Held σ b := by
  obtain ⟨id, loc, hi, hb⟩ := h
  rcases hσ id with e | e
  · simp [e] at hi
  · exact ⟨id, loc, e ▸ hi, hb⟩

theorem Held.of {id b : Nat} {loc : At} (h : σ id = some loc) (hb : loc.block = some b := by rfl) : Held σ b := ⟨id, loc, h, hb⟩

theorem ObRep.mono {ob : Ob} {loc : At} (h : ObRep C w σ ob loc) (hok : ∀ t b, okB C w σ t b → okB C' w' σ' t b) (hc : ∀ t b o, okB C w σ t b → w'.cell? ⟨b, o, none⟩ = w.cell? ⟨b, o, none⟩)
    (hσ : ∀ j, σ' j = σ j) (hh : ∀ b, loc.block = some b → w'.heap[b]? = w.heap[b]?) : ObRep C' w' σ' ob loc := by
  cases loc with
  | virt app => exact h
  | blk b bo es cap app =>
    obtain ⟨h1, h2, h3, cur, e, ds, hg, hl, hr⟩ := h
    exact ⟨h1, h2, h3, cur, e, ds, (hh _ rfl).trans hg, RepL.mono hok hc hσ _ hl, hr⟩
  | mp b =>
    obtain ⟨h1, h2, h3, es, ck, hg, hl⟩ := h
    exact ⟨h1, h2, h3, es, ck, (hh _ rfl).trans hg, RepL.mono hok hc hσ _ hl⟩

theorem Sim.drop (h : Sim C D outs st a w σ) (id : Nat) : Sim C D outs (st.drop id) a w (fun j => if j = id then none else σ j) := by
  have hσ : ∀ j, (if j = id then none else σ j) = none ∨ (if j = id then none else σ j) = σ j := fun j => by split <;> simp
  have hσ' : ∀ j, j ≠ id → (if j = id then none else σ j) = σ j := fun j hj => if_neg hj
  have hok : ∀ t b, okB C w σ t b → okB C w (fun j => if j = id then none else σ j) t b := fun t b hb => ⟨fun hh => hb.1 (hh.sub hσ), hb.2⟩
  have hc : ∀ (t : Bool) (b o : Nat), okB C w σ t b → w.cell? ⟨b, o, none⟩ = w.cell? ⟨b, o, none⟩ := fun _ _ _ _ => rfl
  refine ⟨RepL.kill id hok hc hσ' _ h.slots, RepLL.kill id hok hc hσ' h.outer, fun j ob hj => ?_, fun j hj => ?_, fun i j li lj b hi hj hbi hbj => ?_, fun b hb => h.held b (hb.sub hσ), h.below, h.base, h.old, h.still.mono (fun b _ hb => hb.sub hσ) (Nat.le_refl _) (fun _ _ _ => rfl)⟩
  · simp only [St.drop, look_killObs] at hj
    split at hj
    · cases hj
    · rename_i hne
      obtain ⟨ob', ho', rfl⟩ := Option.map_eq_some_iff.1 hj
      obtain ⟨loc, hl, hr, hfl⟩ := h.objs j ob' ho'
      refine ⟨loc, by simp [hne, hl], ?_, ?_⟩
      · cases loc with
        | virt app =>
          obtain ⟨h1, h2, h3⟩ := hr
          unfold zA
          split
          · exact ⟨h1, h2, h3⟩
          · exact ⟨by simp [h1, killL], h2, h3⟩
        | blk b bo es cap app =>
          obtain ⟨h1, h2, h3, cur, e, ds, hg, hl', hwf, hcur, happ⟩ := hr
          unfold zA
          split
          · rename_i hf
            exact ⟨h1, h2, h3, cur, e, ds, hg, RepL.free hok hc _ (hfl hf) hl', hwf, hcur, happ⟩
          · have hk := RepL.kill id hok hc hσ' _ hl'
            have hlen : (killL id ob'.elems).length = ob'.elems.length := by rw [← hk.length, ← hl'.length]
            exact ⟨h1, h2, h3, cur, e, ds, hg, hk, hwf, hcur, fun x => by have := happ x; simp only [hlen]; exact this⟩
        | mp b =>
          obtain ⟨h1, h2, h3, es, ck, hg, hl'⟩ := hr
          unfold zA
          rw [if_pos h2]
          exact ⟨h1, h2, h3, es, ck, hg, RepL.free hok hc _ (hfl h2) hl'⟩
      · unfold zA
        split
        · exact hfl
        · rename_i hf; intro hf'; exact absurd hf' hf
  · simp only [St.drop, look_killObs] at hj
    split at hj
    · rename_i e; simp [e]
    · rename_i hne
      simp [hne, h.dom j (by simpa using hj)]
  · have hi' := (hσ i).resolve_left (by rw [hi]; simp)
    have hj' := (hσ j).resolve_left (by rw [hj]; simp)
    exact h.inj i j li lj b (hi' ▸ hi) (hj' ▸ hj) hbi hbj

theorem Sim.dropL : ∀ {l : List Nat} {st : St} {σ : Places}, Sim C D outs st a w σ → ∃ σ', Sim C D outs (st.dropL l) a w σ' ∧ ∀ b, Held σ' b → Held σ b
  | [], st, σ, h => ⟨σ, h, fun _ hb => hb⟩
  | i :: r, st, σ, h => by
    obtain ⟨σ', h', hs⟩ := Sim.dropL (l := r) (h.drop i)
    exact ⟨σ', h', fun b hb => (hs b hb).sub fun j => by by_cases e : j = i <;> simp [e]⟩

theorem okB.grow (hw : Below w.heap.size w w') {t : Bool} {b : Nat} (h : okB C w σ t b) : okB C w' σ t b :=
  ⟨h.1, Nat.lt_of_lt_of_le h.2.1 hw.size, h.2.2.1, fun e => by rw [hw.block b h.2.1]; exact h.2.2.2 e⟩

theorem Sim.world (h : Sim C D outs st a w σ) (hw : Below w.heap.size w w') : Sim C D outs st a w' σ := by
  have hok : ∀ t b, okB C w σ t b → okB C w' σ t b := fun t b hb => hb.grow hw
  have hc : ∀ (t : Bool) (b o : Nat), okB C w σ t b → w'.cell? ⟨b, o, none⟩ = w.cell? ⟨b, o, none⟩ := fun t b o hb => hw.cell (p := ⟨b, o, none⟩) hb.2.1
  have hσ : ∀ j, σ j = σ j := fun _ => rfl
  refine ⟨RepL.mono hok hc hσ _ h.slots, RepLL.mono hok hc hσ h.outer, fun id ob ho => ?_, h.dom, h.inj, fun b hb => ⟨(h.held b hb).1, Nat.lt_of_lt_of_le (h.held b hb).2 hw.size⟩, h.below.trans (hw.mono h.base), Nat.le_trans h.base hw.size, h.old, h.still.mono (fun _ _ hb => hb) hw.size (fun b hb _ => hw.block b hb)⟩
  obtain ⟨loc, hl, hr, hf⟩ := h.objs id ob ho
  exact ⟨loc, hl, hr.mono hok hc hσ (fun b e => hw.block b (h.held b ⟨id, loc, hl, e⟩).2), hf⟩

def setP (σ : Places) (id : Nat) (loc : At) : Places := fun j => if j = id then some loc else σ j

theorem setP_same (σ : Places) (id : Nat) (loc : At) : setP σ id loc id = some loc := by simp [setP]
theorem setP_ne (σ : Places) {id j : Nat} (loc : At) (h : j ≠ id) : setP σ id loc j = σ j := by simp [setP, h]

theorem Held.setP {σ : Places} {id : Nat} {loc : At} {b : Nat} (h : Held (setP σ id loc) b) : Held σ b ∨ loc.block = some b := by
  obtain ⟨i, l, hi, hb⟩ := h
  by_cases e : i = id
  · subst e; rw [setP_same] at hi; cases hi; exact .inr hb
  · rw [setP_ne σ loc e] at hi; exact .inl ⟨i, l, hi, hb⟩

theorem Sim.alloc (h : Sim C D outs st a w σ) (id : Nat) (loc : At) (hw : Below w.heap.size w w')
    (hloc : ∀ b, loc.block = some b → w.heap.size ≤ b ∧ b < w'.heap.size) (ob : Ob)
    (hr : ObRep C w' (setP σ id loc) ob loc) (hf : ob.flat = true → xS ob.elems = true) : Sim C D outs (st.alloc id ob) a w' (setP σ id loc) := by
  have hok : ∀ t b, okB C w σ t b → okB C w' (setP σ id loc) t b := fun t b hb => by
    refine ⟨fun hh => ?_, Nat.lt_of_lt_of_le hb.2.1 hw.size, hb.2.2.1, fun e => by rw [hw.block b hb.2.1]; exact hb.2.2.2 e⟩
    rcases hh.setP with hh | e
    · exact hb.1 hh
    · have := (hloc _ e).1
      have := hb.2.1
      omega
  have hc : ∀ (t : Bool) (b o : Nat), okB C w σ t b → w'.cell? ⟨b, o, none⟩ = w.cell? ⟨b, o, none⟩ := fun t b o hb => hw.cell (p := ⟨b, o, none⟩) hb.2.1
  have hσ : ∀ j, j ≠ id → setP σ id loc j = σ j := fun j hj => setP_ne σ loc hj
  refine ⟨RepL.kill id hok hc hσ _ h.slots, RepLL.kill id hok hc hσ h.outer, fun j ob' hj => ?_, fun j hj => ?_, fun i j li lj b hi hj hbi hbj => ?_, fun b hb => ?_, h.below.trans (hw.mono h.base), Nat.le_trans h.base hw.size, h.old, h.still.mono (fun b hb hh => by
      rcases hh.setP with hh | e
      · exact hh
      · have := (hloc _ e).1; omega) hw.size (fun b hb _ => hw.block b hb)⟩
  · simp only [St.alloc, St.drop, look_upd, look_killObs] at hj
    by_cases e : j = id
    · rw [if_pos e] at hj
      cases hj
      subst e
      exact ⟨loc, setP_same σ j loc, hr, hf⟩
    · rw [if_neg e, if_neg e] at hj
      obtain ⟨ob2, ho2, rfl⟩ := Option.map_eq_some_iff.1 hj
      obtain ⟨loc', hl, hr', hfl⟩ := h.objs j ob2 ho2
      refine ⟨loc', by rw [setP_ne σ loc e, hl], ?_, ?_⟩
      · cases loc' with
        | virt app =>
          obtain ⟨h1, h2, h3⟩ := hr'
          unfold zA
          split
          · exact ⟨h1, h2, h3⟩
          · exact ⟨by simp [h1, killL], h2, h3⟩
        | blk b bo es cap app =>
          obtain ⟨h1, h2, h3, cur, e', ds, hg, hl', hwf, hcur, happ⟩ := hr'
          have hg' := (hw.block b (h.held b (.of hl)).2).trans hg
          unfold zA
          split
          · rename_i hf2
            exact ⟨h1, h2, h3, cur, e', ds, hg', RepL.free hok hc _ (hfl hf2) hl', hwf, hcur, happ⟩
          · have hk := RepL.kill id hok hc hσ _ hl'
            have hlen : (killL id ob2.elems).length = ob2.elems.length := by rw [← hk.length, ← hl'.length]
            exact ⟨h1, h2, h3, cur, e', ds, hg', hk, hwf, hcur, fun x => by have := happ x; simp only [hlen]; exact this⟩
        | mp b =>
          obtain ⟨h1, h2, h3, es, ck, hg, hl'⟩ := hr'
          unfold zA
          rw [if_pos h2]
          exact ⟨h1, h2, h3, es, ck, (hw.block b (h.held b (.of hl)).2).trans hg, RepL.free hok hc _ (hfl h2) hl'⟩
      · unfold zA
        split
        · exact hfl
        · rename_i hf2; intro hf'; exact absurd hf' hf2
  · simp only [St.alloc, St.drop, look_upd, look_killObs] at hj
    by_cases e : j = id
    · rw [if_pos e] at hj; cases hj
    · rw [if_neg e, if_neg e] at hj
      rw [setP_ne σ loc e]
      exact h.dom j (by simpa using hj)
  · by_cases e : i = id
    · subst e
      by_cases e' : j = i
      · exact e'.symm
      · exfalso
        rw [setP_same] at hi
        rw [setP_ne σ loc e'] at hj
        cases hi
        have := (hloc _ hbi).1
        have := (h.held b ⟨j, lj, hj, hbj⟩).2
        omega
    · rw [setP_ne σ loc e] at hi
      by_cases e' : j = id
      · subst e'
        exfalso
        rw [setP_same] at hj
        cases hj
        have := (hloc _ hbj).1
        have := (h.held b ⟨i, li, hi, hbi⟩).2
        omega
      · rw [setP_ne σ loc e'] at hj
        exact h.inj i j li lj b hi hj hbi hbj
  · rcases hb.setP with hb | e
    · exact ⟨(h.held b hb).1, Nat.lt_of_lt_of_le (h.held b hb).2 hw.size⟩
    · have := hloc _ e
      exact ⟨Nat.le_trans h.base this.1, this.2⟩

theorem cell_of_heap {b : Nat} (h : w'.heap[b]? = w.heap[b]?) (o : Nat) : w'.cell? ⟨b, o, none⟩ = w.cell? ⟨b, o, none⟩ := World.cell?_of_block (w := w) (a := ⟨b, o, none⟩) h

theorem Sim.write (h : Sim C D outs st a w σ) {id : Nat} {ob ob' : Ob} {b bo es cap : Nat} {app : Bool} (ho : look st.objs id = some ob) (hσ : σ id = some (.blk b bo es cap app))
    {cur cur' : Array Value} {e : TypeId} (hg : w.heap[b]? = some (.cells cur e (0, 0))) (hr : ObRep C (w.setRow b cur') σ ob' (.blk b bo es cap app))
    (hf : ob'.flat = true → xS ob'.elems = true) : Sim C D outs { st with objs := upd st.objs id ob' } a (w.setRow b cur') σ := by
  have hheld : Held σ b := .of hσ
  have hsz : (w.setRow b cur').heap.size = w.heap.size := size_setRow w b cur'
  have hoth : ∀ k, k ≠ b → (w.setRow b cur').heap[k]? = w.heap[k]? := fun k hk => setRow_other w b k cur' hk
  have hok : ∀ t k, okB C w σ t k → okB C (w.setRow b cur') σ t k := fun t k hk => ⟨hk.1, by rw [hsz]; exact hk.2.1, hk.2.2.1, fun e => by rw [hoth k (fun e => hk.1 (e ▸ hheld))]; exact hk.2.2.2 e⟩
  have hc : ∀ (t : Bool) (k o : Nat), okB C w σ t k → (w.setRow b cur').cell? ⟨k, o, none⟩ = w.cell? ⟨k, o, none⟩ := fun t k o hk =>
    cell_of_heap (hoth k (fun e => hk.1 (e ▸ hheld))) o
  have hs : ∀ j, σ j = σ j := fun _ => rfl
  refine ⟨RepL.mono hok hc hs _ h.slots, RepLL.mono hok hc hs h.outer, fun j ob2 hj => ?_, fun j hj => ?_, h.inj, fun k hk => by rw [hsz]; exact h.held k hk, h.below.trans ?_, by rw [hsz]; exact h.base, h.old, h.still.mono (fun _ _ hb => hb) (by rw [hsz]; exact Nat.le_refl _) (fun k _ hk => hoth k (fun e => hk (e ▸ hheld)))⟩
  · simp only [look_upd] at hj
    by_cases e : j = id
    · rw [if_pos e] at hj
      cases hj
      subst e
      exact ⟨_, hσ, hr, hf⟩
    · rw [if_neg e] at hj
      obtain ⟨loc', hl, hr', hfl⟩ := h.objs j ob2 hj
      refine ⟨loc', hl, hr'.mono hok hc hs (fun k el => hoth k (fun ek => e ?_)), hfl⟩
      subst ek
      exact h.inj j id _ _ k hl hσ el rfl
  · simp only [look_upd] at hj
    by_cases e : j = id
    · rw [if_pos e] at hj; cases hj
    · rw [if_neg e] at hj; exact h.dom j hj
  · exact ⟨rfl, rfl, rfl, by rw [hsz]; exact Nat.le_refl _, fun k hk => hoth k (fun e => by have := (h.held b hheld).1; omega)⟩

def Cx.at (C : Cx) (w : World) (σ : Places) (mk : Bool) : Cx := { C with w0 := w, Z := fun b => b < w.heap.size ∧ ¬ Held σ b, mrk := mk }

theorem RepL.at {vs : List V} {ds : List Value} {mo : Option Bool} (h : RepL C w σ mo vs ds) {w1 : World} {σ1 : Places} {mk : Bool} : RepL (C.at w1 σ1 mk) w σ mo vs ds :=
  RepL.mono (C := C) (C' := C.at w1 σ1 mk) (w' := w) (σ' := σ) (fun _ _ hb => hb) (fun _ _ _ _ => rfl) (fun _ => rfl) _ h

theorem Rep.of_at {v : V} {d : Value} {mo : Option Bool} {w1 : World} {σ1 : Places} {mk : Bool} (h : Rep (C.at w1 σ1 mk) w σ mo v d) : Rep C w σ mo v d :=
  Rep.mono (C := C.at w1 σ1 mk) (C' := C) (w' := w) (σ' := σ) (fun _ _ hb => hb) (fun _ _ _ _ => rfl) (fun _ => rfl) _ h

theorem Sim.recx {a' : Act} {D' : List Deferred} (h : Sim C D outs st a w σ) (hB : C'.B = C.B) (hF : C'.F = C.F) (hH : C'.H = C.H) (ha : a'.tmps = a.tmps) (hb : Below C'.B C'.w0 w) (hs : Still C' w σ D' a'.defers) : Sim C' D' outs st a' w σ := by
  obtain ⟨F, B, w0, Z, mk, H⟩ := C
  obtain ⟨F', B', w0', Z', mk', H'⟩ := C'
  dsimp only at hB hF hH
  subst hB; subst hF; subst hH
  have hok : ∀ t b, okB ⟨F', B', w0, Z, mk, H'⟩ w σ t b → okB ⟨F', B', w0', Z', mk', H'⟩ w σ t b := fun _ _ hb => hb
  have hc : ∀ (t : Bool) (b o : Nat), okB ⟨F', B', w0, Z, mk, H'⟩ w σ t b → w.cell? ⟨b, o, none⟩ = w.cell? ⟨b, o, none⟩ := fun _ _ _ _ => rfl
  refine ⟨by rw [ha]; exact RepL.mono hok hc (fun _ => rfl) _ h.slots, RepLL.mono hok hc (fun _ => rfl) h.outer, fun id ob ho => ?_, h.dom, h.inj, h.held, hb, h.base, h.old, hs⟩
  obtain ⟨loc, hl, hr, hf⟩ := h.objs id ob ho
  exact ⟨loc, hl, hr.mono hok hc (fun _ => rfl) (fun _ _ => rfl), hf⟩

theorem Sim.focus {a' : Act} (mk : Bool) (h : Sim C D outs st a w σ) (ha : a'.tmps = a.tmps) : Sim (C.at w σ mk) a'.defers outs st a' w σ :=
  h.recx rfl rfl rfl ha (Below.refl _ _) (Still.refl (fun _ hb => ⟨hb.2, hb.1, rfl⟩) fun b hb => ⟨(h.still.zed b (h.still.hid b hb)).2.1, (h.still.zed b (h.still.hid b hb)).1⟩)

theorem Still.past {D' l l' : List Deferred} {mk : Bool} (h : Still C w σ D l) (h' : Still (C.at w σ mk) w' σ' D' l') (hs : w.heap.size ≤ w'.heap.size) : Still C w' σ' D l :=
  h.mono (fun b hb hh => Classical.byContradiction fun hn => (h'.zed b ⟨hb, hn⟩).1 hh) hs (fun b hb hn => (h'.zed b ⟨hb, hn⟩).2.2)

theorem Sim.back {mk : Bool} {D' l : List Deferred} {st' : St} {outs' : List (List Value)} {a' a'' : Act} (hB : Below C.B C.w0 w) (hS : Still C w σ D l) (h : Sim (C.at w σ mk) D' outs' st' a' w' σ') (ha : a''.tmps = a'.tmps) (hl : a''.defers = l) :
    Sim C D outs' st' a'' w' σ' :=
  h.recx rfl rfl rfl ha (hB.trans h.below) (by rw [hl]; exact hS.past h.still h.below.size)

theorem Sim.seen (h : Sim C D outs st a w σ) {b : Nat} (hb : Held σ b) : ¬ C.H b := fun hh => (h.still.zed b (h.still.hid b hh)).1 hb

theorem Sim.lain (h : Sim C D outs st a w σ) {b : Nat} (hb : w.heap.size ≤ b) : ¬ C.H b := fun hh => by have := (h.still.zed b (h.still.hid b hh)).2.1; omega

theorem Sim.mapped (h : Sim C D outs st a w σ) {id b : Nat} (hσ : σ id = some (.mp b)) : ∃ es ck, w.heap[b]? = some (.map es ck) := by
  cases hob : look st.objs id with
  | none => rw [h.dom id hob] at hσ; cases hσ
  | some ob =>
    obtain ⟨loc, hl, hr, _⟩ := h.objs id ob hob
    rw [hσ] at hl
    cases hl
    obtain ⟨_, _, _, es, ck, hg, _⟩ := hr
    exact ⟨es, ck, hg⟩

theorem Sim.unheld (h : Sim C D outs st a w σ) {r : Nat} {o : Obj} (hr : w.heap[r]? = some o) (ho : o.isCells = false) (hm : ∀ es ck, o ≠ .map es ck := by intro _ _ e; cases e) : ¬ Held σ r := fun ⟨id, loc, hl, hb⟩ => by
  cases hob : look st.objs id with
  | none => rw [h.dom id hob] at hl; cases hl
  | some ob =>
    obtain ⟨loc', hl', hrp, _⟩ := h.objs id ob hob
    rw [hl] at hl'
    cases hl'
    cases loc with
    | virt app => cases hb
    | blk b bo es cap app =>
      cases hb
      obtain ⟨_, _, _, cur, e, ds, hg, _⟩ := hrp
      rw [hr] at hg
      cases hg
      cases ho
    | mp b =>
      cases hb
      obtain ⟨_, _, _, es, ck, hg, _⟩ := hrp
      rw [hr] at hg
      cases hg
      exact hm _ _ rfl

theorem Sim.turnMap (h : Sim C D outs st a w σ) {id : Nat} {ob ob' : Ob} {b : Nat} (ho : look st.objs id = some ob) (hσ : σ id = some (.mp b)) {es : Array MapEntry} {ck : Nat}
    (hr : ObRep C (w.putObj b (.map es ck)) σ ob' (.mp b)) (hf : ob'.flat = true → xS ob'.elems = true) : Sim C D outs { st with objs := upd st.objs id ob' } a (w.putObj b (.map es ck)) σ := by
  obtain ⟨es0, ck0, hg⟩ := h.mapped hσ
  have hheld : Held σ b := .of hσ
  have hsz : (w.putObj b (.map es ck)).heap.size = w.heap.size := World.putObj_size
  have hoth : ∀ k, k ≠ b → (w.putObj b (.map es ck)).heap[k]? = w.heap[k]? := fun k hk => World.putObj_heap_other hk
  have hok : ∀ t k, okB C w σ t k → okB C (w.putObj b (.map es ck)) σ t k := fun t k hk => ⟨hk.1, by rw [hsz]; exact hk.2.1, hk.2.2.1, fun e => by rw [hoth k (fun e => hk.1 (e ▸ hheld))]; exact hk.2.2.2 e⟩
  have hc : ∀ (t : Bool) (k o : Nat), okB C w σ t k → (w.putObj b (.map es ck)).cell? ⟨k, o, none⟩ = w.cell? ⟨k, o, none⟩ := fun t k o hk =>
    cell_of_heap (hoth k (fun e => hk.1 (e ▸ hheld))) o
  have hs : ∀ j, σ j = σ j := fun _ => rfl
  refine ⟨RepL.mono hok hc hs _ h.slots, RepLL.mono hok hc hs h.outer, fun j ob2 hj => ?_, fun j hj => ?_, h.inj, fun k hk => by rw [hsz]; exact h.held k hk, h.below.trans ?_, by rw [hsz]; exact h.base, h.old, h.still.mono (fun _ _ hb => hb) (by rw [hsz]; exact Nat.le_refl _) (fun k _ hk => hoth k (fun e => hk (e ▸ hheld)))⟩
  · simp only [look_upd] at hj
    by_cases e : j = id
    · rw [if_pos e] at hj
      cases hj
      subst e
      exact ⟨_, hσ, hr, hf⟩
    · rw [if_neg e] at hj
      obtain ⟨loc', hl, hr', hfl⟩ := h.objs j ob2 hj
      refine ⟨loc', hl, hr'.mono hok hc hs (fun k el => hoth k (fun ek => e ?_)), hfl⟩
      subst ek
      exact h.inj j id _ _ k hl hσ el rfl
  · simp only [look_upd] at hj
    by_cases e : j = id
    · rw [if_pos e] at hj; cases hj
    · rw [if_neg e] at hj; exact h.dom j hj
  · exact ⟨rfl, rfl, rfl, by rw [hsz]; exact Nat.le_refl _, fun k hk => hoth k (fun e => by have := (h.held b hheld).1; omega)⟩

theorem Sim.turn (h : Sim C D outs st a w σ) (hD : a.defers = D) {r : Nat} {o o' : Obj} (hr : w.heap[r]? = some o) (ho : o.isCells = false) (ho' : o'.isCells = false) (hn : ¬ Held σ r) (hB : C.B ≤ r) (hZ : ¬ C.Z r) : Sim C D outs st a (w.putObj r o') σ := by
  have hsz : (w.putObj r o').heap.size = w.heap.size := World.putObj_size
  have hoth : ∀ b, b ≠ r → (w.putObj r o').heap[b]? = w.heap[b]? := fun b hb => World.putObj_heap_other hb
  have hnc : ∀ {A : World} {ob : Obj} (k : Nat), A.heap[r]? = some ob → ob.isCells = false → A.cell? ⟨r, k, none⟩ = none := fun {A ob} k h1 h2 => by
    cases hcell : A.cell? ⟨r, k, none⟩ with
    | none => rfl
    | some v =>
      obtain ⟨ob', h3, h4⟩ := cells_of_cell hcell
      dsimp only at h3
      rw [h1] at h3
      cases h3
      rw [h2] at h4
      cases h4
  have hlt : r < w.heap.size := (Array.getElem?_eq_some_iff.1 hr).1
  have hc0 : ∀ b k, (w.putObj r o').cell? ⟨b, k, none⟩ = w.cell? ⟨b, k, none⟩ := fun b k => by
    by_cases e : b = r
    · subst e
      rw [hnc k hr ho, hnc k (World.putObj_heap_same hlt) ho']
    · exact cell_of_heap (hoth b e) k
  have hok : ∀ t b, okB C w σ t b → okB C (w.putObj r o') σ t b := fun t b hb => ⟨hb.1, by rw [hsz]; exact hb.2.1, hb.2.2.1, fun e => by
    by_cases e2 : b = r
    · subst e2
      obtain ⟨cur, e3, h3⟩ := hb.2.2.2 e
      rw [hr] at h3
      cases h3
      cases ho
    · rw [hoth b e2]; exact hb.2.2.2 e⟩
  have hc : ∀ (t : Bool) (b k : Nat), okB C w σ t b → (w.putObj r o').cell? ⟨b, k, none⟩ = w.cell? ⟨b, k, none⟩ := fun _ b k _ => hc0 b k
  refine ⟨RepL.mono hok hc (fun _ => rfl) _ h.slots, RepLL.mono hok hc (fun _ => rfl) h.outer, fun id ob hi => ?_, h.dom, h.inj, fun b hb => by rw [hsz]; exact h.held b hb,
    h.below.trans ⟨rfl, rfl, rfl, by rw [hsz]; exact Nat.le_refl _, fun k hk => hoth k (by omega)⟩, by rw [hsz]; exact h.base, h.old, ?_⟩
  · obtain ⟨loc, hl, hrp, hf⟩ := h.objs id ob hi
    exact ⟨loc, hl, hrp.mono hok hc (fun _ => rfl) (fun b e => hoth b (fun e2 => hn (e2 ▸ ⟨id, loc, hl, e⟩))), hf⟩
  · rw [hD]
    refine Still.refl (fun b hb => ?_) h.still.hid
    obtain ⟨h1, h2, h3⟩ := h.still.zed b hb
    exact ⟨h1, by rw [hsz]; exact h2, (hoth b (fun e => hZ (e ▸ hb))).trans h3⟩

end
end Go.AM
end

section
/-
The operations on memory, one by one: what the abstract machine does fits what the model does. First part: types, variables, loads, stores.
-/
namespace Go.AM
open Go Go.RowKit

def tyIs : Ty → TypeDesc → Bool
  | .int k, .int k' => k == k'
  | .bool, .bool => true
  | .str, .string => true
  | .slice e, .slice e' => e == e'
  | .struct fs, .struct gs => gs.toList.map (fun g => (g.offset, g.type)) == fs
  | .array n e, .array n' e' => n == n' && e == e'
  | .map k e, .map k' e' => k == k' && e == e'
  | .other, .struct _ => false
  | .other, .array _ _ => false
  | .other, _ => true
  | _, _ => false

def zeroV : Value → V
  | .agg cs => .agg (cs.toList.map constV)
  | v => constV v

def TyOk (P : Program) (E : Env) : Prop := ∀ t ti, E.ty t = some ti → ∃ d i z, P.underlying t = some d ∧ tyIs ti.ty d = true ∧ P.info? t = some i ∧ i.size = ti.size ∧ i.bytes = ti.bytes ∧
  i.zero = some z ∧ ti.zero = zeroV z ∧ z.cells.size = ti.size ∧ (∀ u ∈ z.cells.toList, u.oneCell' = true) ∧
  (ti.eq = true → P.stoodInHeld t = false ∧ P.eqGuardType P.depth t = false ∧ match d with | .struct gs => gs.toList.all (fun g => g.name != "_") = true | _ => True)

section
variable {P : Program} {E : Env} {C : Cx} {D : List Deferred} {outs : List (List Value)} {st : St} {a : Act} {w : World} {σ : Places}

def Ran (P : Program) (o : Oper) (a : Act) (w w' : World) (c : Value) : Prop :=
  (execOp a.eval o).run P w = .ok (.value c) w' ∨ ((execOp a.eval o).run P w = .ok .skip w' ∧ c = undef)

def Goes (P : Program) (C : Cx) (D : List Deferred) (outs : List (List Value)) (o : Oper) (st' : St) (a : Act) (w : World) : Prop :=
  ∃ c w' σ', Ran P o a w w' c ∧ Sim C D outs st' (a.put o.dst c) w' σ'

theorem Goes.val {o : Oper} {v : V} {c : Value} (h : Sim C D outs st a w σ) (hr : (execOp a.eval o).run P w = .ok (.value c) w) (hv : Rep C w σ none v c) :
    Goes P C D outs o (st.put o.dst v) a w := ⟨c, w, σ, .inl hr, h.put hv⟩

theorem repL_const {m : Option Bool} : ∀ (us : List Value), RepL C w σ m (us.map constV) us
  | [] => rfl
  | u :: us => ⟨u, us, rfl, by
      have h : Rep C w σ none (constV u) u := constV_rep u
      unfold constV at h ⊢
      split at h <;> exact h, repL_const us⟩

theorem zero_rep {m : Option Bool} (z : Value) (h : ∀ u ∈ z.cells.toList, u.oneCell' = true) : Rep C w σ m (zeroV z) z := by
  unfold zeroV
  split
  · rename_i cs
    exact ⟨cs.toList, by simp, repL_const _, h⟩
  · have h : Rep C w σ none (constV z) z := constV_rep z
    unfold constV at h ⊢
    split at h <;> exact h

theorem cells?_ok {m : Option Bool} {v : V} {cs : List V} {c : Value} (h : Rep C w σ m v c) (hc : cells? v = some cs) :
    RepL C w σ m cs c.cells.toList ∧ (∀ u ∈ c.cells.toList, u.oneCell' = true) ∧ c.cells.size = cs.length ∧ cellsOf v = cs := by
  have one : ∀ {v : V} {c : Value}, Rep C w σ m v c → c.oneCell' = true → RepL C w σ m [v] c.cells.toList ∧ (∀ u ∈ c.cells.toList, u.oneCell' = true) ∧ c.cells.size = 1 := by
    intro v c h h1
    have : c.cells = #[c] := by cases c <;> first | rfl | simp [Value.oneCell'] at h1
    rw [this]
    exact ⟨⟨c, [], rfl, h, rfl⟩, by simpa using h1, rfl⟩
  cases v with
  | int k n => cases hc; obtain ⟨a, b, d⟩ := one h (by rw [show c = _ from h]; rfl); exact ⟨a, b, d, rfl⟩
  | bool b => cases hc; obtain ⟨a, b, d⟩ := one h (by rw [show c = _ from h]; rfl); exact ⟨a, b, d, rfl⟩
  | lit v => cases hc; obtain ⟨a, b, d⟩ := one h (by rw [h.1]; exact h.2); exact ⟨a, b, d, rfl⟩
  | und => cases hc
  | agg cs' =>
    cases hc
    obtain ⟨ds, rfl, hl, h1⟩ := h
    exact ⟨by simpa [Value.cells] using hl, by simpa [Value.cells] using h1, by simpa [Value.cells] using hl.length, rfl⟩
  | tup _ => cases hc
  | sl t vs => cases hc; obtain ⟨a, b, d⟩ := one h (by obtain ⟨_, a, cap, rfl, _⟩ := h; rfl); exact ⟨a, b, d, rfl⟩
  | emp => cases hc; obtain ⟨a, b, d⟩ := one h (by obtain ⟨a, rfl⟩ := h; rfl); exact ⟨a, b, d, rfl⟩
  | full t vs => cases hc; obtain ⟨a, b, d⟩ := one h (by obtain ⟨_, a, rfl, _⟩ := h; rfl); exact ⟨a, b, d, rfl⟩
  | fp t vs o => cases hc; obtain ⟨a, b, d⟩ := one h (by obtain ⟨_, b, off, ds, rfl, _⟩ := h; rfl); exact ⟨a, b, d, rfl⟩
  | own id off len =>
    cases hc
    have h1 : c.oneCell' = true := by
      simp only [Rep] at h
      split at h
      · exact h.elim
      · obtain ⟨_, _, a, cp, rfl, _⟩ := h; rfl
      · obtain ⟨a, cp, rfl, _⟩ := h; rfl
      · exact h.elim
    obtain ⟨a, b, d⟩ := one h h1; exact ⟨a, b, d, rfl⟩
  | pre id off len room =>
    cases hc
    have h1 : c.oneCell' = true := by
      simp only [Rep] at h
      split at h
      · exact h.elim
      · exact h.elim
      · obtain ⟨cp, rfl, _⟩ := h; rfl
      · exact h.elim
    obtain ⟨a, b, d⟩ := one h h1; exact ⟨a, b, d, rfl⟩
  | ptr id i o =>
    cases hc
    have h1 : c.oneCell' = true := by
      simp only [Rep] at h
      split at h
      · exact h.elim
      · exact h.elim
      · rw [h]; rfl
      · exact h.elim
    obtain ⟨a, b, d⟩ := one h h1; exact ⟨a, b, d, rfl⟩
  | mapr id =>
    cases hc
    have h1 : c.oneCell' = true := by
      simp only [Rep] at h
      split at h
      · rw [h]; rfl
      · exact h.elim
    obtain ⟨a, b, d⟩ := one h h1; exact ⟨a, b, d, rfl⟩
  | clo f xs ys => cases hc; obtain ⟨a, b, d⟩ := one h (by obtain ⟨fa, fb, rfl, _⟩ := h; rfl); exact ⟨a, b, d, rfl⟩
  | junk => cases hc

theorem isAgg_run {ti : Ty} {d : TypeDesc} {t : TypeId} (hd : P.underlying t = some d) (ht : tyIs ti d = true) : (_root_.Go.isAgg t).run P w = .ok ti.isAgg w := by
  unfold Go.isAgg
  simp only [Sem.run_bind, run_underlying hd, Result.andThen_ok]
  cases ti <;> cases d <;> first | rfl | (simp [tyIs] at ht)

theorem run_sizeOf {t : TypeId} {i : TypeInfo} (h : P.info? t = some i) : (sizeOf t).run P w = .ok i.size w := by
  simp [sizeOf, typeInfo, h]

theorem run_loadVar_part {m : Option Bool} {t : TypeId} {ti : TI} {d : TypeDesc} {i : TypeInfo} (hd : P.underlying t = some d) (ht : tyIs ti.ty d = true) (hi : P.info? t = some i) (hsz : i.size = ti.size)
    {b off c : Nat} {cs : List V} {ds : List Value} (hl : RepL C w σ m cs ds) (h1 : ∀ u ∈ ds, u.oneCell' = true) (hlie : Lies w b off ds) {v : V} (hp : part ti.ty.isAgg ti.size cs c = some v) :
    ∃ cv, (loadVar t ⟨b, off + c, none⟩).run P w = .ok cv w ∧ Rep C w σ m v cv := by
  unfold loadVar
  simp only [Sem.run_bind, isAgg_run hd ht, Result.andThen_ok]
  unfold part at hp
  split at hp
  · rename_i hagg
    split at hp
    · rename_i hle
      cases hp
      have hlen : ((ds.drop c).take ti.size).length = ti.size := by
        rw [List.length_take, List.length_drop, hl.length]; omega
      have hload := run_loadCells_list (P := P) w ⟨b, off + c, none⟩ ((ds.drop c).take ti.size) (fun j u hu => by
        rw [Addr.add_lit, Nat.add_assoc]
        refine hlie (c + j) u ?_
        rw [List.getElem?_take] at hu
        split at hu
        · simpa using hu
        · cases hu)
      rw [hlen] at hload
      refine ⟨.agg ((ds.drop c).take ti.size).toArray, ?_, ?_⟩
      · simp only [hagg, if_true, Sem.run_bind, run_sizeOf hi, hsz, Result.andThen_ok, hload, Sem.run_pure]
      · exact ⟨_, rfl, (hl.drop c).take ti.size, fun u hu => h1 u (List.mem_of_mem_drop (List.mem_of_mem_take hu))⟩
    · cases hp
  · rename_i hagg
    obtain ⟨u, hu, hr⟩ := hl.get c hp
    refine ⟨u, ?_, hr⟩
    have hcell := hlie c u hu
    simp only [hagg, Bool.false_eq_true, if_false]
    simp [hcell]

theorem LiesE.one {b off es i : Nat} {ds : List Value} {d : Value} (h : LiesE w b off es ds) (hd : ds[i]? = some d) : Lies w b (off + i * es) d.cells.toList :=
  fun r u hu => h i d r u hd hu

theorem evLoad_ok (hT : TyOk P E) (h : Sim C D outs st a w σ) {t : TypeId} {ti : TI} (hti : E.ty t = some ti) {p v : V} {cp : Value} (hp : Rep C w σ none p cp) (he : zM ti p st = some v) :
    ∃ cv, (Instr.loadAt t cp).run P w = .ok cv w ∧ Rep C w σ none v cv := by
  obtain ⟨d, i, z, hd, ht, hi, hsz, _⟩ := hT t ti hti
  unfold zM at he
  split at he
  · rename_i id k c
    split at he
    · rename_i ob hob
      split at he
      · rename_i e hel
        split at he
        · rename_i cs hcells
          split at he
          case h_2 => cases he
          rename_i u hu
          cases he
          obtain ⟨loc, hloc, hrep, _⟩ := h.objs id ob hob
          simp only [Rep, hloc] at hp
          cases loc with
          | virt app => exact hp.elim
          | mp b => exact hp.elim
          | blk b bo es cap app =>
            simp only at hp
            subst hp
            obtain ⟨h1, h2, h3, cur, ety, ds, hg, hl, hwf, hcur, happ⟩ := hrep
            obtain ⟨dv, hdv, hrv⟩ := hl.get k hel
            have hlie : Lies w b (bo + k * es) dv.cells.toList := fun r u hu => by
              rw [cell_of_row w b _ cur ety (0, 0) hg]
              have := hcur k dv r u hdv hu
              simpa using this
            have hcs := cells?_ok hrv hcells
            obtain ⟨cv, hr, hrep⟩ := run_loadVar_part (P := P) hd ht hi hsz hcs.1 hcs.2.1 hlie hu
            exact ⟨cv, by simp [Instr.loadAt, Instr.sureAddr, hr], Rep.outOf _ _ hrep⟩
        · cases he
      · cases he
    · cases he
  · rename_i t' cs c
    split at he
    · rename_i u hu
      cases he
      obtain ⟨hf, b, off, ds, rfl, hb, hl, h1, hlie⟩ := hp
      obtain ⟨cv, hr, hrep⟩ := run_loadVar_part (P := P) hd ht hi hsz hl h1 hlie hu
      exact ⟨cv, by simp [Instr.loadAt, Instr.sureAddr, hr], Rep.outOf _ _ (by simpa using hrep)⟩
    · cases he
  · cases he

end
end Go.AM
end

section
/-
The operations on memory, second part: new variables, stores, new slices.
-/
namespace Go.AM
open Go Go.RowKit

section
variable {P : Program} {E : Env} {C : Cx} {D : List Deferred} {outs : List (List Value)} {st st' : St} {a : Act} {w : World} {σ : Places}

theorem below_alloc (w : World) (o : Obj) : Below w.heap.size w (w.alloc o) := (Below.refl _ _).alloc (Nat.le_refl _) o

theorem okB_alloc (id : Nat) (o : Obj) {bo es cap : Nat} {app : Bool} (t : Bool) (b : Nat) (hb : okB C w σ t b) :
    okB C (w.alloc o) (setP σ id (.blk w.heap.size bo es cap app)) t b := by
  refine ⟨fun hh => ?_, by simp; exact Nat.lt_succ_of_lt hb.2.1, hb.2.2.1, fun e => by rw [(below_alloc w o).block b hb.2.1]; exact hb.2.2.2 e⟩
  rcases hh.setP with hh | e
  · exact hb.1 hh
  · cases e
    exact absurd hb.2.1 (Nat.lt_irrefl _)

theorem evVar_ok (h : Sim C D outs st a w σ) {id d : Nat} {ti : TI} {x : V} {c : Value} (hx : Rep C w σ none x c) (he : zE id d ti x st = some st') (ety : TypeId) :
    Sim C D outs st' (a.put (some d) (.pointer (some ⟨w.heap.size, 0, none⟩))) (w.alloc (.cells c.cells ety)) (setP σ id (.blk w.heap.size 0 ti.size 1 false)) ∧ c.cells.size = ti.size := by
  unfold zE at he
  split at he
  case h_2 => cases he
  rename_i cs hcs
  split at he
  case isFalse => cases he
  rename_i hsz
  cases he
  obtain ⟨hl, hone, hlen, _⟩ := cells?_ok hx hcs
  have hcsz : c.cells.size = ti.size := by omega
  have hk : Rep C (w.alloc (.cells c.cells ety)) (setP σ id (.blk w.heap.size 0 ti.size 1 false)) none (kill id x) c :=
    Rep.kill id (okB_alloc id _) (fun t b o hb => (below_alloc w _).cell (p := ⟨b, o, none⟩) hb.2.1) (fun j hj => setP_ne σ _ hj) x hx
  refine ⟨(h.alloc id (.blk w.heap.size 0 ti.size 1 false) (below_alloc w _) (fun b e => ?_) _ ?_ ?_).put ?_, hcsz⟩
  · cases e; simp
  · refine ⟨rfl, hsz.2, rfl, c.cells, ety, [c], heap_alloc_new w _, ?_, ?_, ?_, fun e => by cases e⟩
    · exact ⟨c, [], rfl, Rep.into _ _ (by simp) (by simp) hk, rfl⟩
    · intro u hu
      simp at hu; subst hu
      exact ⟨hcsz, hone⟩
    · intro i d r u hd hu
      cases i with
      | zero => simp at hd; subst hd; simpa using hu
      | succ i => simp at hd
  · intro hf
    simp only [xS, Bool.and_true]
    exact hf
  · simp [Rep, setP_same]

theorem evNil_ok (h : Sim C D outs st a w σ) {id d : Nat} {ei : TI} (he : qR id d ei st = some st') :
    Sim C D outs st' (a.put (some d) (.slice none 0 0)) w (setP σ id (.virt true)) := by
  unfold qR at he
  split at he
  case isFalse => cases he
  rename_i hsz
  cases he
  refine (h.alloc id (.virt true) (Below.refl _ _) (fun b e => by cases e) _ ⟨rfl, rfl, hsz⟩ (fun _ => rfl)).put ?_
  simp [Rep, setP_same]

theorem splice_get {α : Type} (L : List α) (p : Nat) (us : List α) (hfit : p + us.length ≤ L.length) (j : Nat) :
    (L.take p ++ us ++ L.drop (p + us.length))[j]? = if j < p then L[j]? else if j < p + us.length then us[j - p]? else L[j]? := by
  have hp : (L.take p).length = p := by rw [List.length_take]; omega
  by_cases h1 : j < p
  · rw [if_pos h1, List.append_assoc, List.getElem?_append_left (by omega), List.getElem?_take, if_pos h1]
  · rw [if_neg h1]
    by_cases h2 : j < p + us.length
    · rw [if_pos h2, List.getElem?_append_left (by simp; omega), List.getElem?_append_right (by omega), hp]
    · rw [if_neg h2, List.getElem?_append_right (by simp; omega), List.getElem?_drop]
      congr 1
      simp only [List.length_append, hp]
      omega

theorem evStore_ok (hT : TyOk P E) (h : Sim C D outs st a w σ) {t : TypeId} {ti : TI} (hti : E.ty t = some ti) {p x : V} {cp cx : Value} (hp : Rep C w σ none p cp) (hx : Rep C w σ none x cx)
    (he : zO ti p x st = some st') : ∃ w', (Instr.storeAt t cp cx).run P w = .ok () w' ∧ Sim C D outs st' a w' σ := by
  obtain ⟨d, ii, z, hd, ht, hi, hsz, _⟩ := hT t ti hti
  unfold zO at he
  split at he
  case h_2 => cases he
  rename_i id k c
  split at he
  case h_2 => cases he
  rename_i ob ds hob hds
  split at he
  case h_2 => cases he
  rename_i e hel
  split at he
  case h_2 => cases he
  rename_i cs hcells
  split at he
  case isFalse => cases he
  rename_i hle
  cases he
  obtain ⟨loc, hloc, hrep, hfl⟩ := h.objs id ob hob
  simp only [Rep, hloc] at hp
  cases loc with
  | virt app => exact hp.elim
  | mp b => exact hp.elim
  | blk b bo es cap app =>
    simp only at hp
    subst hp
    obtain ⟨h1, h2, h3, cur, ety, es', hg, hl, hwf, hcur, happ⟩ := hrep
    obtain ⟨hdl, hdone, hdlen, _⟩ := cells?_ok hx hds
    obtain ⟨dv, hdv, hrv⟩ := hl.get k hel
    have hkes : dv.cells.size = es := (hwf dv (List.mem_of_getElem? hdv)).1
    have hcone : ∀ u ∈ dv.cells.toList, u.oneCell' = true := (hwf dv (List.mem_of_getElem? hdv)).2
    have hclen : cs.length = dv.cells.size := by
      cases e with
      | junk => cases hcells; simp [h1, hkes]
      | _ => have := (cells?_ok hrv hcells).2.2.1; omega
    have hin : ∀ i d r, es'[i]? = some d → r < es → bo + i * es + r < cur.toList.length := fun i d r hi hr => by
      have hd : d.cells.size = es := (hwf d (List.mem_of_getElem? hi)).1
      have := hcur i d r (d.cells.toList[r]'(by simp; omega)) hi (List.getElem?_eq_getElem _)
      exact (List.getElem?_eq_some_iff.1 this).1
    have hcl0 : cx.cells.toList.length = ti.size := by simp; omega
    have hfit : bo + k * es + c + cx.cells.toList.length ≤ cur.toList.length := by
      have := hin k dv (c + cx.cells.size - 1) hdv (by omega)
      simp at this ⊢; omega
    have hst := run_storeCells_at P b (bo + k * es + c) ety cx.cells.toList 0 cur w hg (by simpa using hfit) hdone
    simp only [Nat.add_zero] at hst
    obtain ⟨cur', hcur'⟩ : ∃ cur' : Array Value, cur' = (cur.toList.take (bo + k * es + c) ++ cx.cells.toList ++ cur.toList.drop (bo + k * es + c + cx.cells.toList.length)).toArray := ⟨_, rfl⟩
    rw [← hcur'] at hst
    have hget : ∀ j, cur'.toList[j]? = if j < bo + k * es + c then cur.toList[j]? else if j < bo + k * es + c + ti.size then cx.cells.toList[j - (bo + k * es + c)]? else cur.toList[j]? := fun j => by
      have := splice_get cur.toList (bo + k * es + c) cx.cells.toList hfit j
      rw [hcl0] at this
      rw [hcur', List.toList_toArray, hcl0]; exact this
    have hcsz : cur'.size = cur.size := by
      have : cur'.toList.length = cur.toList.length := by rw [hcur', List.toList_toArray]; simp at hfit ⊢; omega
      simpa using this
    have hheld : Held σ b := .of hloc
    have hoth : ∀ q, q ≠ b → ∀ o, (w.setRow b cur').cell? ⟨q, o, none⟩ = w.cell? ⟨q, o, none⟩ := fun q hq o => cell_of_heap (setRow_other w b q _ hq) o
    have hok : ∀ t q, okB C w σ t q → okB C (w.setRow b cur') σ t q := fun t q hk => ⟨hk.1, by rw [size_setRow]; exact hk.2.1, hk.2.2.1, fun e => by rw [setRow_other w b q _ (fun e => hk.1 (e ▸ hheld))]; exact hk.2.2.2 e⟩
    have hc : ∀ (t : Bool) (q o : Nat), okB C w σ t q → (w.setRow b cur').cell? ⟨q, o, none⟩ = w.cell? ⟨q, o, none⟩ := fun t q o hk => hoth q (fun e => hk.1 (e ▸ hheld)) o
    refine ⟨_, ?_, h.write (cur' := cur') hob hloc hg ?_ ?_⟩
    · simp only [Instr.storeAt, Instr.sureAddr, Sem.run_bind, Sem.run_pure, Result.andThen_ok]
      unfold storeVar
      simp only [Sem.run_bind, run_sizeOf hi, Result.andThen_ok, hsz]
      rw [if_neg (by simp; omega)]
      exact hst
    · obtain ⟨dn, hdn, hdnc⟩ : ∃ dn : Value, Rep C w σ (some (ob.t && isNew x)) (putIn e c ds x) dn ∧ dn.cells.toList = dv.cells.toList.take c ++ cx.cells.toList ++ dv.cells.toList.drop (c + cx.cells.toList.length) := by
        have hx' : Rep C w σ (some (ob.t && isNew x)) x cx := Rep.into _ x (by simp) (fun q _ => by simp at q; exact q.2) hx
        have hdl' := (cells?_ok hx' hds).1
        cases e with
        | agg cs' =>
          cases hcells
          obtain ⟨vs, rfl, hvl, hvone⟩ := hrv
          have hvl' : RepL C w σ (some (ob.t && isNew x)) cs vs := RepL.into (m := some ob.t) _ _ (fun q => by simp at q; simp [q.1]) (fun _ q => by cases q) hvl
          have hvc : (Value.agg vs.toArray).cells.toList = vs := by simp [Value.cells]
          refine ⟨.agg (vs.take c ++ cx.cells.toList ++ vs.drop (c + cx.cells.toList.length)).toArray, ⟨_, rfl, ?_, ?_⟩, by simp [Value.cells]⟩
          · have := ((hvl'.take c).app hdl').app (hvl'.drop (c + ds.length))
            simp only [Array.length_toList, hdlen]
            exact this
          · intro u hu
            simp only [List.mem_append] at hu
            rcases hu with (hu | hu) | hu
            · exact hvone u (List.mem_of_mem_take hu)
            · exact hdone u hu
            · exact hvone u (List.mem_of_mem_drop hu)
        | und => cases hcells
        | tup _ => cases hcells
        | junk =>
          have hj := hle.2.2.2
          simp [xA] at hj
          refine ⟨cx, hx', ?_⟩
          rw [hj.1, List.take_zero, List.nil_append, List.drop_eq_nil_of_le (by simp; omega), List.append_nil]
        | _ =>
          cases hcells
          refine ⟨cx, hx', ?_⟩
          simp only [List.length_cons, List.length_nil] at hle hclen
          have hc0 : c = 0 := by omega
          have hd1 : cx.cells.size = 1 := by omega
          subst hc0
          rw [List.take_zero, List.nil_append, List.drop_eq_nil_of_le (by simp; omega), List.append_nil]
      have hdns : dn.cells.size = es := by
        have : dn.cells.toList.length = es := by rw [hdnc]; simp; omega
        simpa using this
      refine ⟨h1, h2, h3, cur', ety, es'.set k dn, setRow_heap w b cur cur' ety (0, 0) hg, ?_, ?_, ?_, fun q => ?_⟩
      · refine RepL.set k ?_ (Rep.mono hok hc (fun _ => rfl) _ hdn)
        exact RepL.mono hok hc (fun _ => rfl) _ (RepL.into (m := some ob.t) _ _ (fun q => by simp at q; simp [q.1]) (fun _ q => by cases q) hl)
      · intro u hu
        rcases List.mem_or_eq_of_mem_set hu with hu | rfl
        · exact hwf u hu
        · refine ⟨hdns, fun v hv => ?_⟩
          rw [hdnc] at hv
          simp only [List.mem_append] at hv
          rcases hv with (hv | hv) | hv
          · exact hcone v (List.mem_of_mem_take hv)
          · exact hdone v hv
          · exact hcone v (List.mem_of_mem_drop hv)
      · intro i d r u hd hu
        rw [hget]
        by_cases hik : i = k
        · subst hik
          have hlt : i < es'.length := (List.getElem?_eq_some_iff.1 hdv).1
          rw [List.getElem?_set_self hlt] at hd
          cases hd
          rw [hdnc, splice_get _ _ _ (by simp; omega)] at hu
          have hr : r < es := by
            by_cases hr : r < es
            · exact hr
            · exfalso
              rw [if_neg (by omega), if_neg (by rw [hcl0]; omega)] at hu
              have := (List.getElem?_eq_some_iff.1 hu).1
              simp at this; omega
          have hold := fun v (hv : dv.cells.toList[r]? = some v) => hcur i dv r v hdv hv
          by_cases hr1 : r < c
          · rw [if_pos hr1] at hu
            rw [if_pos (by omega)]
            exact hold u hu
          · rw [if_neg hr1] at hu
            rw [if_neg (by omega)]
            rw [hcl0] at hu
            by_cases hr2 : r < c + ti.size
            · rw [if_pos hr2] at hu
              rw [if_pos (by omega), show bo + i * es + r - (bo + i * es + c) = r - c by omega]
              exact hu
            · rw [if_neg hr2] at hu
              rw [if_neg (by omega)]
              exact hold u hu
        · rw [List.getElem?_set_ne (Ne.symm hik)] at hd
          have hr : r < es := by
            have := (List.getElem?_eq_some_iff.1 hu).1
            have h5 := (hwf d (List.mem_of_getElem? hd)).1
            simp at this; omega
          have hold := hcur i d r u hd hu
          rcases Nat.lt_or_gt_of_ne hik with hlt | hgt
          · have : i * es + es ≤ k * es := by rw [← Nat.succ_mul]; exact Nat.mul_le_mul_right _ hlt
            rw [if_pos (by omega)]; exact hold
          · have : k * es + es ≤ i * es := by rw [← Nat.succ_mul]; exact Nat.mul_le_mul_right _ hgt
            rw [if_neg (by omega), if_neg (by omega)]; exact hold
      · obtain ⟨q1, q2, q3, q4⟩ := happ q
        exact ⟨q1, by rw [hcsz]; exact q2, q3, by simpa using q4⟩
    · intro hf
      simp only [Bool.and_eq_true] at hf
      have hfe := hfl hf.1
      have hset : ∀ (l : List V) (i : Nat) (v : V), xS l = true → refFree v = true → xS (l.set i v) = true := by
        intro l
        induction l with
        | nil => intro i v h _; simpa using h
        | cons y l ih =>
          intro i v h1 h2
          simp only [xS, Bool.and_eq_true] at h1
          cases i with
          | zero => simp [xS, h1, h2]
          | succ i => simp [xS, h1, ih i v h1.2 h2]
      refine hset _ _ _ hfe ?_
      have hef : refFree e = true := by
        have hmem : ∀ (l : List V) (i : Nat) (v : V), xS l = true → l[i]? = some v → refFree v = true := by
          intro l
          induction l with
          | nil => intro i v _ h; simp at h
          | cons y l ih =>
            intro i v h1 h2
            simp only [xS, Bool.and_eq_true] at h1
            cases i with
            | zero => simp at h2; subst h2; exact h1.1
            | succ i => exact ih i v h1.2 (by simpa using h2)
        exact hmem _ _ _ hfe hel
      have happL : ∀ (l l' : List V), xS (l ++ l') = (xS l && xS l') := by
        intro l l'
        induction l with
        | nil => simp [xS]
        | cons y l ih => simp [xS, ih, Bool.and_assoc]
      have htd : ∀ (l : List V) (n : Nat), xS l = true → xS (l.take n) = true ∧ xS (l.drop n) = true := by
        intro l n h
        have h' : xS (l.take n ++ l.drop n) = true := by rw [List.take_append_drop]; exact h
        rw [happL] at h'
        simpa using h'
      cases e with
      | agg cs' =>
        simp only [putIn, refFree, zB] at hef ⊢
        have hdsf : xS ds = true := by
          have hxf := hf.2
          cases x <;> simp only [cells?] at hds <;> cases hds <;> simp_all [refFree, xS]
        rw [happL, happL, (htd _ _ hef).1, (htd _ _ hef).2, hdsf]
        rfl
      | _ => exact hf.2

end
end Go.AM
end

section
/-
A value turned into what it reads: objects that it names are lent, or given up.
-/
namespace Go.AM
open Go Go.RowKit

section
variable {C C' : Cx} {w w' : World} {σ σ' : Places}

mutual
theorem Rep.any {t0 : Bool} (hok : ∀ b, okB C w σ t0 b → okB C' w' σ' t0 b) (hc : ∀ b o, okB C w σ t0 b → w'.cell? ⟨b, o, none⟩ = w.cell? ⟨b, o, none⟩) :
    ∀ (v : V) {c : Value}, refFree v = true → Rep C w σ (some t0) v c → Rep C' w' σ' (some t0) v c
  | .int k n, c, _, h => h
  | .bool b, c, _, h => h
  | .lit v, c, _, h => h
  | .und, c, _, h => h
  | .agg cs, c, hf, h => by
    simp only [Rep, refFree] at h hf ⊢
    obtain ⟨ds, rfl, hl, h1⟩ := h
    exact ⟨ds, rfl, RepL.any hok hc cs hf hl, h1⟩
  | .tup cs, c, hf, h => by
    simp only [Rep, refFree] at h hf ⊢
    obtain ⟨ds, rfl, hl⟩ := h
    exact ⟨ds, rfl, RepL.any hok hc cs hf hl⟩
  | .sl t vs, c, _, h => by
    simp only [Rep, Option.getD_some] at h ⊢
    obtain ⟨hf, a, cap, rfl, hle, hv⟩ := h
    refine ⟨hf, a, cap, rfl, hle, ?_⟩
    rcases hv with hv | ⟨b, off, es, ds, rfl, hb, hl, hw, hes, hlie⟩
    · exact .inl hv
    · exact .inr ⟨b, off, es, ds, rfl, hok _ hb, RepL.any hok hc vs hf hl, hw, hes, hlie.mono fun o => hc b o hb⟩
  | .full t vs, c, _, h => by
    simp only [Rep, Option.getD_some] at h ⊢
    obtain ⟨hf, a, rfl, hv⟩ := h
    refine ⟨hf, a, rfl, ?_⟩
    rcases hv with hv | ⟨b, off, es, ds, rfl, hb, hl, hw, hes, hlie⟩
    · exact .inl hv
    · exact .inr ⟨b, off, es, ds, rfl, hok _ hb, RepL.any hok hc vs hf hl, hw, hes, hlie.mono fun o => hc b o hb⟩
  | .emp, c, _, h => h
  | .fp t cs o, c, _, h => by
    simp only [Rep, Option.getD_some] at h ⊢
    obtain ⟨hf, b, off, ds, rfl, hb, hl, h1, hlie⟩ := h
    exact ⟨hf, b, off, ds, rfl, hok _ hb, RepL.any hok hc cs hf hl, h1, hlie.mono fun o => hc b o hb⟩
  | .own j off len, c, hf, h => by simp [refFree] at hf
  | .pre .., c, hf, h => by simp [refFree] at hf
  | .ptr j i o, c, hf, h => by simp [refFree] at hf
  | .mapr j, c, hf, h => by simp [refFree] at hf
  | .clo f xs ys, c, hf, h => by
    simp only [Rep, refFree, Bool.and_eq_true] at h hf ⊢
    obtain ⟨fa, fb, rfl, hx, hy⟩ := h
    exact ⟨fa, fb, rfl, RepL.any hok hc xs hf.1 hx, RepL.any hok hc ys hf.2 hy⟩
  | .junk, c, _, _ => trivial
theorem RepL.any {t0 : Bool} (hok : ∀ b, okB C w σ t0 b → okB C' w' σ' t0 b) (hc : ∀ b o, okB C w σ t0 b → w'.cell? ⟨b, o, none⟩ = w.cell? ⟨b, o, none⟩) :
    ∀ (vs : List V) {ds : List Value}, xS vs = true → RepL C w σ (some t0) vs ds → RepL C' w' σ' (some t0) vs ds
  | [], ds, _, h => h
  | v :: vs, ds, hf, h => by
    simp only [RepL, xS, Bool.and_eq_true] at h hf ⊢
    obtain ⟨d, r, rfl, hd, hr⟩ := h
    exact ⟨d, r, rfl, Rep.any hok hc v hf.1 hd, RepL.any hok hc vs hf.2 hr⟩
end
end

theorem reach_mono (objs : List (Nat × Ob)) : ∀ (n : Nat) {l l' : List Nat}, (∀ i ∈ l, i ∈ l') → ∀ i ∈ reach objs n l, i ∈ reach objs n l'
  | 0, l, l', h, i, hi => h i hi
  | n + 1, l, l', h, i, hi => by
    simp only [reach, List.mem_append] at hi ⊢
    rcases hi with hi | hi
    · exact .inl (h i hi)
    · refine .inr (reach_mono objs n (fun j hj => ?_) i hi)
      simp only [List.mem_flatMap] at hj ⊢
      obtain ⟨k, hk, hj⟩ := hj
      exact ⟨k, h k hk, hj⟩

theorem reach_succ (objs : List (Nat × Ob)) : ∀ (n : Nat) (l : List Nat), ∀ i ∈ reach objs n l, i ∈ reach objs (n + 1) l
  | 0, l, i, hi => by simp only [reach, List.mem_append] at hi ⊢; exact .inl hi
  | n + 1, l, i, hi => by
    rw [reach, List.mem_append] at hi ⊢
    rcases hi with hi | hi
    · exact .inl hi
    · exact .inr (reach_succ objs n _ i hi)

theorem reach_self (objs : List (Nat × Ob)) (n : Nat) (l : List Nat) : ∀ i ∈ l, i ∈ reach objs n l := by
  cases n with
  | zero => intro i hi; exact hi
  | succ n => intro i hi; rw [reach, List.mem_append]; exact .inl hi

theorem ids_retag (t : Bool) (v : V) : ids (retag t v) = ids v := by
  have key : ∀ v, ids (retag t v) = ids v := by
    intro v
    induction v using V.rec (motive_2 := fun vs => idsL (xU t vs) = idsL vs) with
    | _ => simp_all [ids, retag, idsL, xU]
  exact key v
theorem idsL_retag (t : Bool) : ∀ (vs : List V), idsL (xU t vs) = idsL vs
  | [] => rfl
  | v :: vs => by simp [idsL, xU, ids_retag, idsL_retag t vs]
theorem refFree_retag (t : Bool) (v : V) : refFree (retag t v) = refFree v := by
  induction v using V.rec (motive_2 := fun vs => xS (xU t vs) = xS vs) with
  | _ => simp_all [refFree, retag, xS, xU]
theorem refFreeL_retag (t : Bool) : ∀ (vs : List V), xS (xU t vs) = xS vs
  | [] => rfl
  | v :: vs => by simp [xS, xU, refFree_retag, refFreeL_retag t vs]
theorem idsL_sub {vs : List V} : ∀ {i : Nat} {v : V}, vs[i]? = some v → ∀ j ∈ ids v, j ∈ idsL vs := by
  induction vs with
  | nil => intro i v h; simp at h
  | cons x vs ih =>
    intro i v h j hj
    simp only [idsL, List.mem_append]
    cases i with
    | zero => simp at h; subst h; exact .inl hj
    | succ i => exact .inr (ih (by simpa using h) j hj)
theorem idsL_take_drop (vs : List V) (a b : Nat) : ∀ j ∈ idsL ((vs.drop a).take b), j ∈ idsL vs := by
  have happ : ∀ (l l' : List V), idsL (l ++ l') = idsL l ++ idsL l' := by
    intro l l'
    induction l with
    | nil => simp [idsL]
    | cons y l ih => simp [idsL, ih]
  intro j hj
  have h1 : vs = vs.take a ++ ((vs.drop a).take b ++ (vs.drop a).drop b) := by rw [List.take_append_drop, List.take_append_drop]
  rw [h1, happ, happ]
  simp only [List.mem_append]
  exact .inr (.inl hj)
theorem ids_cells {v : V} {cs : List V} (h : cells? v = some cs) : idsL cs = ids v := by
  cases v <;> simp only [cells?] at h <;> cases h <;> simp [ids, idsL]

theorem refFreeL_app (l l' : List V) : xS (l ++ l') = (xS l && xS l') := by
  induction l with
  | nil => simp [xS]
  | cons y l ih => simp [xS, ih, Bool.and_assoc]
theorem refFreeL_take_drop {vs : List V} (h : xS vs = true) (a b : Nat) : xS ((vs.drop a).take b) = true := by
  have h1 : vs = vs.take a ++ ((vs.drop a).take b ++ (vs.drop a).drop b) := by rw [List.take_append_drop, List.take_append_drop]
  rw [h1, refFreeL_app, refFreeL_app] at h
  simp only [Bool.and_eq_true] at h
  exact h.2.1
theorem refFree_mem {vs : List V} (h : xS vs = true) {i : Nat} {v : V} (hv : vs[i]? = some v) : refFree v = true := by
  induction vs generalizing i with
  | nil => simp at hv
  | cons y l ih =>
    simp only [xS, Bool.and_eq_true] at h
    cases i with
    | zero => simp at hv; subst hv; exact h.1
    | succ i => exact ih h.2 (by simpa using hv)
theorem refFreeL_cells {v : V} {cs : List V} (hc : cells? v = some cs) (h : refFree v = true) : xS cs = true := by
  cases v <;> simp only [cells?] at hc <;> cases hc <;> simp_all [refFree, xS]

section
variable {C C' : Cx} {D : List Deferred} {outs : List (List Value)} {st : St} {a : Act} {w : World} {σ σ' : Places}

mutual
theorem retag_new : ∀ (v : V), isNew v = true → retag true v = v
  | .int .., _ => rfl
  | .bool _, _ => rfl
  | .lit _, _ => rfl
  | .und, _ => rfl
  | .agg cs, h => by simp only [isNew] at h; simp [retag, retagL_new cs h]
  | .tup cs, h => by simp only [isNew] at h; simp [retag, retagL_new cs h]
  | .sl t vs, h => by simp only [isNew] at h; simp [retag, h]
  | .full t vs, h => by simp only [isNew] at h; simp [retag, h]
  | .emp, _ => rfl
  | .fp t cs o, h => by simp only [isNew] at h; simp [retag, h]
  | .own .., _ => rfl
  | .pre .., _ => rfl
  | .ptr .., _ => rfl
  | .mapr _, _ => rfl
  | .clo f xs ys, h => by simp only [isNew, Bool.and_eq_true] at h; simp [retag, retagL_new xs h.1, retagL_new ys h.2]
  | .junk, _ => rfl
theorem retagL_new : ∀ (vs : List V), xT vs = true → xU true vs = vs
  | [], _ => rfl
  | v :: vs, h => by simp only [xT, Bool.and_eq_true] at h; simp [xU, retag_new v h.1, retagL_new vs h.2]
end

theorem Sim.unfrozen (h : Sim C D outs st a w σ) {id b bo es cap : Nat} {app : Bool} (hl : σ id = some (.blk b bo es cap app)) : ∃ cur e, w.heap[b]? = some (.cells cur e (0, 0)) := by
  cases hob : look st.objs id with
  | none => rw [h.dom id hob] at hl; cases hl
  | some ob =>
    obtain ⟨loc, hloc, hr, _⟩ := h.objs id ob hob
    rw [hl] at hloc
    cases hloc
    obtain ⟨_, _, _, cur, e, ds, hg, _⟩ := hr
    exact ⟨cur, e, hg⟩

theorem resolve_ok (h : Sim C D outs st a w σ) (S : List Nat) (hok : ∀ t b, okB C w σ t b → okB C' w σ' t b)
    (hown : ∀ id ∈ S, ∀ b bo es cap app, σ id = some (.blk b bo es cap app) → okB C' w σ' true b) :
    ∀ (n : Nat), (∀ (v : V) (c : Value) (v' : V), Rep C w σ none v c → (∀ i ∈ reach st.objs n (ids v), i ∈ S) → resolve st.objs n v = some v' → Rep C' w σ' none v' c ∧ refFree v' = true) ∧
      (∀ (vs : List V) (ds : List Value) (vs' : List V), RepL C w σ none vs ds → (∀ i ∈ reach st.objs n (idsL vs), i ∈ S) → allM (resolve st.objs n) vs = some vs' → RepL C' w σ' none vs' ds ∧ xS vs' = true) := by
  have hc : ∀ (t : Bool) (b o : Nat), okB C w σ t b → w.cell? ⟨b, o, none⟩ = w.cell? ⟨b, o, none⟩ := fun _ _ _ _ => rfl
  have lists : ∀ n, (∀ (v : V) (c : Value) (v' : V), Rep C w σ none v c → (∀ i ∈ reach st.objs n (ids v), i ∈ S) → resolve st.objs n v = some v' → Rep C' w σ' none v' c ∧ refFree v' = true) →
      (∀ (vs : List V) (ds : List Value) (vs' : List V), RepL C w σ none vs ds → (∀ i ∈ reach st.objs n (idsL vs), i ∈ S) → allM (resolve st.objs n) vs = some vs' → RepL C' w σ' none vs' ds ∧ xS vs' = true) := by
    intro n hv vs
    induction vs with
    | nil => intro ds vs' hr _ he; simp only [allM] at he; cases he; exact ⟨hr, rfl⟩
    | cons v vs ih =>
      intro ds vs' hr hS he
      obtain ⟨d, r, rfl, hd, hr⟩ := hr
      simp only [allM] at he
      split at he
      case h_2 => cases he
      rename_i b hb
      split at he
      case h_2 => cases he
      rename_i bs hbs
      cases he
      obtain ⟨h1, h2⟩ := hv v d b hd (fun i hi => hS i (reach_mono _ n (fun j hj => by simp [idsL, hj]) i hi)) hb
      obtain ⟨h3, h4⟩ := ih r bs hr (fun i hi => hS i (reach_mono _ n (fun j hj => by simp [idsL, hj]) i hi)) hbs
      exact ⟨⟨d, r, rfl, h1, h3⟩, by simp [xS, h2, h4]⟩
  intro n
  induction n with
  | zero => exact ⟨fun v c v' _ _ he => by simp [resolve] at he, lists 0 fun v c v' _ _ he => by simp [resolve] at he⟩
  | succ n ih =>
    obtain ⟨ihv, ihl⟩ := ih
    have main : ∀ (v : V) (c : Value) (v' : V), Rep C w σ none v c → (∀ i ∈ reach st.objs (n + 1) (ids v), i ∈ S) → resolve st.objs (n + 1) v = some v' → Rep C' w σ' none v' c ∧ refFree v' = true := by
      intro v c v' hr hS he
      cases v with
      | int k m => simp only [resolve] at he; cases he; exact ⟨hr, rfl⟩
      | bool b => simp only [resolve] at he; cases he; exact ⟨hr, rfl⟩
      | lit u => simp only [resolve] at he; cases he; exact ⟨hr, rfl⟩
      | und => simp [resolve] at he
      | junk => simp [resolve] at he
      | mapr id => simp [resolve] at he
      | full t vs => simp [resolve] at he
      | emp =>
        simp only [resolve] at he; cases he
        obtain ⟨a, rfl⟩ := hr
        exact ⟨⟨rfl, a, 0, rfl, Nat.le_refl _, .inl rfl⟩, rfl⟩
      | sl t vs => simp only [resolve] at he; cases he; exact ⟨Rep.free hok hc _ rfl hr, rfl⟩
      | fp t cs o => simp only [resolve] at he; cases he; exact ⟨Rep.free hok hc _ rfl hr, rfl⟩
      | agg cs =>
        simp only [resolve] at he
        obtain ⟨cs', hcs, rfl⟩ := Option.map_eq_some_iff.1 he
        obtain ⟨ds, rfl, hl, h1⟩ := hr
        obtain ⟨h2, h3⟩ := ihl cs ds cs' hl (fun i hi => hS i (reach_succ _ n _ i hi)) hcs
        exact ⟨⟨ds, rfl, h2, h1⟩, h3⟩
      | tup cs =>
        simp only [resolve] at he
        obtain ⟨cs', hcs, rfl⟩ := Option.map_eq_some_iff.1 he
        obtain ⟨ds, rfl, hl⟩ := hr
        obtain ⟨h2, h3⟩ := ihl cs ds cs' hl (fun i hi => hS i (reach_succ _ n _ i hi)) hcs
        exact ⟨⟨ds, rfl, h2⟩, h3⟩
      | clo f xs ys =>
        simp only [resolve] at he
        split at he
        case h_2 => cases he
        rename_i xs' ys' hx hy
        cases he
        obtain ⟨fa, fb, rfl, hrx, hry⟩ := hr
        obtain ⟨h2, h3⟩ := ihl xs fa xs' hrx (fun i hi => hS i (reach_succ _ n _ i (reach_mono _ n (fun j hj => by simp [ids, hj]) i hi))) hx
        obtain ⟨h4, h5⟩ := ihl ys fb ys' hry (fun i hi => hS i (reach_succ _ n _ i (reach_mono _ n (fun j hj => by simp [ids, hj]) i hi))) hy
        exact ⟨⟨fa, fb, rfl, h2, h4⟩, by simp [refFree, h3, h5]⟩
      | own id off len =>
        simp only [resolve] at he
        split at he
        case h_2 => cases he
        rename_i ob hob
        split at he
        case isFalse => cases he
        rename_i hle
        obtain ⟨loc, hloc, hrep, hfl⟩ := h.objs id ob hob
        simp only [Rep, hloc] at hr
        have hidS : id ∈ S := hS id (reach_self _ _ _ _ (by simp [ids]))
        have hsub : ob.flat = false → ∀ i ∈ reach st.objs n (idsL ob.elems), i ∈ S := fun hf i hi => by
          refine hS i ?_
          simp only [reach, ids, List.mem_append, List.flatMap_cons, List.flatMap_nil, List.append_nil, hob, hf, Bool.false_eq_true, if_false]
          exact .inr hi
        cases loc with
        | virt app =>
          obtain ⟨rfl, rfl, a, cp, rfl, _⟩ := hr
          simp only [List.drop_zero, List.take_zero, xU, allM] at he
          have : v' = .sl ob.t [] ∨ v' = .sl true [] := by
            split at he
            · cases he; exact .inl rfl
            · cases he; exact .inr rfl
          rcases this with rfl | rfl <;> exact ⟨⟨rfl, a, cp, rfl, Nat.zero_le _, .inl rfl⟩, rfl⟩
        | mp b => exact hr.elim
        | blk b bo es cap app =>
          obtain ⟨a, cp, rfl, hlc, ha⟩ := hr
          obtain ⟨h1, h2, h3, cur, ety, ds, hg, hl, hwf, hcur, happ⟩ := hrep
          have hsl : RepL C w σ (some ob.t) ((ob.elems.drop off).take len) ((ds.drop off).take len) := (hl.drop off).take len
          have hlen : ((ob.elems.drop off).take len).length = len := by simp; omega
          have hwf' : Wf es ((ds.drop off).take len) := fun d hd => hwf d (List.mem_of_mem_drop (List.mem_of_mem_take hd))
          have hlie : a = some ⟨b, bo + off * es, none⟩ → LiesE w b (bo + off * es) es ((ds.drop off).take len) := fun _ i d r u hd hu => by
            rw [List.getElem?_take] at hd
            split at hd
            · rw [List.getElem?_drop] at hd
              rw [cell_of_row w b _ cur ety (0, 0) hg]
              have := hcur (off + i) d r u hd hu
              rw [Nat.add_mul, ← Nat.add_assoc] at this
              simpa using this
            · cases hd
          have hbo := hown id hidS b bo es cap app hloc
          split at he
          · rename_i hf
            cases he
            have hff := refFreeL_take_drop (hfl hf) off len
            refine ⟨⟨hff, a, cp, by rw [hlen], by rw [hlen]; exact hlc, ?_⟩, rfl⟩
            rcases ha with ⟨h0, _⟩ | ⟨ha, _⟩
            · subst h0; exact .inl (by simp)
            · exact .inr ⟨b, bo + off * es, es, _, ha, hbo.weaken (fun _ => rfl), RepL.free hok hc _ hff hsl, hwf', h2, hlie ha⟩
          · rename_i hf
            split at he
            case h_2 => cases he
            rename_i es' hes'
            cases he
            have hsub' := hsub (by simpa using hf)
            obtain ⟨h4, h5⟩ := ihl _ _ es' (RepL.outOf _ _ hsl) (fun i hi => by
              rw [idsL_retag] at hi
              exact hsub' i (reach_mono _ n (idsL_take_drop _ _ _) i hi)) hes'
            have hlen' : es'.length = len := by rw [← h4.length, hsl.length, hlen]
            refine ⟨⟨h5, a, cp, by rw [hlen'], by rw [hlen']; exact hlc, ?_⟩, rfl⟩
            rcases ha with ⟨h0, _⟩ | ⟨ha, _⟩
            · subst h0; exact .inl (List.eq_nil_of_length_eq_zero hlen')
            · exact .inr ⟨b, bo + off * es, es, _, ha, hbo.weaken (fun _ => rfl), RepL.into _ _ (by simp) (by simp) h4, hwf', h2, hlie ha⟩
      | pre id off len room =>
        simp only [resolve] at he
        split at he
        case h_2 => cases he
        rename_i ob hob
        split at he
        case isFalse => cases he
        rename_i hle
        obtain ⟨loc, hloc, hrep, hfl⟩ := h.objs id ob hob
        simp only [Rep, hloc] at hr
        have hidS : id ∈ S := hS id (reach_self _ _ _ _ (by simp [ids]))
        have hsub : ob.flat = false → ∀ i ∈ reach st.objs n (idsL ob.elems), i ∈ S := fun hf i hi => by
          refine hS i ?_
          simp only [reach, ids, List.mem_append, List.flatMap_cons, List.flatMap_nil, List.append_nil, hob, hf, Bool.false_eq_true, if_false]
          exact .inr hi
        cases loc with
        | virt app => exact hr.elim
        | mp b => exact hr.elim
        | blk b bo es cap app =>
          obtain ⟨cp, rfl, hlr, hrc, _⟩ := hr
          have hlc : len ≤ cp := Nat.le_trans hlr hrc
          obtain ⟨h1, h2, h3, cur, ety, ds, hg, hl, hwf, hcur, happ⟩ := hrep
          have hsl : RepL C w σ (some ob.t) ((ob.elems.drop off).take len) ((ds.drop off).take len) := (hl.drop off).take len
          have hlen : ((ob.elems.drop off).take len).length = len := by simp; omega
          have hwf' : Wf es ((ds.drop off).take len) := fun d hd => hwf d (List.mem_of_mem_drop (List.mem_of_mem_take hd))
          have hlie : LiesE w b (bo + off * es) es ((ds.drop off).take len) := fun i d r u hd hu => by
            rw [List.getElem?_take] at hd
            split at hd
            · rw [List.getElem?_drop] at hd
              rw [cell_of_row w b _ cur ety (0, 0) hg]
              have := hcur (off + i) d r u hd hu
              rw [Nat.add_mul, ← Nat.add_assoc] at this
              simpa using this
            · cases hd
          have hbo := hown id hidS b bo es cap app hloc
          split at he
          · rename_i hf
            cases he
            have hff := refFreeL_take_drop (hfl hf) off len
            exact ⟨⟨hff, _, cp, by rw [hlen], by rw [hlen]; exact hlc, .inr ⟨b, bo + off * es, es, _, rfl, hbo.weaken (fun _ => rfl), RepL.free hok hc _ hff hsl, hwf', h2, hlie⟩⟩, rfl⟩
          · rename_i hf
            split at he
            case h_2 => cases he
            rename_i es' hes'
            cases he
            have hsub' := hsub (by simpa using hf)
            obtain ⟨h4, h5⟩ := ihl _ _ es' (RepL.outOf _ _ hsl) (fun i hi => by
              rw [idsL_retag] at hi
              exact hsub' i (reach_mono _ n (idsL_take_drop _ _ _) i hi)) hes'
            have hlen' : es'.length = len := by rw [← h4.length, hsl.length, hlen]
            exact ⟨⟨h5, _, cp, by rw [hlen'], by rw [hlen']; exact hlc, .inr ⟨b, bo + off * es, es, _, rfl, hbo.weaken (fun _ => rfl), RepL.into _ _ (by simp) (by simp) h4, hwf', h2, hlie⟩⟩, rfl⟩
      | ptr id k o =>
        simp only [resolve] at he
        split at he
        case h_2 => cases he
        rename_i ob hob
        split at he
        case h_2 => cases he
        rename_i e hel
        split at he
        case h_2 => cases he
        rename_i cs hcells
        obtain ⟨loc, hloc, hrep, hfl⟩ := h.objs id ob hob
        simp only [Rep, hloc] at hr
        have hidS : id ∈ S := hS id (reach_self _ _ _ _ (by simp [ids]))
        cases loc with
        | virt app => exact hr.elim
        | mp b => exact hr.elim
        | blk b bo es cap app =>
          simp only at hr
          subst hr
          obtain ⟨h1, h2, h3, cur, ety, ds, hg, hl, hwf, hcur, happ⟩ := hrep
          obtain ⟨dv, hdv, hrv⟩ := hl.get k hel
          obtain ⟨hcl, hcone, hclen, hcof⟩ := cells?_ok hrv hcells
          have hlie : Lies w b (bo + k * es) dv.cells.toList := fun r u hu => by
            rw [cell_of_row w b _ cur ety (0, 0) hg]
            have := hcur k dv r u hdv hu
            simpa using this
          have hbo := hown id hidS b bo es cap app hloc
          split at he
          · rename_i hf
            cases he
            have hff := refFreeL_cells hcells (refFree_mem (hfl hf) hel)
            exact ⟨⟨hff, b, bo + k * es, dv.cells.toList, rfl, hbo.weaken (fun _ => rfl), RepL.free hok hc _ hff hcl, hcone, hlie⟩, rfl⟩
          · rename_i hf
            split at he
            case h_2 => cases he
            rename_i es' hes'
            cases he
            obtain ⟨h4, h5⟩ := ihl _ _ es' (RepL.outOf _ _ hcl) (fun i hi => by
              rw [idsL_retag, ids_cells hcells] at hi
              refine hS i ?_
              simp only [reach, ids, List.mem_append, List.flatMap_cons, List.flatMap_nil, List.append_nil, hob, hf]
              exact .inr (reach_mono _ n (idsL_sub hel) i hi)) hes'
            exact ⟨⟨h5, b, bo + k * es, dv.cells.toList, rfl, hbo.weaken (fun _ => rfl), RepL.into _ _ (by simp) (by simp) h4, hcone, hlie⟩, rfl⟩
    exact ⟨main, lists (n + 1) main⟩

theorem Sim.dropL' : ∀ {l : List Nat} {st : St} {σ : Places}, Sim C D outs st a w σ → ∃ σ', Sim C D outs (st.dropL l) a w σ' ∧ (∀ j, σ' j = none ∨ σ' j = σ j) ∧
    (∀ id ∈ l, ∀ b bo es cap app, σ id = some (.blk b bo es cap app) → ¬ Held σ' b)
  | [], st, σ, h => ⟨σ, h, fun _ => .inr rfl, fun _ hi => by cases hi⟩
  | i :: r, st, σ, h => by
    obtain ⟨σ', h', hs, hr⟩ := Sim.dropL' (l := r) (h.drop i)
    have hs' : ∀ j, σ' j = none ∨ σ' j = σ j := fun j => by
      rcases hs j with e | e
      · exact .inl e
      · by_cases hji : j = i
        · exact .inl (e.trans (if_pos hji))
        · exact .inr (e.trans (if_neg hji))
    refine ⟨σ', h', hs', fun id hid b bo es cap app hl hh => ?_⟩
    by_cases e : id = i
    · subst e
      obtain ⟨j, lj, hj, hbj⟩ := hh
      rcases hs j with e' | e'
      · rw [e'] at hj; cases hj
      · rw [e'] at hj
        split at hj
        · cases hj
        · rename_i hne
          exact hne (h.inj j id _ _ b hj hl hbj rfl)
    · have hid' : id ∈ r := by rcases List.mem_cons.1 hid with e' | e'; exact absurd e' e; exact e'
      exact hr id hid' b bo es cap app (by simp [e, hl]) hh

theorem freeze_ok (h : Sim C D outs st a w σ) {fl t t' : Bool} {vs ns : List V} {st' : St} {ds : List Value} (hr : RepL C w σ (some t) vs ds) (hfl : fl = true → xS vs = true)
    (he : zI st fl t vs = some (st', t', ns)) : ∃ σ', Sim C D outs st' a w σ' ∧ RepL C w σ' (some t') ns ds ∧ xS ns = true ∧ (∀ j, σ' j = none ∨ σ' j = σ j) := by
  unfold zI at he
  split at he
  · rename_i hf
    cases he
    exact ⟨σ, h, hr, hfl hf, fun _ => .inr rfl⟩
  · split at he
    case h_2 => cases he
    rename_i es hes
    cases he
    obtain ⟨σ', h', hs, hd⟩ := Sim.dropL' (l := reach st.objs depth (idsL vs)) h
    obtain ⟨h1, h2⟩ := (resolve_ok (C' := C) (σ' := σ') h (reach st.objs depth (idsL vs)) (fun t b hb => ⟨fun hh => hb.1 (hh.sub hs), hb.2⟩)
      (fun id hid b bo es cap app hl => ⟨hd id hid b bo es cap app hl, (h.held b (.of hl)).2, .inl ⟨(h.held b (.of hl)).1, h.seen (.of hl)⟩, fun _ => h.unfrozen hl⟩) depth).2
      _ _ ns (RepL.outOf _ _ hr) (fun i hi => by rw [idsL_retag] at hi; exact hi) hes
    exact ⟨σ', h', RepL.into _ _ (by simp) (by simp) h1, h2, hs⟩

end
end Go.AM
end

section
/-
The operations, third part: slices that are made, written out, appended to.
-/
namespace Go.AM
open Go Go.RowKit

section
variable {P : Program} {E : Env} {C : Cx} {D : List Deferred} {outs : List (List Value)} {st st' : St} {a : Act} {w : World} {σ : Places}

theorem sliceOf_ok (hT : TyOk P E) {t : Nat} {ei : TI} (h : qE E t = some ei) : ∃ e, P.underlying t = some (.slice e) ∧ E.ty e = some ei := by
  unfold qE at h
  split at h
  case h_2 => cases h
  rename_i ti hti
  split at h
  case h_2 => cases h
  rename_i e hte
  obtain ⟨d, i, z, hd, ht, _⟩ := hT t ti hti
  rw [hte] at ht
  cases d <;> simp [tyIs] at ht
  subst ht
  exact ⟨_, hd, h⟩

theorem arrayOf_ok (hT : TyOk P E) {t n : Nat} {ei : TI} (h : qF E t = some (n, ei)) : ∃ e, P.underlying t = some (.array n e) ∧ E.ty e = some ei := by
  unfold qF at h
  split at h
  case h_2 => cases h
  rename_i ti hti
  split at h
  case h_2 => cases h
  rename_i m e hte
  obtain ⟨d, i, z, hd, ht, _⟩ := hT t ti hti
  rw [hte] at ht
  obtain ⟨x, hx, hxe⟩ := Option.map_eq_some_iff.1 h
  cases hxe
  cases d <;> simp [tyIs] at ht
  obtain ⟨rfl, rfl⟩ := ht
  exact ⟨_, hd, hx⟩

theorem fieldsOf_ok (hT : TyOk P E) {t : Nat} {fs : List (Nat × Nat)} (h : qB E t = some fs) :
    ∃ gs : Array Field, P.underlying t = some (.struct gs) ∧ gs.toList.map (fun g => (g.offset, g.type)) = fs := by
  unfold qB at h
  split at h
  case h_2 => cases h
  rename_i ti hti
  split at h
  case h_2 => cases h
  rename_i fs' hte
  cases h
  obtain ⟨d, i, z, hd, ht, _⟩ := hT t ti hti
  rw [hte] at ht
  cases d <;> simp [tyIs] at ht
  exact ⟨_, hd, ht⟩

theorem RepL.replicate {m : Option Bool} {v : V} {c : Value} (h : Rep C w σ m v c) : ∀ n, RepL C w σ m (List.replicate n v) (List.replicate n c)
  | 0 => rfl
  | n + 1 => ⟨c, _, rfl, h, RepL.replicate h n⟩

theorem refFreeL_replicate {v : V} (h : refFree v = true) : ∀ n, xS (List.replicate n v) = true
  | 0 => rfl
  | n + 1 => by simp [List.replicate_succ, xS, h, refFreeL_replicate h n]

theorem evMake_ok (hT : TyOk P E) (h : Sim C D outs st a w σ) {app : Bool} {t id d : Nat} {ei : TI} (hs : qE E t = some ei) {l c : V} {cl cc : Value} (hl : Rep C w σ none l cl) (hc : Rep C w σ none c cc)
    (he : xX app id d ei l c st = some st') : ∃ cv w' σ', (Instr.makeSlice t cl cc).run P w = .ok cv w' ∧ Sim C D outs st' (a.put (some d) cv) w' σ' := by
  obtain ⟨e, hu, hte⟩ := sliceOf_ok hT hs
  obtain ⟨d', i, z, hd, ht, hi, hsz, hby, hz, hzv, hzs, hz1, _⟩ := hT e ei hte
  unfold xX at he
  split at he
  case h_2 => cases he
  rename_i n m
  split at he
  case isFalse => cases he
  rename_i hcond
  obtain ⟨rfl, h0, hmax, hroom, hes, hzf, hzn⟩ := hcond
  cases he
  simp only [Rep] at hl hc
  subst hl hc
  obtain ⟨k, rfl⟩ := Int.eq_ofNat_of_zero_le h0
  simp only [Int.toNat_natCast] at hroom ⊢
  simp only [roomy, decide_eq_true_eq] at hroom
  have hb1 : (i.bytes : Int) * (k : Int) ≤ 281474976710656 := by
    have h1 : ((k * i.bytes : Nat) : Int) ≤ 281474976710656 := by rw [hby]; omega
    rw [Int.natCast_mul, Int.mul_comm] at h1; exact h1
  have hr := run_make (P := P) w t e i z hu hi hz .i64 .i64 k k (by omega) (Int.le_refl _) hb1 (by omega)
  simp only [Int.toNat_natCast, hsz] at hr
  refine ⟨_, _, setP σ id (.blk w.heap.size 0 ei.size k app), hr, (h.alloc id (.blk w.heap.size 0 ei.size k app) (below_alloc w _) (fun b e => ?_) _ ?_ ?_).put ?_⟩
  · cases e; simp
  · refine ⟨rfl, hes, rfl, _, e, List.replicate k z, heap_alloc_new w _, ?_, ?_, ?_, fun _ => ⟨rfl, by simp [madeCells], by unfold maxLen; omega, by simp⟩⟩
    · rw [hzv]; exact RepL.replicate (zero_rep z hz1) k
    · intro u hu
      rw [List.mem_replicate] at hu
      obtain ⟨_, rfl⟩ := hu
      exact ⟨hzs, hz1⟩
    · intro q dd r u hd hu
      obtain ⟨hq, rfl⟩ : q < k ∧ dd = z := by
        have hlt := (List.getElem?_eq_some_iff.1 hd).1
        simp at hlt
        rw [List.getElem?_replicate, if_pos hlt] at hd
        exact ⟨hlt, (Option.some.inj hd).symm⟩
      have hr : r < dd.cells.size := by have := (List.getElem?_eq_some_iff.1 hu).1; simpa using this
      have hlt : q * ei.size + r < k * ei.size := by
        have : q * ei.size + ei.size ≤ k * ei.size := by rw [← Nat.succ_mul]; exact Nat.mul_le_mul_right _ hq
        omega
      have hmod : (q * ei.size + r) % ei.size = r := by rw [Nat.mul_add_mod_self_right, Nat.mod_eq_of_lt (by omega)]
      rw [Array.getElem?_toList, Nat.zero_add]
      simp only [madeCells, Array.getElem?_map, Array.getElem?_range, hlt, if_true, Option.map_some, hzs, hmod]
      rw [← hu]
      simp [hr]
  · intro _; exact refFreeL_replicate hzf k
  · simp only [Rep, setP_same]
    refine ⟨_, k, rfl, Nat.le_refl _, .inr ⟨by simp, by simp⟩⟩

theorem storeCells_two {P : Program} (a : Addr) : ∀ (xs ys : List Value) (i : Nat) (w w1 : World) (r : Result Unit), (storeCells a xs i).run P w = .ok () w1 → (storeCells a ys (i + xs.length)).run P w1 = r → (storeCells a (xs ++ ys) i).run P w = r
  | [], ys, i, w, w1, r, h1, h2 => by
    simp only [storeCells, Sem.run_pure] at h1
    cases h1
    simpa using h2
  | x :: xs, ys, i, w, w1, r, h1, h2 => by
    rw [List.cons_append]
    unfold storeCells at h1 ⊢
    rw [Sem.run_bind] at h1 ⊢
    cases hx : (store (a.add i) x).run P w with
    | ok u w' =>
      rw [hx] at h1
      simp only [Result.andThen_ok] at h1 ⊢
      exact storeCells_two a xs ys (i + 1) w' w1 r h1 (by rw [show i + 1 + xs.length = i + (x :: xs).length by simp; omega]; exact h2)
    | _ => rw [hx] at h1; simp [Result.andThen] at h1
theorem addr_shift (b o i k : Nat) : (⟨b, o, none⟩ : Addr).add (i + k) = (⟨b, o + i, none⟩ : Addr).add k := by
  unfold Addr.add
  split
  · rename_i h
    rw [if_pos (by omega), show i = 0 by omega, Nat.add_zero]
  · split
    · rename_i h1 h2
      subst h2
      simp
    · dsimp only
      rw [Nat.add_assoc]
theorem storeCells_shift {P : Program} (b o i : Nat) : ∀ (ys : List Value) (k : Nat) (w : World), (storeCells ⟨b, o, none⟩ ys (i + k)).run P w = (storeCells ⟨b, o + i, none⟩ ys k).run P w
  | [], k, w => rfl
  | y :: ys, k, w => by
    unfold storeCells
    rw [Sem.run_bind, Sem.run_bind, addr_shift]
    congr 1
    funext u w'
    exact storeCells_shift b o i ys (k + 1) w'
theorem zeroCells_succ (z : Array Value) (hz : 0 < z.size) (n : Nat) : (Builtin.zeroCells z (n + 1)).toList = z.toList ++ (Builtin.zeroCells z n).toList := by
  apply List.ext_getElem?
  intro j
  unfold Builtin.zeroCells
  rw [Array.getElem?_toList, Array.getElem?_map, List.getElem?_append, Array.getElem?_toList, Array.getElem?_toList, Array.getElem?_map]
  by_cases h : j < z.size
  · have h2 : j < (n + 1) * z.size := by rw [Nat.succ_mul]; omega
    rw [if_pos (by simpa using h), Array.getElem?_range, if_pos h2]
    simp [Nat.mod_eq_of_lt h, h]
  · rw [if_neg (by simpa using h)]
    by_cases h2 : j < (n + 1) * z.size
    · have h3 : j - z.toList.length < n * z.size := by rw [Nat.succ_mul] at h2; simp; omega
      rw [Array.getElem?_range, if_pos h2, Array.getElem?_range, if_pos h3]
      have h4 : (j - z.toList.length) % z.size = j % z.size := by
        simp only [Array.length_toList]
        rw [← Nat.mod_eq_sub_mod (by omega)]
      simp only [Option.map_some, h4]
    · have h3 : ¬ j - z.toList.length < n * z.size := by rw [Nat.succ_mul] at h2; simp; omega
      rw [Array.getElem?_range, if_neg h2, Array.getElem?_range, if_neg h3]
theorem clearN_ok (hT : TyOk P E) {t : TypeId} {ti : TI} (hti : E.ty t = some ti) {z : Value} (hz : Rep C w σ none ti.zero z) (hzs : z.cells.size = ti.size) (hz0 : ∀ w', Rep C w' σ none ti.zero z) {i : TypeInfo} (hi : P.info? t = some i) (hsz : i.size = ti.size) (h1 : 0 < ti.size) {id b bo cap : Nat} {app : Bool} (hσ : σ id = some (.blk b bo ti.size cap app)) :
    ∀ (n k : Nat) (st : St) (w : World), Sim C D outs st a w σ → clearN ti id n k st = some st' → ∃ w', (storeCells ⟨b, bo + k * ti.size, none⟩ (Builtin.zeroCells z.cells n).toList 0).run P w = .ok () w' ∧ Sim C D outs st' a w' σ
  | 0, k, st, w, h, he => by
    cases he
    refine ⟨w, ?_, h⟩
    simp [Builtin.zeroCells, storeCells]
  | n + 1, k, st, w, h, he => by
    unfold clearN at he
    split at he
    case h_2 => cases he
    rename_i s hs
    obtain ⟨w1, hr, hsim⟩ := evStore_ok (P := P) hT h hti (p := .ptr id k 0) (cp := .pointer (some ⟨b, bo + k * ti.size + 0, none⟩)) (by simp only [Rep, hσ]) (hz0 w) hs
    obtain ⟨w2, hr2, hsim2⟩ := clearN_ok hT hti hz hzs hz0 hi hsz h1 hσ n (k + 1) s w1 hsim he
    refine ⟨w2, ?_, hsim2⟩
    rw [zeroCells_succ _ (by omega)]
    simp only [Instr.storeAt, Instr.sureAddr, Sem.run_bind, Sem.run_pure, Result.andThen_ok] at hr
    unfold storeVar at hr
    simp only [Sem.run_bind, run_sizeOf hi, Result.andThen_ok, hsz] at hr
    rw [if_neg (by simp; omega)] at hr
    refine storeCells_two _ _ _ 0 w w1 _ hr ?_
    rw [Nat.zero_add, show z.cells.toList.length = ti.size + 0 by simp [hzs], storeCells_shift]
    rw [show bo + k * ti.size + ti.size = bo + (k + 1) * ti.size by rw [Nat.succ_mul]; omega]
    exact hr2
theorem evClear_ok (hT : TyOk P E) (h : Sim C D outs st a w σ) {t ty : TypeId} {ei : TI} (hs : qE E t = some ei) {x : V} {cx : Value} (hx : Rep C w σ none x cx) (he : evClear ei x st = some st') :
    ∃ w', (Builtin.clear_ #[t] ty #[cx]).run P w = .ok (.tuple #[]) w' ∧ Sim C D outs st' a w' σ := by
  obtain ⟨e, hu, hte⟩ := sliceOf_ok hT hs
  obtain ⟨d', i, z, hd, ht, hi, hsz, hby, hz, hzv, hzs, hz1, _⟩ := hT e ei hte
  unfold evClear at he
  split at he
  case h_2 => cases he
  rename_i id off len
  split at he
  case h_2 => cases he
  rename_i ob hob
  obtain ⟨loc, hloc, hrep, hfl⟩ := h.objs id ob hob
  simp only [Rep, hloc] at hx
  split at he
  · rename_i hc
    cases loc with
    | virt app => simp only at hx; omega
    | mp b => exact hx.elim
    | blk b bo es cap app =>
      obtain ⟨q1, q2, q3⟩ := hrep
      have hes : es = ei.size := by rw [← hc.1]; exact q1.symm
      subst hes
      obtain ⟨ad, cp, rfl, hle, hor⟩ := hx
      rcases hor with ⟨h0, _⟩ | ⟨rfl, _⟩
      · omega
      · have hzr : ∀ w', Rep C w' σ none ei.zero z := fun w' => hzv ▸ zero_rep z hz1
        obtain ⟨w', hr, hsim⟩ := clearN_ok hT hte (hzr w) hzs hzr hi hsz (by omega) hloc len off st w h he
        refine ⟨w', ?_, hsim⟩
        obtain ⟨n, rfl⟩ : ∃ n, len = n + 1 := ⟨len - 1, by omega⟩
        have hzv' : (zeroValue e).run P w = .ok z w := by
          unfold zeroValue
          simp only [Sem.run_bind, run_typeInfo w hi, Result.andThen_ok, hz, Sem.run_pure]
        unfold Builtin.clear_
        simp [Sem.run_bind, run_underlying hu, hzv', hr]
  · split at he
    · rename_i h0
      subst h0
      cases he
      refine ⟨w, ?_, h⟩
      have : ∃ a cp, cx = .slice a 0 cp := by
        cases loc with
        | virt app => obtain ⟨_, _, ad, cp, rfl, _⟩ := hx; exact ⟨ad, cp, rfl⟩
        | mp b => exact hx.elim
        | blk b bo es cap app => obtain ⟨ad, cp, rfl, _⟩ := hx; exact ⟨ad, cp, rfl⟩
      obtain ⟨ad, cp, rfl⟩ := this
      unfold Builtin.clear_
      cases ad <;> simp [Sem.run_bind, run_underlying hu]
    · cases he

end
end Go.AM
end

section
/-
The operations, fourth part: slices written out, and appended to.
-/
namespace Go.AM
open Go Go.RowKit

section
variable {P : Program} {E : Env} {C : Cx} {D : List Deferred} {outs : List (List Value)} {st st' : St} {a : Act} {w : World} {σ : Places}

theorem flat_cons (d : Value) (ds : List Value) : flat (d :: ds) = d.cells.toList ++ flat ds := rfl
theorem flat_app (ds es : List Value) : flat (ds ++ es) = flat ds ++ flat es := by simp [flat]
theorem Wf.app {n : Nat} {ds es : List Value} (h : Wf n ds) (h' : Wf n es) : Wf n (ds ++ es) := fun d hd => by
  rcases List.mem_append.1 hd with hd | hd
  · exact h d hd
  · exact h' d hd

theorem flat_length {n : Nat} : ∀ {ds : List Value}, Wf n ds → (flat ds).length = ds.length * n
  | [], _ => by simp [flat]
  | d :: ds, h => by
    rw [flat_cons, List.length_append, flat_length (fun x hx => h x (by simp [hx]))]
    have := (h d (by simp)).1
    simp only [Array.length_toList, this, List.length_cons, Nat.add_mul]
    omega

theorem flat_get {n : Nat} : ∀ {ds : List Value} {i r : Nat} {d u : Value}, Wf n ds → ds[i]? = some d → d.cells.toList[r]? = some u → (flat ds)[i * n + r]? = some u
  | [], i, r, d, u, _, h, _ => by simp at h
  | x :: ds, 0, r, d, u, hw, h, hu => by
    simp at h; subst h
    have hlt := (List.getElem?_eq_some_iff.1 hu).1
    rw [flat_cons, Nat.zero_mul, Nat.zero_add, List.getElem?_append_left hlt]
    exact hu
  | x :: ds, i + 1, r, d, u, hw, h, hu => by
    have hx : x.cells.toList.length = n := by have := (hw x (by simp)).1; simpa using this
    have ih := flat_get (fun y (hy : y ∈ ds) => hw y (List.mem_cons_of_mem _ hy)) (by simpa using h) hu
    rw [flat_cons, List.getElem?_append_right (by rw [hx, Nat.add_mul]; omega), hx, show (i + 1) * n + r - n = i * n + r by rw [Nat.add_mul]; omega]
    exact ih

theorem flat_get' {n : Nat} (hn : 0 < n) : ∀ {ds : List Value} {j : Nat} {u : Value}, Wf n ds → (flat ds)[j]? = some u → ∃ d, ds[j / n]? = some d ∧ d.cells.toList[j % n]? = some u
  | [], j, u, _, h => by simp [flat] at h
  | x :: ds, j, u, hw, h => by
    have hx : x.cells.toList.length = n := by have := (hw x (by simp)).1; simpa using this
    rw [flat_cons] at h
    by_cases hj : j < n
    · rw [List.getElem?_append_left (by omega)] at h
      exact ⟨x, by rw [Nat.div_eq_of_lt hj]; rfl, by rw [Nat.mod_eq_of_lt hj]; exact h⟩
    · rw [List.getElem?_append_right (by omega), hx] at h
      obtain ⟨d, hd, hu⟩ := flat_get' hn (fun y hy => hw y (by simp [hy])) h
      refine ⟨d, ?_, ?_⟩
      · have : j / n = (j - n) / n + 1 := by
          rw [show j = (j - n) + n by omega, Nat.add_div_right _ hn]; simp
        rw [this]; simpa using hd
      · rw [show j = (j - n) + n by omega, Nat.add_mod_right]; simpa using hu

theorem flat_one {n : Nat} {ds : List Value} (hw : Wf n ds) : ∀ u ∈ flat ds, u.oneCell' = true := fun u hu => by
  simp only [flat, List.mem_flatMap] at hu
  obtain ⟨d, hd, hu⟩ := hu
  exact (hw d hd).2 u hu

theorem LiesE.flat {b off n : Nat} {ds : List Value} (hn : 0 < n) (hw : Wf n ds) (h : LiesE w b off n ds) : Lies w b off (flat ds) := fun j u hu => by
  obtain ⟨d, hd, hu'⟩ := flat_get' hn hw hu
  have := h _ d _ u hd hu'
  rwa [show off + j / n * n + j % n = off + j by rw [Nat.add_assoc, Nat.mul_comm, Nat.div_add_mod]] at this

theorem run_firstCells_lie {n k cap : Nat} {ds : List Value} {p : Option Addr} (hk : ds.length = k) (hw : Wf n ds) (hn : 0 < n)
    (h : ds = [] ∨ ∃ b off, p = some ⟨b, off, none⟩ ∧ LiesE w b off n ds) : (Builtin.firstCells n k (.slice p k cap)).run P w = .ok (flat ds).toArray w := by
  rcases h with rfl | ⟨b, off, rfl, h⟩
  · subst hk
    cases p with
    | none => simp [Builtin.firstCells, flat]
    | some q => simp [Builtin.firstCells, loadCells, loadCellsFrom, flat]
  · have hl := h.flat hn hw
    have := run_firstCells_some (P := P) w n k ⟨b, off, none⟩ k cap (flat ds) (by rw [flat_length hw, hk]) (fun j v hv => by rw [Addr.add_lit]; exact hl j v hv)
    exact this

theorem run_append_in {t ty e : TypeId} {i : TypeInfo} (ht : P.underlying t = some (.slice e)) (hi : P.info? e = some i)
    {p q : Option Addr} {n cap m cap' : Nat} {news : List Value} (hnew : (Builtin.firstCells i.size m (.slice q m cap')).run P w = .ok news.toArray w) (hle : n + m ≤ cap)
    {w' : World} (hst : ∀ b, p = some b → (storeCells (b.add (n * i.size)) news).run P w = .ok () w') (hno : p = none → w' = w) :
    (Builtin.append_ #[t, t] ty #[.slice p n cap, .slice q m cap']).run P w = .ok (.slice p (n + m) cap) w' := by
  cases p with
  | none => simp [Builtin.append_, run_underlying ht, sizeOf, typeInfo, hi, Builtin.lenOf, hle, hnew, hno rfl]
  | some b => simp [Builtin.append_, run_underlying ht, sizeOf, typeInfo, hi, Builtin.lenOf, hle, hnew, hst b rfl]

theorem run_append_out {t ty e : TypeId} {i : TypeInfo} {z : Value} (ht : P.underlying t = some (.slice e)) (hi : P.info? e = some i) (hz : i.zero = some z)
    {p q : Option Addr} {n cap m cap' : Nat} {olds news : List Value} (hold : (Builtin.firstCells i.size n (.slice p n cap)).run P w.drew = .ok olds.toArray w.drew)
    (hnew : (Builtin.firstCells i.size m (.slice q m cap')).run P w.drew = .ok news.toArray w.drew) (hg : cap < n + m)
    (h63 : ((n + m : Nat) : Int) ≤ 9223372036854775807) (hfit : Builtin.nextslicecap (n + m) cap * i.bytes ≤ 281474976710656) :
    (Builtin.append_ #[t, t] ty #[.slice p n cap, .slice q m cap']).run P w =
      .ok (.slice (some ⟨w.heap.size, 0, none⟩) (n + m) (grownCap w (n + m) cap e))
        (w.drew.alloc (.cells (olds.toArray ++ news.toArray ++ Builtin.zeroCells z.cells (grownCap w (n + m) cap e - (n + m))) e)) := by
  have hn : ¬ (n + m ≤ cap) := by omega
  have h63' : ¬ (9223372036854775807 < ((n : Int) + (m : Int))) := by omega
  have h48' : ¬ (281474976710656 < Builtin.nextslicecap (n + m) cap * i.bytes) := by omega
  simp [Builtin.append_, run_underlying ht, sizeOf, typeInfo, zeroValue, hi, hz, Builtin.lenOf, hn, h63', h48', Question.forced, hnew, hold, newRow, grownCap]
  congr 2
  apply Array.ext'
  simp [List.append_assoc]

theorem sized_wf {n : Nat} {m : Option Bool} : ∀ {vs : List V} {ds : List Value}, sized n vs = true → RepL C w σ m vs ds → Wf n ds
  | [], ds, _, h => by simp only [RepL] at h; subst h; intro d hd; cases hd
  | v :: vs, ds, hs, h => by
    simp only [RepL] at h
    obtain ⟨d, r, rfl, hd, hr⟩ := h
    simp only [sized, Bool.and_eq_true] at hs
    have ih := sized_wf hs.2 hr
    intro u hu
    rcases List.mem_cons.1 hu with rfl | hu
    · have h1 := hs.1
      split at h1
      · rename_i cs hcs
        obtain ⟨_, hone, hlen, _⟩ := cells?_ok hd hcs
        exact ⟨by rw [hlen]; simpa using h1, hone⟩
      · cases h1
    · exact ih u hu

theorem flat_holds {n bo : Nat} {ds : List Value} {cur : List Value} (hw : Wf n ds) (h : ∀ j u, (flat ds)[j]? = some u → cur[bo + j]? = some u) :
    ∀ i d r u, ds[i]? = some d → d.cells.toList[r]? = some u → cur[bo + i * n + r]? = some u := fun i d r u hd hu => by
  rw [Nat.add_assoc]; exact h _ u (flat_get hw hd hu)

theorem elemsV_ok (h : Sim C D outs st a w σ) {y : V} {cy : Value} (hr : Rep C w σ none y cy) {fl t : Bool} {ys : List V} (he : xB st.objs y = some (fl, t, ys)) :
    ∃ q cap ds, cy = .slice q ys.length cap ∧ RepL C w σ (some t) ys ds ∧ (fl = true → xS ys = true) ∧
      (ys = [] ∨ ∃ b off es, q = some ⟨b, off, none⟩ ∧ LiesE w b off es ds ∧ Wf es ds ∧ 0 < es) := by
  unfold xB at he
  split at he
  · cases he
    obtain ⟨q, rfl⟩ := hr
    exact ⟨q, 0, [], rfl, rfl, fun _ => rfl, .inl rfl⟩
  · rename_i q cap
    cases he
    simp only [Rep] at hr
    exact ⟨q, cap, [], hr.1, rfl, fun _ => rfl, .inl rfl⟩
  · cases he
    obtain ⟨hf, q, cap, rfl, hle, hv⟩ := hr
    rcases hv with rfl | ⟨b, off, es, ds, rfl, hb, hl, hw, hes, hlie⟩
    · exact ⟨q, cap, [], rfl, rfl, fun _ => rfl, .inl rfl⟩
    · exact ⟨_, cap, ds, rfl, hl, fun _ => hf, .inr ⟨b, off, es, rfl, hlie, hw, hes⟩⟩
  · rename_i id off len
    split at he
    case h_2 => cases he
    rename_i ob hob
    split at he
    case isFalse => cases he
    rename_i hle
    cases he
    obtain ⟨loc, hloc, hrep, hfl⟩ := h.objs id ob hob
    simp only [Rep, hloc] at hr
    have hlen : ((ob.elems.drop off).take len).length = len := by simp; omega
    cases loc with
    | virt app =>
      obtain ⟨rfl, rfl, q, cp, rfl, _⟩ := hr
      exact ⟨q, cp, [], by simp, by simp [RepL], fun _ => by simp [xS], .inl (by simp)⟩
    | mp b => exact hr.elim
    | blk b bo es cap app =>
      obtain ⟨q, cp, rfl, hlc, ha⟩ := hr
      obtain ⟨h1, h2, h3, cur, ety, ds, hg, hl, hwf, hcur, happ⟩ := hrep
      refine ⟨q, cp, (ds.drop off).take len, by rw [hlen], (hl.drop off).take len, fun hf => refFreeL_take_drop (hfl hf) off len, ?_⟩
      rcases ha with ⟨h0, _⟩ | ⟨ha, _⟩
      · subst h0; exact .inl (by simp)
      · refine .inr ⟨b, bo + off * es, es, ha, fun i d r u hd hu => ?_, fun d hd => hwf d (List.mem_of_mem_drop (List.mem_of_mem_take hd)), h2⟩
        rw [List.getElem?_take] at hd
        split at hd
        · rw [List.getElem?_drop] at hd
          rw [cell_of_row w b _ cur ety (0, 0) hg]
          have := hcur (off + i) d r u hd hu
          rw [Nat.add_mul, ← Nat.add_assoc] at this
          simpa using this
        · cases hd
  · rename_i id off len room
    split at he
    case h_2 => cases he
    rename_i ob hob
    split at he
    case isFalse => cases he
    rename_i hle
    cases he
    obtain ⟨loc, hloc, hrep, hfl⟩ := h.objs id ob hob
    simp only [Rep, hloc] at hr
    have hlen : ((ob.elems.drop off).take len).length = len := by simp; omega
    cases loc with
    | virt app => exact hr.elim
    | mp b => exact hr.elim
    | blk b bo es cap app =>
      obtain ⟨cp, rfl, hlr, hrc, _⟩ := hr
      obtain ⟨h1, h2, h3, cur, ety, ds, hg, hl, hwf, hcur, happ⟩ := hrep
      refine ⟨_, cp, (ds.drop off).take len, by rw [hlen], (hl.drop off).take len, fun hf => refFreeL_take_drop (hfl hf) off len, ?_⟩
      refine .inr ⟨b, bo + off * es, es, rfl, fun i d r u hd hu => ?_, fun d hd => hwf d (List.mem_of_mem_drop (List.mem_of_mem_take hd)), h2⟩
      rw [List.getElem?_take] at hd
      split at hd
      · rw [List.getElem?_drop] at hd
        rw [cell_of_row w b _ cur ety (0, 0) hg]
        have := hcur (off + i) d r u hd hu
        rw [Nat.add_mul, ← Nat.add_assoc] at this
        simpa using this
      · cases hd
  · cases he

mutual
theorem kill_kill (j i : Nat) : ∀ v, kill j (kill i (kill j v)) = kill i (kill j v)
  | .int .. => rfl
  | .bool _ => rfl
  | .lit _ => rfl
  | .und => rfl
  | .agg cs => by simp [kill, killL_killL j i cs]
  | .tup cs => by simp [kill, killL_killL j i cs]
  | .sl .. => rfl
  | .full .. => rfl
  | .emp => rfl
  | .fp .. => rfl
  | .own k o l => by
    simp only [kill]
    split
    · rfl
    · simp only [kill]
      split
      · rfl
      · simp only [kill]; split
        · contradiction
        · rfl
  | .pre k o l r => by
    simp only [kill]
    split
    · rfl
    · simp only [kill]
      split
      · rfl
      · simp only [kill]; split
        · contradiction
        · rfl
  | .ptr k o l => by
    simp only [kill]
    split
    · rfl
    · simp only [kill]
      split
      · rfl
      · simp only [kill]; split
        · contradiction
        · rfl
  | .mapr k => by
    simp only [kill]
    split
    · rfl
    · simp only [kill]
      split
      · rfl
      · simp only [kill]; split
        · contradiction
        · rfl
  | .clo f xs ys => by simp [kill, killL_killL j i xs, killL_killL j i ys]
  | .junk => rfl
theorem killL_killL (j i : Nat) : ∀ vs, killL j (killL i (killL j vs)) = killL i (killL j vs)
  | [] => rfl
  | v :: vs => by simp [killL, kill_kill j i v, killL_killL j i vs]
end
theorem killAll_killAll (j i : Nat) : ∀ ls, xV j (xV i (xV j ls)) = xV i (xV j ls)
  | [] => rfl
  | v :: vs => by simp [xV, killL_killL j i v, killAll_killAll j i vs]

theorem Sim.rename (h : Sim C D outs st a w σ) {j id : Nat} {ob : Ob} {loc : At} (hob : look st.objs j = some ob) (hloc : σ j = some loc) (hflat : ob.flat = true) :
    Sim C D outs ((st.drop j).alloc id ob) a w (setP (fun k => if k = j then none else σ k) id loc) := by
  obtain ⟨loc', hl', hrep, hff⟩ := h.objs j ob hob
  rw [hloc] at hl'
  cases hl'
  obtain ⟨σ', hσ'⟩ : ∃ σ' : Places, σ' = setP (fun k => if k = j then none else σ k) id loc := ⟨_, rfl⟩
  rw [← hσ']
  have hid : σ' id = some loc := by rw [hσ', setP_same]
  have hne : ∀ k, k ≠ id → k ≠ j → σ' k = σ k := fun k h1 h2 => by rw [hσ', setP_ne _ _ h1]; exact if_neg h2
  have hj : j ≠ id → σ' j = none := fun h1 => by rw [hσ', setP_ne _ _ h1]; exact if_pos rfl
  have hheld : ∀ b, Held σ' b → Held σ b := fun b hb => by
    obtain ⟨k, l, hk, hkb⟩ := hb
    by_cases h1 : k = id
    · subst h1; rw [hid] at hk; exact ⟨j, l, hloc.trans hk, hkb⟩
    · by_cases h2 : k = j
      · subst h2; rw [hj h1] at hk; cases hk
      · rw [hne k h1 h2] at hk; exact ⟨k, l, hk, hkb⟩
  -- on the way both names stand
  have hmid : ∀ b, Held (setP σ id loc) b → Held σ b := fun b hb => by
    rcases hb.setP with hb | e
    · exact hb
    · exact ⟨j, loc, hloc, e⟩
  have ok0 : ∀ t b, okB C w σ t b → okB C w σ t b := fun _ _ h => h
  have ok1 : ∀ t b, okB C w σ t b → okB C w (setP σ id loc) t b := fun t b hb => ⟨fun hh => hb.1 (hmid b hh), hb.2⟩
  have ok2 : ∀ t b, okB C w (setP σ id loc) t b → okB C w σ' t b := fun t b hb => by
    refine ⟨fun hh => hb.1 ?_, hb.2⟩
    obtain ⟨k, l, hk, hkb⟩ := hh
    by_cases h1 : k = id
    · subst h1; rw [hid] at hk; exact ⟨k, l, (setP_same σ k loc).trans hk, hkb⟩
    · by_cases h2 : k = j
      · subst h2; rw [hj h1] at hk; cases hk
      · rw [hne k h1 h2] at hk; exact ⟨k, l, (setP_ne σ loc h1).trans hk, hkb⟩
  have hc : ∀ (σ0 : Places) (t : Bool) (b o : Nat), okB C w σ0 t b → w.cell? ⟨b, o, none⟩ = w.cell? ⟨b, o, none⟩ := fun _ _ _ _ _ => rfl
  have s2 : ∀ k, k ≠ j → σ' k = setP σ id loc k := fun k h2 => by
    by_cases h1 : k = id
    · subst h1; rw [hid, setP_same]
    · rw [hne k h1 h2, setP_ne σ loc h1]
  have hL : ∀ {m : Option Bool} (vs : List V) {ds : List Value}, RepL C w σ m vs ds → RepL C w σ' m (killL id (killL j vs)) ds := fun vs _ hr => by
    have r1 := RepL.kill j (C' := C) (w' := w) (σ' := σ) ok0 (hc σ) (fun _ _ => rfl) vs hr
    have r2 := RepL.kill id (C' := C) (w' := w) (σ' := setP σ id loc) ok1 (hc σ) (fun k hk => setP_ne σ loc hk) _ r1
    have r3 := RepL.kill j (C' := C) (w' := w) (σ' := σ') ok2 (hc _) s2 _ r2
    rwa [killL_killL] at r3
  have hLL : ∀ {ls : List (List V)} {ds : List (List Value)}, RepLL C w σ ls ds → RepLL C w σ' (xV id (xV j ls)) ds := fun hr => by
    have r1 := RepLL.kill j (w' := w) (σ' := σ) ok0 (hc σ) (fun _ _ => rfl) hr
    have r2 := RepLL.kill id (w' := w) (σ' := setP σ id loc) ok1 (hc σ) (fun k hk => setP_ne σ loc hk) r1
    have r3 := RepLL.kill j (w' := w) (σ' := σ') ok2 (hc _) s2 r2
    rwa [killAll_killAll] at r3
  have okT : ∀ t b, okB C w σ t b → okB C w σ' t b := fun t b hb => ⟨fun hh => hb.1 (hheld b hh), hb.2⟩
  have hfree : ∀ {m : Option Bool} (vs : List V) {ds : List Value}, xS vs = true → RepL C w σ m vs ds → RepL C w σ' m vs ds := fun vs _ hf hr => RepL.free okT (hc σ) vs hf hr
  refine ⟨hL _ h.slots, hLL h.outer, fun k ob' hk => ?_, fun k hk => ?_, fun i k li lk b hi hk hbi hbk => ?_, fun b hb => h.held b (hheld b hb), h.below, h.base, h.old, h.still.mono (fun b _ hb => hheld b hb) (Nat.le_refl _) (fun _ _ _ => rfl)⟩
  · simp only [St.alloc, St.drop, look_upd, look_killObs] at hk
    by_cases h1 : k = id
    · rw [if_pos h1] at hk
      cases hk
      subst h1
      refine ⟨loc, hid, ?_, hff⟩
      cases loc with
      | virt app => exact hrep
      | blk b bo es cap app =>
        obtain ⟨q1, q2, q3, cur, e', ds, hg, hl, hr⟩ := hrep
        exact ⟨q1, q2, q3, cur, e', ds, hg, hfree _ (hff hflat) hl, hr⟩
      | mp b =>
        obtain ⟨q1, q2, q3, es, ck, hg, hl⟩ := hrep
        exact ⟨q1, q2, q3, es, ck, hg, hfree _ (hff hflat) hl⟩
    · rw [if_neg h1, if_neg h1] at hk
      by_cases h2 : k = j
      · rw [if_pos h2] at hk; simp at hk
      · rw [if_neg h2] at hk
        simp only [Option.map_map, Option.map_eq_some_iff] at hk
        obtain ⟨ob2, ho2, rfl⟩ := hk
        obtain ⟨loc2, hl2, hr2, hf2⟩ := h.objs k ob2 ho2
        refine ⟨loc2, by rw [hne k h1 h2, hl2], ?_, ?_⟩
        · simp only [Function.comp, zA]
          by_cases hfl : ob2.flat = true
          · simp only [hfl, if_true]
            cases loc2 with
            | virt app => exact hr2
            | blk b bo es cap app =>
              obtain ⟨q1, q2, q3, cur, e', ds, hg, hl, hr⟩ := hr2
              exact ⟨q1, q2, q3, cur, e', ds, hg, hfree _ (hf2 hfl) hl, hr⟩
            | mp b =>
              obtain ⟨q1, q2, q3, es, ck, hg, hl⟩ := hr2
              exact ⟨q1, q2, q3, es, ck, hg, hfree _ (hf2 hfl) hl⟩
          · simp only [hfl, Bool.false_eq_true, if_false]
            cases loc2 with
            | virt app =>
              obtain ⟨q1, q2, q3⟩ := hr2
              exact ⟨by simp [q1, killL], q2, q3⟩
            | blk b bo es cap app =>
              obtain ⟨q1, q2, q3, cur, e', ds, hg, hl, hwf, hcur, happ⟩ := hr2
              have hk2 := hL _ hl
              have hlen : (killL id (killL j ob2.elems)).length = ob2.elems.length := by rw [← hk2.length, ← hl.length]
              exact ⟨q1, q2, q3, cur, e', ds, hg, hk2, hwf, hcur, fun x => by have := happ x; simp only [hlen]; exact this⟩
            | mp b => exact absurd hr2.2.1 hfl
        · simp only [Function.comp, zA]
          by_cases hfl : ob2.flat = true
          · simp only [hfl, if_true]; exact fun _ => hf2 hfl
          · simp [hfl]
  · simp only [St.alloc, St.drop, look_upd, look_killObs] at hk
    by_cases h1 : k = id
    · rw [if_pos h1] at hk; cases hk
    · rw [if_neg h1, if_neg h1] at hk
      by_cases h2 : k = j
      · subst h2; exact hj h1
      · rw [if_neg h2] at hk
        rw [hne k h1 h2]
        exact h.dom k (by simpa using hk)
  · have back : ∀ k l, σ' k = some l → ∃ k', σ k' = some l ∧ ((k = id ∧ k' = j) ∨ (k ≠ id ∧ k ≠ j ∧ k' = k)) := fun k l hk => by
      by_cases h1 : k = id
      · subst h1; rw [hid] at hk; exact ⟨j, hloc.trans hk, .inl ⟨rfl, rfl⟩⟩
      · by_cases h2 : k = j
        · subst h2; rw [hj h1] at hk; cases hk
        · rw [hne k h1 h2] at hk; exact ⟨k, hk, .inr ⟨h1, h2, rfl⟩⟩
    obtain ⟨i', hi', ei⟩ := back i _ hi
    obtain ⟨k', hk', ek⟩ := back k _ hk
    have := h.inj i' k' _ _ b hi' hk' hbi hbk
    rcases ei with ⟨rfl, rfl⟩ | ⟨e1, e2, rfl⟩ <;> rcases ek with ⟨rfl, rfl⟩ | ⟨e3, e4, rfl⟩
    · rfl
    · exact absurd this.symm e4
    · exact absurd this e2
    · exact this

theorem upO_ok (h : Sim C D outs st a w σ) {x y : V} {cy : Value} (hr : Rep C w σ none y cy) {fl t : Bool} {ys : List V} (he : upO x (xB st.objs y) = some (fl, t, ys)) :
    ∃ q cap ds, cy = .slice q ys.length cap ∧ RepL C w σ (some t) ys ds ∧ (fl = true → xS ys = true) ∧
      (ys = [] ∨ ∃ b off es, q = some ⟨b, off, none⟩ ∧ LiesE w b off es ds ∧ Wf es ds ∧ 0 < es) := by
  cases hel : xB st.objs y with
  | none => rw [hel] at he; cases he
  | some p =>
    obtain ⟨fl', t', ys'⟩ := p
    rw [hel] at he
    obtain ⟨q, cap, ds, h1, h2, h3, h4⟩ := elemsV_ok h hr hel
    unfold upO at he
    split at he
    · rename_i fl1 t1 ys1 heq
      cases heq
      split at he
      · cases he
        refine ⟨q, cap, ds, h1, ?_, h3, h4⟩
        cases hn : bareL ys with
        | false => exact h2
        | true => exact RepL.bare ys hn h2
      · cases he
        exact ⟨q, cap, ds, h1, h2, h3, h4⟩
    · cases he


theorem evAppend_ok (hT : TyOk P E) (h : Sim C D outs st a w σ) {t id d ty : Nat} {ei : TI} (hs : qE E t = some ei) {x y : V} {cx cy : Value} (hx : Rep C w σ none x cx) (hy : Rep C w σ none y cy)
    (he : evAppend id d ei x y st = some st') : ∃ cv w' σ', (Builtin.append_ #[t, t] ty #[cx, cy]).run P w = .ok cv w' ∧ Sim C D outs st' (a.put (some d) cv) w' σ' := by
  obtain ⟨e, hu, hte⟩ := sliceOf_ok hT hs
  obtain ⟨d', i, z, hd, ht, hi, hsz, hby, hz, hzv, hzs, hz1, _⟩ := hT e ei hte
  unfold evAppend at he
  split at he
  case h_2 => cases he
  rename_i fl ty' ys helems
  split at he
  case h_2 => cases he
  rename_i s t1 ns hfreeze
  obtain ⟨q, capq, dsy, rfl, hly, hfly, hliey⟩ := upO_ok h hy helems
  obtain ⟨σ1, h1, hns, hnsf, hsub⟩ := freeze_ok h hly hfly hfreeze
  have hheld1 : ∀ b, Held σ1 b → Held σ b := fun b hb => hb.sub hsub
  split at he
  · -- nothing is appended
    rename_i v hv
    cases he
    unfold qH at hv
    split at hv
    case h_2 => cases hv
    rename_i t vs
    cases hv
    obtain ⟨hf, p, rfl, hpl⟩ := hx
    have hd0 : dsy = [] := List.eq_nil_of_length_eq_zero (by have := hns.length; simpa using this)
    subst hd0
    have hy0 : ys = [] := List.eq_nil_of_length_eq_zero (by have := hly.length; simpa using this.symm)
    subst hy0
    have hfc : (Builtin.firstCells i.size 0 (.slice q 0 capq)).run P w = .ok ([] : List Value).toArray w := by
      clear hliey
      cases q <;> simp [Builtin.firstCells, loadCells, loadCellsFrom]
    have hrun := run_append_in (P := P) (ty := ty) (p := p) (q := q) (n := vs.length) (cap := vs.length) (m := 0) (cap' := capq) (w := w) (news := []) hu hi hfc (by simp) (w' := w) (fun b' _ => by simp [storeCells]) (fun _ => rfl)
    refine ⟨_, _, σ1, hrun, h1.put ?_⟩
    refine ⟨hf, p, vs.length, by simp, Nat.le_refl _, ?_⟩
    rcases hpl with h0 | ⟨b, off, es, ds, rfl, hb, hl, hw, hes, hlie⟩
    · exact .inl h0
    · exact .inr ⟨b, off, es, ds, rfl, ⟨fun hh => hb.1 (hheld1 b hh), hb.2⟩, RepL.free (fun t b hb => ⟨fun hh => hb.1 (hheld1 b hh), hb.2⟩) (fun _ _ _ _ => rfl) vs hf hl, hw, hes, hlie⟩
  rename_i hnofull
  split at he
  case h_2 => cases he
  rename_i io to old honto
  split at he
  case isFalse => cases he
  rename_i hcond
  obtain ⟨hroom, hmax, hsized, hes⟩ := hcond
  cases he
  simp only [roomy, decide_eq_true_eq] at hroom
  have hwfy : Wf ei.size dsy := sized_wf hsized hns
  have hleny : dsy.length = ys.length := hly.length
  have hlenn : ns.length = ys.length := by rw [← hns.length, hleny]
  have hfirst : ∀ w', (∀ b o, w'.cell? ⟨b, o, none⟩ = w.cell? ⟨b, o, none⟩) → (Builtin.firstCells i.size ys.length (.slice q ys.length capq)).run P w' = .ok (flat dsy).toArray w' := fun w' hw' => by
    rw [hsz]
    refine run_firstCells_lie hleny hwfy hes ?_
    rcases hliey with h0 | ⟨b, off, es, rfl, hlie, hwf, hes'⟩
    · rw [h0] at hleny
      exact .inl (List.eq_nil_of_length_eq_zero hleny)
    · rcases Nat.eq_zero_or_pos dsy.length with h0 | h0
      · exact .inl (List.eq_nil_of_length_eq_zero h0)
      · have : es = ei.size := by
          have hm : dsy[0]'h0 ∈ dsy := List.getElem_mem _
          exact (hwf _ hm).1.symm.trans (hwfy _ hm).1
        subst this
        exact .inr ⟨b, off, rfl, hlie.mono fun o => hw' b o⟩
  -- what is appended to
  obtain ⟨p, n, capp, dso, rfl, hn, hlo, hwo, hflo, hlieo, hplace, hncap⟩ : ∃ p n capp dso, cx = .slice p n capp ∧ old.length = n ∧ RepL C w σ1 (some to) old dso ∧ Wf ei.size dso ∧ xS old = true ∧
      (dso = [] ∨ ∃ b off, p = some ⟨b, off, none⟩ ∧ LiesE w b off ei.size dso) ∧
      ((n = 0 ∧ capp = 0) ∨ (n = capp ∧ ns ≠ []) ∨ ∃ b bcap j ob cur ety, io = some j ∧ look s.objs j = some ob ∧ ob.flat = true ∧ ob.es = ei.size ∧ ob.app = true ∧ σ1 j = some (.blk b 0 ei.size bcap true) ∧ p = some ⟨b, 0, none⟩ ∧ capp ≤ bcap ∧
        w.heap[b]? = some (.cells cur ety (0, 0)) ∧ cur.size = bcap * ei.size ∧ bcap ≤ maxLen ∧ (∀ j u, (flat dso)[j]? = some u → cur.toList[j]? = some u)) ∧ n ≤ capp := by
    cases x with
    | emp =>
      simp only [onto] at honto
      cases honto
      obtain ⟨p, rfl⟩ := hx
      exact ⟨p, 0, 0, [], rfl, rfl, rfl, fun d hd => by (cases hd), rfl, .inl rfl, .inl ⟨rfl, rfl⟩, Nat.le_refl _⟩
    | own j off len =>
      simp only [onto] at honto
      split at honto
      case h_2 => cases honto
      rename_i ob hob
      split at honto
      case isFalse => cases honto
      rename_i hc
      obtain ⟨happ0, hflat0, hoff, hlen, hobes⟩ := hc
      cases honto
      obtain ⟨loc, hloc1, hrep, hfl0⟩ := h1.objs j ob hob
      have hloc : σ j = some loc := by
        rcases hsub j with e' | e'
        · rw [e'] at hloc1; cases hloc1
        · rw [← e']; exact hloc1
      simp only [Rep, hloc] at hx
      cases loc with
      | virt app =>
        obtain ⟨_, hl0, p, cp, rfl, hcp⟩ := hx
        have hcp0 : cp = 0 := hcp (by rw [← hrep.2.1]; exact happ0)
        subst hcp0
        have hel : ob.elems = [] := hrep.1
        exact ⟨p, 0, 0, [], rfl, by rw [hel]; rfl, by rw [hel]; rfl, fun d hd => by (cases hd), by rw [hel]; rfl, .inl rfl, .inl ⟨rfl, rfl⟩, Nat.le_refl _⟩
      | mp b => exact hx.elim
      | blk b bo es bcap app =>
        obtain ⟨p, cp, rfl, hlc, ha⟩ := hx
        obtain ⟨g1, g2, g3, cur, ety, ds, hg, hl, hwf, hcur, happ⟩ := hrep
        have happ' : app = true := by rw [← g3]; exact happ0
        obtain ⟨hbo, hcs, hbm, hbl⟩ := happ happ'
        subst hbo
        have hese : es = ei.size := by rw [← g1]; exact hobes
        subst hese
        subst hoff
        refine ⟨p, len, cp, ds, rfl, hlen.symm, hl, hwf, hfl0 hflat0, ?_, ?_, hlc⟩
        · rcases ha with ⟨h0, _⟩ | ⟨ha, _⟩
          · refine .inl (List.eq_nil_of_length_eq_zero ?_)
            rw [hl.length, ← hlen, h0]
          · refine .inr ⟨b, 0 + 0 * ei.size, ha, fun i' d r u hd hu => ?_⟩
            rw [cell_of_row w b _ cur ety (0, 0) hg]
            have := hcur i' d r u hd hu
            simpa using this
        · rcases ha with ⟨h0, h0'⟩ | ⟨ha, ha'⟩
          · exact .inl ⟨h0, h0' happ'⟩
          · refine .inr (.inr ⟨b, bcap, j, ob, cur, ety, rfl, hob, hflat0, hobes, happ0, by rw [hloc1, happ'], by simpa using ha, by have := ha' happ'; omega, hg, hcs, hbm, fun k u hu => ?_⟩)
            obtain ⟨d, hd, hu'⟩ := flat_get' hes hwf hu
            have := hcur _ d _ u hd hu'
            rwa [show 0 + k / ei.size * ei.size + k % ei.size = k by rw [Nat.zero_add, Nat.mul_comm, Nat.div_add_mod]] at this
    | full t vs =>
      simp only [onto] at honto
      split at honto
      case isFalse => cases honto
      rename_i hsv
      cases honto
      obtain ⟨hf, p, rfl, hpl⟩ := hx
      have hne : ns ≠ [] := fun e => by subst e; simp [qH] at hnofull
      rcases hpl with h0 | ⟨b, off, es, ds, rfl, hb, hl, hw, hes', hlie⟩
      · subst h0
        exact ⟨p, 0, 0, [], rfl, rfl, rfl, fun d hd => by (cases hd), rfl, .inl rfl, .inl ⟨rfl, rfl⟩, Nat.le_refl _⟩
      · have hl1 : RepL C w σ1 (some to) old ds := RepL.free (fun t b hb => ⟨fun hh => hb.1 (hheld1 b hh), hb.2⟩) (fun _ _ _ _ => rfl) old hf hl
        have hwf : Wf ei.size ds := sized_wf hsv hl1
        refine ⟨_, old.length, old.length, ds, rfl, rfl, hl1, hwf, hf, ?_, .inr (.inl ⟨rfl, hne⟩), Nat.le_refl _⟩
        rcases Nat.eq_zero_or_pos ds.length with h0 | h0
        · exact .inl (List.eq_nil_of_length_eq_zero h0)
        · have : es = ei.size := by
            have hm : ds[0]'h0 ∈ ds := List.getElem_mem _
            exact (hw _ hm).1.symm.trans (hwf _ hm).1
          subst this
          exact .inr ⟨b, off, rfl, hlie⟩
    | _ => simp [onto] at honto
  have hokw : ∀ t b, okB C w σ1 t b → okB C w σ1 t b := fun _ _ hb => hb
  -- what the object will hold
  have hnew : RepL C w σ1 (some (to && t1)) (old ++ ns) (dso ++ dsy) := by
    refine RepL.app (RepL.into (m := some to) _ _ (fun e => by simp at e; simp [e.1]) (fun _ e => by cases e) hlo) (RepL.into (m := some t1) _ _ (fun e => by simp at e; simp [e.2]) (fun _ e => by cases e) hns)
  have hnewf : xS (old ++ ns) = true := by rw [refFreeL_app, hflo, hnsf]; rfl
  have hwn : Wf ei.size (dso ++ dsy) := hwo.app hwfy
  -- the state without what was appended to
  obtain ⟨σ2, h2, hsub2⟩ : ∃ σ2, Sim C D outs (dropO s io) a w σ2 ∧ (∀ b, Held σ2 b → Held σ1 b) := by
    cases io with
    | none => exact ⟨σ1, h1, fun _ hb => hb⟩
    | some j => exact ⟨_, h1.drop j, fun b hb => hb.sub fun k => by by_cases e : k = j <;> simp [e]⟩
  by_cases hroomy : n + ys.length ≤ capp
  · -- in place
    rcases hplace with ⟨hn0, hc0⟩ | ⟨hnc0, hne⟩ | ⟨b, bcap, j, ob, cur, ety, hio, hob, hobf, hobes, hoba, hσj, hp, hcb, hg, hcs, hbm, hcur⟩
    · -- nothing to nothing
      have hy0 : ys.length = 0 := by omega
      have hyn : ns = [] := List.eq_nil_of_length_eq_zero (by omega)
      have hd0 : dsy = [] := List.eq_nil_of_length_eq_zero (by omega)
      have hold0 : old = [] := List.eq_nil_of_length_eq_zero (by omega)
      have hrun := run_append_in (P := P) (ty := ty) (p := p) (n := n) (cap := capp) hu hi (hfirst w fun _ _ => rfl) hroomy (w' := w) (fun b' _ => by subst hd0; simp [flat, storeCells]) (fun _ => rfl)
      refine ⟨_, _, setP σ2 id (.virt true), hrun, (h2.alloc id (.virt true) (Below.refl _ _) (fun _ e => by cases e) _ ⟨?_, rfl, hes⟩ ?_).put ?_⟩
      · simp [hold0, hyn]
      · intro _; simp [hold0, hyn, xS]
      · simp only [Rep, setP_same]
        exact ⟨trivial, by omega, p, 0, by rw [hn0, hy0, hc0], fun _ => rfl⟩
    · exact absurd (List.eq_nil_of_length_eq_zero (show ns.length = 0 by omega)) hne
    · subst hp
      subst hio
      have hfl : (flat dsy).length = ys.length * ei.size := by rw [flat_length hwfy, hleny]
      have hflo : (flat dso).length = n * ei.size := by rw [flat_length hwo, hlo.length, hn]
      have hfit : n * ei.size + (flat dsy).length ≤ cur.toList.length := by
        rw [hfl, ← Nat.add_mul]; simp only [Array.length_toList, hcs]; exact Nat.mul_le_mul_right _ (by omega)
      have hst := run_storeCells_at P b (n * ei.size) ety (flat dsy) 0 cur w hg (by simpa using hfit) (flat_one hwfy)
      simp only [Nat.add_zero] at hst
      obtain ⟨cur', hcur'⟩ : ∃ cur' : Array Value, cur' = (cur.toList.take (n * ei.size) ++ flat dsy ++ cur.toList.drop (n * ei.size + (flat dsy).length)).toArray := ⟨_, rfl⟩
      rw [← hcur'] at hst
      have hrun := run_append_in (P := P) (ty := ty) (p := some ⟨b, 0, none⟩) (n := n) (cap := capp) hu hi (hfirst w fun _ _ => rfl) hroomy (w' := w.setRow b cur')
        (fun b' hb' => by cases hb'; rw [Addr.add_lit, hsz, Nat.zero_add]; exact hst) (fun hb' => by cases hb')
      have hget : ∀ k, cur'.toList[k]? = if k < n * ei.size then cur.toList[k]? else if k < n * ei.size + (flat dsy).length then (flat dsy)[k - n * ei.size]? else cur.toList[k]? := fun k => by
        have := splice_get cur.toList (n * ei.size) (flat dsy) hfit k
        rw [hcur', List.toList_toArray]; exact this
      have hcsz : cur'.size = cur.size := by
        have : cur'.toList.length = cur.toList.length := by rw [hcur', List.toList_toArray]; simp at hfit ⊢; omega
        simpa using this
      have hheldb : Held σ1 b := .of hσj
      have hoth : ∀ k, k ≠ b → ∀ o, (w.setRow b cur').cell? ⟨k, o, none⟩ = w.cell? ⟨k, o, none⟩ := fun k hk o => cell_of_heap (setRow_other w b k _ hk) o
      have hok : ∀ t k, okB C w σ1 t k → okB C (w.setRow b cur') σ1 t k := fun t k hk => ⟨hk.1, by rw [size_setRow]; exact hk.2.1, hk.2.2.1, fun e => by rw [setRow_other w b k _ (fun e => hk.1 (e ▸ hheldb))]; exact hk.2.2.2 e⟩
      have hc : ∀ (t : Bool) (k o : Nat), okB C w σ1 t k → (w.setRow b cur').cell? ⟨k, o, none⟩ = w.cell? ⟨k, o, none⟩ := fun t k o hk => hoth k (fun e => hk.1 (e ▸ hheldb)) o
      have hcap : n + ys.length ≤ bcap := by omega
      -- the object written in its place, then under its new name
      have hw1 := h1.write (ob' := { es := ei.size, flat := true, t := to && t1, app := true, elems := old ++ ns }) (cur' := cur') hob hσj hg
        ⟨rfl, hes, rfl, cur', ety, dso ++ dsy, setRow_heap w b cur cur' ety (0, 0) hg, RepL.mono hok hc (fun _ => rfl) _ hnew, hwn,
          flat_holds hwn (fun k u hku => by
            rw [Nat.zero_add, hget]
            rw [flat_app] at hku
            by_cases hk : k < n * ei.size
            · rw [if_pos hk]
              rw [List.getElem?_append_left (by omega)] at hku
              exact hcur k u hku
            · rw [if_neg hk]
              rw [List.getElem?_append_right (by omega), hflo] at hku
              have := (List.getElem?_eq_some_iff.1 hku).1
              rw [if_pos (by omega)]
              exact hku),
          fun _ => ⟨rfl, by rw [hcsz, hcs], hbm, by simp; omega⟩⟩ (fun _ => hnewf)
      have hw2 := Sim.rename hw1 (id := id) (ob := { es := ei.size, flat := true, t := to && t1, app := true, elems := old ++ ns }) (loc := .blk b 0 ei.size bcap true) (j := j) (by rw [look_upd, if_pos rfl]) hσj rfl
      refine ⟨_, _, setP (fun k => if k = j then none else σ1 k) id (.blk b 0 ei.size bcap true), hrun, ?_⟩
      have hst' : St.alloc (St.drop { s with objs := upd s.objs j { es := ei.size, flat := true, t := to && t1, app := true, elems := old ++ ns } } j) id { es := ei.size, flat := true, t := to && t1, app := true, elems := old ++ ns } =
          St.alloc (dropO s (some j)) id { es := ei.size, flat := true, t := to && t1, app := true, elems := old ++ ns } := by
        have : ∀ (l : List (Nat × Ob)) (o : Ob), look l j ≠ none → xW j (upd l j o) = xW j l := by
          intro l o
          induction l with
          | nil => intro h; simp [look] at h
          | cons x l ih =>
            obtain ⟨k, y⟩ := x
            intro h
            by_cases hk : k = j
            · subst hk; simp [upd, xW]
            · simp only [look, hk, if_false] at h
              by_cases hlt : j < k
              · simp [upd, xW, Ne.symm hk, hlt, hk]
              · simp [upd, xW, hk, Ne.symm hk, hlt, ih h]
        simp only [dropO, St.alloc, St.drop]
        rw [this _ _ (by rw [hob]; simp)]
      rw [hst'] at hw2
      refine hw2.put ?_
      simp only [Rep, setP_same]
      exact ⟨_, capp, by rw [hn, hlenn], by omega, .inr ⟨by simp, fun _ => by omega⟩⟩
  · -- in a new block
    have hfirsto : (Builtin.firstCells i.size n (.slice p n capp)).run P w.drew = .ok (flat dso).toArray w.drew := by
      rw [hsz]
      refine run_firstCells_lie (by rw [hlo.length, hn]) hwo hes ?_
      rcases hlieo with h0 | ⟨b, off, rfl, hlie⟩
      · exact .inl h0
      · exact .inr ⟨b, off, rfl, hlie.mono fun _ => rfl⟩
    have hrun := run_append_out (P := P) (ty := ty) hu hi hz hfirsto (hfirst w.drew fun _ _ => rfl) (by omega) (by omega) (growslice_fits (by omega) (by rw [hby, ← hn, ← hlenn]; exact hroom))
    obtain ⟨nc, hnc⟩ : ∃ nc, nc = grownCap w (n + ys.length) capp e := ⟨_, rfl⟩
    rw [← hnc] at hrun
    have hge : n + ys.length ≤ nc := by rw [hnc]; exact grownCap_ge w _ _ _
    have hle : nc ≤ maxLen := by rw [hnc]; exact grownCap_le_maxLen w _ _ _ (by unfold maxLen; omega)
    have hbel : Below w.heap.size w (w.drew.alloc (.cells ((flat dso).toArray ++ (flat dsy).toArray ++ Builtin.zeroCells z.cells (nc - (n + ys.length))) e)) :=
      ((Below.refl _ _).drew).alloc (Nat.le_refl _) _
    refine ⟨_, _, setP σ2 id (.blk w.heap.size 0 ei.size nc true), hrun, (h2.alloc id (.blk w.heap.size 0 ei.size nc true) hbel (fun b e => ?_) _ ?_ (fun _ => hnewf)).put ?_⟩
    · cases e; simp
    · refine ⟨rfl, hes, rfl, _, e, dso ++ dsy, heap_alloc_new w.drew _, ?_, hwn, ?_, fun _ => ⟨rfl, ?_, hle, by simp; omega⟩⟩
      · refine RepL.free (fun t b hb => ?_) (fun t b o hb => hbel.cell (p := ⟨b, o, none⟩) hb.2.1) _ hnewf hnew
        refine ⟨fun hh => ?_, Nat.lt_of_lt_of_le hb.2.1 hbel.size, hb.2.2.1, fun e => by rw [hbel.block b hb.2.1]; exact hb.2.2.2 e⟩
        rcases hh.setP with hh | e
        · exact hb.1 (hsub2 b hh)
        · cases e; exact absurd hb.2.1 (Nat.lt_irrefl _)
      · refine flat_holds hwn (fun k u hku => ?_)
        rw [Nat.zero_add, Array.toList_append, Array.toList_append, List.toList_toArray, List.toList_toArray, ← flat_app]
        rw [List.getElem?_append_left (List.getElem?_eq_some_iff.1 hku).1]
        exact hku
      · simp only [Array.size_append, List.size_toArray, size_zeroCells, flat_length hwo, flat_length hwfy, hlo.length, hn, hleny, hzs]
        rw [← Nat.add_mul, ← Nat.add_mul]
        congr 1
        omega
    · simp only [Rep, setP_same]
      exact ⟨_, nc, by rw [hn, hlenn], by omega, .inr ⟨by simp, fun _ => by omega⟩⟩

end
end Go.AM
end

section
/-
The operations, fifth part: literals, addresses, parts, numbers.
-/
namespace Go.AM
open Go Go.RowKit

section
variable {P : Program} {E : Env} {C : Cx} {D : List Deferred} {outs : List (List Value)} {st st' : St} {a : Act} {w : World} {σ : Places}

theorem evStore_outer {ti : TI} {p x : V} (o : List (List V)) (s : St) : zO ti p x { s with outer := o } = (zO ti p x s).map fun q => { q with outer := o } := by
  unfold zO
  cases p <;> try rfl
  rename_i id i c
  dsimp only
  cases look s.objs id with
  | none => rfl
  | some ob =>
    cases cells? x with
    | none => rfl
    | some ds =>
      dsimp only
      cases ob.elems[i]? with
      | none => rfl
      | some e =>
        dsimp only
        cases zZ ob.es e with
        | none => rfl
        | some cs =>
          dsimp only
          split <;> rfl

theorem evStore_keeps {ti : TI} {p x : V} {s q : St} (h : zO ti p x s = some q) : q.outer = s.outer := by
  have := evStore_outer (ti := ti) (p := p) (x := x) s.outer s
  rw [show ({ s with outer := s.outer } : St) = s from rfl, h] at this
  simp only [Option.map_some, Option.some.injEq] at this
  have h2 := congrArg St.outer this
  exact h2

theorem copyN_ok (hT : TyOk P E) {t : TypeId} {ti : TI} (hti : E.ty t = some ti) {i : TypeInfo} (hi : P.info? t = some i) (hsz : i.size = ti.size) (h1 : 0 < ti.size) {id b bo cap : Nat} {app : Bool} (hσ : σ id = some (.blk b bo ti.size cap app)) :
    ∀ (xs : List V) (ds : List Value) (k : Nat) (outs : List (List Value)) (st st' : St) (w : World), Sim C D outs st a w σ → RepL C w σ none xs ds → Wf ti.size ds → copyN ti id xs k st = some st' →
      ∃ w', (storeCells ⟨b, bo + k * ti.size, none⟩ (flat ds) 0).run P w = .ok () w' ∧ Sim C D outs st' a w' σ
  | [], ds, k, outs, st, st', w, h, hr, _, he => by
    simp only [RepL] at hr
    subst hr
    cases he
    exact ⟨w, by simp [flat, storeCells], h⟩
  | x :: xs, ds, k, outs, st, st', w, h, hr, hw, he => by
    simp only [RepL] at hr
    obtain ⟨d, r, rfl, hd, hr⟩ := hr
    simp only [copyN] at he
    split at he
    case h_2 => cases he
    rename_i s hs
    -- the rest among the outer values
    have h0 : Sim C D (r :: outs) { st with outer := xs :: st.outer } a w σ := ⟨h.slots, ⟨r, outs, rfl, hr, h.outer⟩, h.objs, h.dom, h.inj, h.held, h.below, h.base, h.old, h.still⟩
    have hs0 : zO ti (.ptr id k 0) x { st with outer := xs :: st.outer } = some { s with outer := xs :: st.outer } := by rw [evStore_outer, hs]; rfl
    obtain ⟨w1, hrun, hsim⟩ := evStore_ok (P := P) hT h0 hti (p := .ptr id k 0) (cp := .pointer (some ⟨b, bo + k * ti.size + 0, none⟩)) (by simp only [Rep, hσ]) hd hs0
    obtain ⟨d1, q1, hdq, hr1, ho1⟩ := hsim.outer
    simp only [List.cons.injEq] at hdq
    obtain ⟨rfl, rfl⟩ := hdq
    have hk := evStore_keeps hs
    have hsim1 : Sim C D outs s a w1 σ := ⟨hsim.slots, by rw [hk]; exact ho1, hsim.objs, hsim.dom, hsim.inj, hsim.held, hsim.below, hsim.base, hsim.old, hsim.still⟩
    obtain ⟨w2, hr2, hsim2⟩ := copyN_ok hT hti hi hsz h1 hσ xs _ (k + 1) outs s st' w1 hsim1 hr1 (fun v hv => hw v (List.mem_cons_of_mem _ hv)) he
    refine ⟨w2, ?_, hsim2⟩
    have hds : d.cells.size = ti.size := (hw d List.mem_cons_self).1
    rw [flat_cons]
    simp only [Instr.storeAt, Instr.sureAddr, Sem.run_bind, Sem.run_pure, Result.andThen_ok] at hrun
    unfold storeVar at hrun
    simp only [Sem.run_bind, run_sizeOf hi, Result.andThen_ok, hsz] at hrun
    rw [if_neg (by simp; omega)] at hrun
    refine storeCells_two _ _ _ 0 w w1 _ hrun ?_
    rw [Nat.zero_add, show d.cells.toList.length = ti.size + 0 by simp [hds], storeCells_shift]
    rw [show bo + k * ti.size + ti.size = bo + (k + 1) * ti.size by rw [Nat.succ_mul]; omega]
    exact hr2

theorem evCopy_ok (hT : TyOk P E) (h : Sim C D outs st a w σ) {t ty : TypeId} {ei : TI} (hs : qE E t = some ei) {x y : V} {cx cy : Value} (hx : Rep C w σ none x cx) (hy : Rep C w σ none y cy) {n : Nat} (he : evCopy ei x y st = some (n, st')) :
    ∃ w', (Builtin.copy_ #[t, t] ty #[cx, cy]).run P w = .ok (.int .i64 n) w' ∧ Sim C D outs st' a w' σ := by
  obtain ⟨e, hu, hte⟩ := sliceOf_ok hT hs
  obtain ⟨d', i, z, hd, ht, hi, hsz, hby, hz, hzv, hzs, hz1, _⟩ := hT e ei hte
  unfold evCopy at he
  split at he
  case h_2 => cases he
  rename_i id off len t' ys hel
  obtain ⟨q, cap, ds, rfl, hl, hff, hlie⟩ := elemsV_ok h hy hel
  split at he
  case isFalse => cases he
  rename_i hc
  obtain ⟨hlen, hes, hsized⟩ := hc
  have hwf : Wf ei.size ds := sized_wf hsized hl
  have hfree := hff rfl
  have hdl : ds.length = len := by rw [hl.length]; exact hlen
  have hfc : (Builtin.firstCells i.size len (.slice q ys.length cap)).run P w = .ok (flat ds).toArray w := by
    rw [hsz, hlen]
    refine run_firstCells_lie hdl hwf hes ?_
    rcases hlie with h0 | ⟨b, o, es, h2, h3, h4, h5⟩
    · left; rw [h0] at hl; simpa [RepL] using hl
    · rcases Nat.eq_zero_or_pos ds.length with hz | hz
      · left; exact List.eq_nil_of_length_eq_zero hz
      · right
        have hm : ds[0]'hz ∈ ds := List.getElem_mem _
        have : es = ei.size := (h4 _ hm).1.symm.trans (hwf _ hm).1
        subst this
        exact ⟨b, o, h2, h3⟩
  have hmin : Nat.min ys.length len = len := by rw [hlen]; exact Nat.min_self _
  split at he
  · rename_i h0
    cases he
    subst h0
    have hd0 : ds = [] := List.eq_nil_of_length_eq_zero hdl
    subst hd0
    refine ⟨w, ?_, h⟩
    have : ∃ ad cp, cx = .slice ad 0 cp := by
      simp only [Rep] at hx
      split at hx
      · exact hx.elim
      · obtain ⟨_, _, ad, cp, rfl, _⟩ := hx; exact ⟨ad, cp, rfl⟩
      · obtain ⟨ad, cp, rfl, _⟩ := hx; exact ⟨ad, cp, rfl⟩
      · exact hx.elim
    obtain ⟨ad, cp, rfl⟩ := this
    unfold Builtin.copy_
    rw [hlen] at hfc ⊢
    cases ad <;> simp [Sem.run_bind, run_underlying hu, Builtin.lenOf, run_sizeOf hi, hfc, storeCells, flat, goInt]
  · rename_i h0
    split at he
    case h_2 => cases he
    rename_i ob hob
    split at he
    case isFalse => cases he
    rename_i hes2
    obtain ⟨s, hcp, heq⟩ := Option.map_eq_some_iff.1 he
    simp only [Prod.mk.injEq] at heq
    obtain ⟨rfl, rfl⟩ := heq
    obtain ⟨loc, hloc, hrep, hfl⟩ := h.objs id ob hob
    simp only [Rep, hloc] at hx
    cases loc with
    | virt app => simp only at hx; omega
    | mp b => exact hx.elim
    | blk b bo es cap' app =>
      obtain ⟨q1, q2, q3⟩ := hrep
      have hes3 : es = ei.size := by rw [← hes2]; exact q1.symm
      subst hes3
      obtain ⟨ad, cp, rfl, hle, hor⟩ := hx
      rcases hor with ⟨h0', _⟩ | ⟨rfl, _⟩
      · omega
      · obtain ⟨w', hr, hsim⟩ := copyN_ok (P := P) hT hte hi hsz hes hloc (xU t' ys) ds off outs st s w h (RepL.outOf t' ys hl) hwf hcp
        refine ⟨w', ?_, hsim⟩
        unfold Builtin.copy_
        rw [hlen] at hfc ⊢
        simp [Sem.run_bind, run_underlying hu, Builtin.lenOf, run_sizeOf hi, hfc, hr, goInt]

theorem evPre_ok (hT : TyOk P E) (h : Sim C D outs st a w σ) {t ty : TypeId} {d : Nat} {ei : TI} (hs : qE E t = some ei) {id off len room : Nat} {y : V} {cx cy : Value} (hx : Rep C w σ none (.pre id off len room) cx) (hy : Rep C w σ none y cy)
    (he : evPre d ei id off len room y st = some st') :
    ∃ cv w', (Builtin.append_ #[t, t] ty #[cx, cy]).run P w = .ok cv w' ∧ Sim C D outs st' (a.put (some d) cv) w' σ := by
  obtain ⟨e, hu, hte⟩ := sliceOf_ok hT hs
  obtain ⟨d', i, z, hd, ht, hi, hsz, hby, hz, hzv, hzs, hz1, _⟩ := hT e ei hte
  unfold evPre at he
  split at he
  case h_2 => cases he
  rename_i t' ys hel
  obtain ⟨q, cap, ds, rfl, hl, hff, hlie⟩ := elemsV_ok h hy hel
  split at he
  case isFalse => cases he
  rename_i hc
  obtain ⟨hlen, hes, hsized⟩ := hc
  have hwf : Wf ei.size ds := sized_wf hsized hl
  have hdl : ds.length = ys.length := hl.length
  have hfc : (Builtin.firstCells i.size ys.length (.slice q ys.length cap)).run P w = .ok (flat ds).toArray w := by
    rw [hsz]
    refine run_firstCells_lie hdl hwf hes ?_
    rcases hlie with h0 | ⟨b, o, es, h2, h3, h4, h5⟩
    · left; rw [h0] at hl; simpa [RepL] using hl
    · rcases Nat.eq_zero_or_pos ds.length with hz | hz
      · left; exact List.eq_nil_of_length_eq_zero hz
      · right
        have hm : ds[0]'hz ∈ ds := List.getElem_mem _
        have : es = ei.size := (h4 _ hm).1.symm.trans (hwf _ hm).1
        subst this
        exact ⟨b, o, h2, h3⟩
  split at he
  case h_2 => cases he
  rename_i ob hob
  split at he
  case isFalse => cases he
  rename_i hes2
  obtain ⟨s, hcp, rfl⟩ := Option.map_eq_some_iff.1 he
  obtain ⟨loc, hloc, hrep, hfl⟩ := h.objs id ob hob
  simp only [Rep, hloc] at hx
  cases loc with
  | virt app => exact hx.elim
  | mp b => exact hx.elim
  | blk b bo es cap' app =>
    have hes3 : es = ei.size := by rw [← hes2]; exact hrep.1.symm
    subst hes3
    obtain ⟨cp, rfl, hlr, hrc, happ⟩ := hx
    obtain ⟨w', hr, hsim⟩ := copyN_ok (P := P) hT hte hi hsz hes hloc (xU t' ys) ds (off + len) outs st s w h (RepL.outOf t' ys hl) hwf hcp
    have hrun := run_append_in (P := P) (ty := ty) (p := some ⟨b, bo + off * ei.size, none⟩) (n := len) (cap := cp) hu hi hfc (by omega) (w' := w')
      (fun b' hb' => by
        cases hb'
        rw [Addr.add_lit, hsz, Nat.add_assoc, ← Nat.add_mul]
        exact hr) (fun hb' => by cases hb')
    refine ⟨_, w', hrun, hsim.put ?_⟩
    simp only [Rep, hloc]
    exact ⟨cp, rfl, hlen, hrc, happ⟩

theorem fold_set (off : Nat) : ∀ (us : List Value) (k : Nat) (cells : Array Value), off + k + us.length ≤ cells.size →
    ((us.zipIdx k).foldl (fun cs (x : Value × Nat) => cs.setIfInBounds (off + x.2) x.1) cells).toList = cells.toList.take (off + k) ++ us ++ cells.toList.drop (off + k + us.length)
  | [], k, cells, _ => by simp
  | u :: us, k, cells, h => by
    have ih := fold_set off us (k + 1) (cells.setIfInBounds (off + k) u) (by simp at h ⊢; omega)
    simp only [List.zipIdx_cons, List.foldl_cons]
    rw [ih, Array.toList_setIfInBounds]
    have := list_seg_step cells.toList (off + k) u us (by simp at h ⊢; omega)
    simpa [Nat.add_assoc] using this

theorem fill_one (off : Nat) (us cells : Array Value) (h : off + us.size ≤ cells.size) :
    (us.zipIdx.foldl (fun cs (x : Value × Nat) => cs.setIfInBounds (off + x.2) x.1) cells).toList = cells.toList.take off ++ us.toList ++ cells.toList.drop (off + us.size) := by
  have := fold_set off us.toList 0 cells (by simpa using h)
  rw [← Array.foldl_toList, Array.toList_zipIdx]
  simpa using this

theorem fill_range (n : Nat) : ∀ (l : List (Nat × Value)) (k : Nat) (cells : Array Value), l.map (·.1) = List.range' k l.length → (∀ p ∈ l, p.2.cells.size = n) → (k + l.length) * n ≤ cells.size →
    ∃ cells', Instr.fill (fun i => some (i * n, n)) cells l = some cells' ∧ cells'.toList = cells.toList.take (k * n) ++ flat (l.map (·.2)) ++ cells.toList.drop ((k + l.length) * n)
  | [], k, cells, _, _, _ => ⟨cells, rfl, by simp [flat]⟩
  | (i, v) :: l, k, cells, hk, hs, hl => by
    have hik : i = k := by simp [List.range'_succ] at hk; exact hk.1
    subst hik
    have hv : v.cells.size = n := hs (i, v) (by simp)
    have hle : i * n + n ≤ cells.size := by
      have : (i + 1) * n ≤ (i + (l.length + 1)) * n := Nat.mul_le_mul_right _ (by omega)
      simp only [List.length_cons] at hl
      rw [Nat.add_mul, Nat.one_mul] at this
      omega
    have h1 := fill_one (i * n) v.cells cells (by omega)
    have hsz : (v.cells.zipIdx.foldl (fun cs (x : Value × Nat) => cs.setIfInBounds (i * n + x.2) x.1) cells).size = cells.size := by
      rw [← Array.length_toList, h1]; simp; omega
    obtain ⟨cells', hf, ht⟩ := fill_range n l (i + 1) (v.cells.zipIdx.foldl (fun cs (x : Value × Nat) => cs.setIfInBounds (i * n + x.2) x.1) cells) (by simp [List.range'_succ] at hk; exact hk)
      (fun p hp => hs p (by simp [hp])) (by rw [hsz]; simp only [List.length_cons] at hl; rw [show i + 1 + l.length = i + (l.length + 1) by omega]; exact hl)
    refine ⟨cells', ?_, ?_⟩
    · simp only [Instr.fill]
      rw [if_neg (by simp [hv]; omega)]
      exact hf
    · have hlt : (cells.toList.take (i * n)).length = i * n := by simp; omega
      have hlt2 : (cells.toList.take (i * n) ++ v.cells.toList).length = (i + 1) * n := by rw [List.length_append, hlt, Nat.add_mul]; simp [hv]
      rw [ht, h1, List.take_append_of_le_length (by rw [hlt2]; exact Nat.le_refl _), List.take_of_length_le (by rw [hlt2]; exact Nat.le_refl _)]
      simp only [List.map_cons, flat_cons, List.length_cons, List.append_assoc]
      congr 2
      have hq : (i + 1) * n ≤ (i + 1 + l.length) * n := Nat.mul_le_mul_right _ (by omega)
      rw [← List.append_assoc, List.drop_append, hlt2, List.drop_eq_nil_of_le (by rw [hlt2]; exact hq), List.nil_append, List.drop_drop, hv]
      congr 2
      rw [show i + (l.length + 1) = i + 1 + l.length by omega]
      have : (i + 1) * n = i * n + n := by rw [Nat.add_mul, Nat.one_mul]
      omega

theorem run_buildSlice {t e n : Nat} {i : TypeInfo} {z : Value} (hu : P.underlying t = some (.slice e)) (hi : P.info? e = some i) (hz : i.zero = some z) (h24 : n * i.size ≤ 16777216)
    {parts : Array (Nat × Value)} {cells : Array Value} (hf : ∀ cs : Array Value, cs.size = n * i.size → Instr.fill (fun k => some (k * i.size, i.size)) cs parts.toList = some cells) :
    (Instr.buildSlice t n parts).run P w = .ok (.slice (some ⟨w.heap.size, 0, none⟩) n n) (w.alloc (.cells cells e)) := by
  have h1 : ¬ (2 ^ 24 < n * i.size) := by omega
  unfold Instr.buildSlice
  simp only [Sem.run_bind, run_underlying hu, Result.andThen_ok, run_sizeOf hi]
  by_cases h0 : n * i.size = 0
  · have := hf ((Array.range (n * i.size)).map ((#[] : Array Value)[· % (#[] : Array Value).size]!)) (by simp)
    simp [h0] at this ⊢
    simp [this, newRow]
  · have := hf ((Array.range (n * i.size)).map (z.cells[· % z.cells.size]!)) (by simp)
    have h1' : ¬ (16777216 < n * i.size) := by omega
    simp [h1', h0, zeroValue, typeInfo, hi, hz, this, newRow]

theorem evLit_ok (hT : TyOk P E) (h : Sim C D outs st a w σ) {t id d n : Nat} {ei : TI} (hs : qE E t = some ei) {parts : Array (Nat × Operand)}
    (he : qQ id d ei n (parts.toList.map (·.1)) (parts.toList.map fun p => st.eval p.2) st = some st') :
    ∃ cv w' σ', (Instr.buildSlice t n (parts.map fun (i, x) => (i, a.eval x))).run P w = .ok cv w' ∧ Sim C D outs st' (a.put (some d) cv) w' σ' := by
  obtain ⟨e, hu, hte⟩ := sliceOf_ok hT hs
  obtain ⟨d', i, z, hd, ht, hi, hsz, hby, hz, hzv, hzs, hz1, _⟩ := hT e ei hte
  have hpl : (parts.map fun (p : Nat × Operand) => (p.1, a.eval p.2)).toList = parts.toList.map fun p => (p.1, a.eval p.2) := by simp
  have hreps : ∀ (l : List (Nat × Operand)), RepL C w σ none (l.map fun p => st.eval p.2) (l.map fun p => a.eval p.2) := fun l => by
    induction l with
    | nil => rfl
    | cons p l ih => exact ⟨_, _, rfl, h.eval p.2, ih⟩
  unfold qQ at he
  split at he
  · rename_i hn
    subst hn
    split at he
    case isFalse => cases he
    rename_i hc
    cases he
    have hp0 : parts = #[] := by
      have : parts.toList = [] := List.map_eq_nil_iff.1 hc.1
      exact Array.toList_inj.1 (by simpa using this)
    subst hp0
    have hr := run_buildSlice (P := P) (w := w) (n := 0) (parts := #[]) (cells := #[]) hu hi hz (by omega) (fun cs hcs => by
      have : cs = #[] := Array.eq_empty_of_size_eq_zero (by simpa using hcs)
      simp [Instr.fill, this])
    exact ⟨_, _, σ, by simpa using hr, (h.world (below_alloc w _)).put ⟨_, rfl⟩⟩
  · rename_i hn
    split at he
    case isFalse => cases he
    rename_i hc
    obtain ⟨hix, hlen, h24, hes, hn24⟩ := hc
    split at he
    case h_2 => cases he
    rename_i s t' vs hfr
    split at he
    case isFalse => cases he
    rename_i hsized
    cases he
    have hlen' : parts.toList.length = n := by simpa using hlen
    have hr0 := hreps parts.toList
    obtain ⟨σ1, h1, hvs, hvf, hsub⟩ := freeze_ok h (RepL.into (xT _) _ (by simp) (by simp) hr0) (fun e => e) hfr
    have hwf := sized_wf hsized hvs
    obtain ⟨cells', hcells⟩ : ∃ cells' : Array Value, cells' = (flat (parts.toList.map fun p => a.eval p.2)).toArray := ⟨_, rfl⟩
    have hflen : (flat (parts.toList.map fun p => a.eval p.2)).length = n * ei.size := by rw [flat_length hwf]; simp [hlen']
    have hfill : ∀ cs : Array Value, cs.size = n * i.size → Instr.fill (fun k => some (k * i.size, i.size)) cs (parts.map fun (p : Nat × Operand) => (p.1, a.eval p.2)).toList = some cells' := fun cs hcs => by
      rw [hpl]
      obtain ⟨c', hf, ht'⟩ := fill_range i.size (parts.toList.map fun p => (p.1, a.eval p.2)) 0 cs
        (by rw [List.map_map]; simp only [Function.comp_def, List.length_map, hlen']; rw [hix, List.range_eq_range'])
        (fun p hp => by
          obtain ⟨q, hq, rfl⟩ := List.mem_map.1 hp
          rw [hsz]
          exact (hwf _ (List.mem_map.2 ⟨q, hq, rfl⟩)).1)
        (by simp only [List.length_map, hlen']; rw [hcs]; simp)
      rw [hf]
      congr 1
      apply Array.toList_inj.1
      rw [ht', hcells]
      simp only [Nat.zero_mul, List.take_zero, List.nil_append, List.map_map, Function.comp_def, List.length_map, hlen', Nat.zero_add]
      rw [List.drop_eq_nil_of_le (by simp [hcs]), List.append_nil]
    have hr := run_buildSlice (P := P) (w := w) hu hi hz (by rw [hsz]; exact h24) hfill
    refine ⟨_, _, setP σ1 id (.blk w.heap.size 0 ei.size n true), hr, (h1.alloc id (.blk w.heap.size 0 ei.size n true) (below_alloc w _) (fun b e => ?_) _ ?_ (fun _ => hvf)).put ?_⟩
    · cases e; simp
    · refine ⟨rfl, hes, rfl, cells', e, _, heap_alloc_new w _, RepL.free (okB_alloc id _) (fun t b o hb => (below_alloc w _).cell (p := ⟨b, o, none⟩) hb.2.1) _ hvf hvs, hwf, ?_, fun _ => ⟨rfl, ?_, by unfold maxLen; omega, ?_⟩⟩
      · refine flat_holds hwf (fun k u hku => ?_)
        rw [Nat.zero_add, hcells, List.toList_toArray]; exact hku
      · rw [hcells, List.size_toArray, hflen]
      · have : vs.length = n := by rw [← hvs.length]; simp [hlen']
        simp [this]
    · simp only [Rep, setP_same]
      exact ⟨_, n, rfl, Nat.le_refl _, .inr ⟨by simp, fun _ => by omega⟩⟩

end
end Go.AM
end

section
/-
The operations, sixth part: structs, addresses, parts, numbers.
-/
namespace Go.AM
open Go Go.RowKit

section
variable {P : Program} {E : Env} {C : Cx} {D : List Deferred} {outs : List (List Value)} {st st' : St} {a : Act} {w : World} {σ : Places}

theorem run_mapM {α β : Type} (f : α → Sem β) (g : α → β) : ∀ (l : List α), (∀ x ∈ l, (f x).run P w = .ok (g x) w) → (l.mapM f).run P w = .ok (l.map g) w
  | [], _ => by simp
  | x :: l, h => by
    have ih := run_mapM f g l (fun y hy => h y (by simp [hy]))
    simp [List.mapM_cons, h x (by simp), ih]

theorem run_amapM {α β : Type} (f : α → Sem β) (g : α → β) (l : Array α) (h : ∀ x ∈ l.toList, (f x).run P w = .ok (g x) w) : (l.mapM f).run P w = .ok (l.map g) w := by
  rw [Array.mapM_eq_mapM_toList, Sem.run_map, run_mapM f g l.toList h, Result.andThen_ok]
  congr 1
  apply Array.toList_inj.1
  simp

theorem fillV_ok {place : Nat → Option (Nat × Nat)} : ∀ (l : List (Nat × V)) (r : List (Nat × Value)) (cs cs' : List V) (cells : Array Value),
    l.map (·.1) = r.map (·.1) → RepL C w σ none (l.map (·.2)) (r.map (·.2)) → RepL C w σ none cs cells.toList → (∀ u ∈ cells.toList, u.oneCell' = true) → xD place cs l = some cs' →
    ∃ cells', Instr.fill place cells r = some cells' ∧ RepL C w σ none cs' cells'.toList ∧ (∀ u ∈ cells'.toList, u.oneCell' = true)
  | [], [], cs, cs', cells, _, _, hc, h1, he => by
    simp only [xD] at he; cases he
    exact ⟨cells, rfl, hc, h1⟩
  | [], p :: r, _, _, _, hk, _, _, _, _ => by simp at hk
  | p :: l, [], _, _, _, hk, _, _, _, _ => by simp at hk
  | (i, v) :: l, (j, c) :: r, cs, cs', cells, hk, hr, hc, h1, he => by
    simp only [List.map_cons, List.cons.injEq] at hk
    obtain ⟨rfl, hk⟩ := hk
    obtain ⟨d, q, hdq, hd, hr⟩ := hr
    simp only [List.map_cons, List.cons.injEq] at hdq
    obtain ⟨rfl, rfl⟩ := hdq
    simp only [xD] at he
    split at he
    case h_2 => cases he
    rename_i off n hpl
    split at he
    case h_2 => cases he
    rename_i ds hds
    split at he
    case isFalse => cases he
    rename_i hcond
    obtain ⟨hdl, hdone, hdlen, _⟩ := cells?_ok hd hds
    have hclen := hc.length
    have hfit : off + c.cells.size ≤ cells.size := by simp at hclen; omega
    have ht := fill_one off c.cells cells hfit
    have hrep : RepL C w σ none (zB cs off ds) (c.cells.zipIdx.foldl (fun cs (x : Value × Nat) => cs.setIfInBounds (off + x.2) x.1) cells).toList := by
      rw [ht, zB, ← hdlen]
      exact ((hc.take off).app hdl).app (hc.drop _)
    have hone : ∀ u ∈ (c.cells.zipIdx.foldl (fun cs (x : Value × Nat) => cs.setIfInBounds (off + x.2) x.1) cells).toList, u.oneCell' = true := by
      rw [ht]
      intro u hu
      simp only [List.mem_append] at hu
      rcases hu with (hu | hu) | hu
      · exact h1 u (List.mem_of_mem_take hu)
      · exact hdone u hu
      · exact h1 u (List.mem_of_mem_drop hu)
    obtain ⟨cells', hf, h2, h3⟩ := fillV_ok l r _ cs' _ hk hr hrep hone he
    refine ⟨cells', ?_, h2, h3⟩
    simp only [Instr.fill, hpl]
    rw [if_neg (by simp; omega)]
    exact hf

theorem allM_map {α β : Type} {f : α → Option β} : ∀ {l : List α} {r : List β}, allM f l = some r → ∀ (i : Nat), r[i]? = (l[i]?).bind f
  | [], r, h, i => by simp only [allM] at h; cases h; simp
  | x :: l, r, h, i => by
    simp only [allM] at h
    split at h
    case h_2 => cases h
    rename_i b hb
    split at h
    case h_2 => cases h
    rename_i bs hbs
    cases h
    cases i with
    | zero => simp [hb]
    | succ i => simpa using allM_map hbs i

theorem evBuild_ok (hT : TyOk P E) (h : Sim C D outs st a w σ) {t : Nat} {ti : TI} {fs : List (Nat × Nat)} (hti : E.ty t = some ti) (hfs : qB E t = some fs) {zs : List V} {ps : List (Nat × Nat)}
    (hz0 : cells? ti.zero = some zs) (hps : allM (qV E) fs = some ps) {parts : Array (Nat × Operand)} {cs : List V}
    (he : xD (fun (i : Nat) => ps[i]?) zs (parts.toList.map fun p => (p.1, st.eval p.2)) = some cs) :
    ∃ cv, (Instr.build t (parts.map fun (i, x) => (i, a.eval x))).run P w = .ok cv w ∧ Rep C w σ none (.agg cs) cv := by
  obtain ⟨gs, hu, hgs⟩ := fieldsOf_ok hT hfs
  obtain ⟨d', i, z, hd, ht, hi, hsz, hby, hz, hzv, hzs, hz1, _⟩ := hT t ti hti
  have hzr : Rep C w σ none ti.zero z := by rw [hzv]; exact zero_rep z hz1
  obtain ⟨hzl, hzone, hzlen, _⟩ := cells?_ok hzr hz0
  have hreps : ∀ (l : List (Nat × Operand)), RepL C w σ none ((l.map fun p => (p.1, st.eval p.2)).map (·.2)) ((l.map fun p => (p.1, a.eval p.2)).map (·.2)) := fun l => by
    induction l with
    | nil => rfl
    | cons p l ih => exact ⟨_, _, rfl, h.eval p.2, ih⟩
  obtain ⟨cells', hf, h2, h3⟩ := fillV_ok (place := fun (i : Nat) => ps[i]?) _ (parts.toList.map fun p => (p.1, a.eval p.2)) zs cs z.cells (by simp [Function.comp_def]) (hreps _) hzl hzone he
  refine ⟨.agg cells', ?_, ⟨cells'.toList, by simp, h2, h3⟩⟩
  have hplaces : ∀ f ∈ gs.toList, ((do pure (f.offset, ← sizeOf f.type) : Sem (Nat × Nat))).run P w = .ok ((fun f : Field => (f.offset, (((P.info? f.type).map (·.size)).getD 0))) f) w := fun f hf' => by
    obtain ⟨k, hk⟩ := List.getElem?_of_mem hf'
    have h4 : fs[k]? = some (f.offset, f.type) := by rw [← hgs, List.getElem?_map, hk]; rfl
    have h5 : k < ps.length := by
      have h6 : ∀ {l : List (Nat × Nat)} {r : List (Nat × Nat)}, allM (qV E) l = some r → r.length = l.length := by
        intro l
        induction l with
        | nil => intro r h; simp only [allM] at h; cases h; rfl
        | cons x l ih =>
          intro r h
          simp only [allM] at h
          split at h
          case h_2 => cases h
          split at h
          case h_2 => cases h
          rename_i bs hbs
          cases h
          simp [ih hbs]
      rw [h6 hps]; exact (List.getElem?_eq_some_iff.1 h4).1
    have h6 := allM_map hps k
    rw [h4, List.getElem?_eq_getElem h5] at h6
    simp only [Option.bind_some, qV] at h6
    split at h6
    case h_2 => cases h6
    rename_i fi hfi
    obtain ⟨d2, i2, z2, _, _, hi2, hsz2, _⟩ := hT _ fi hfi
    simp [sizeOf, typeInfo, hi2]
  have hpl : (fun (i : Nat) => (gs.map fun f : Field => (f.offset, (((P.info? f.type).map (·.size)).getD 0)))[i]?) = fun (i : Nat) => ps[i]? := by
    funext k
    rw [allM_map hps k, ← hgs, List.getElem?_map, Array.getElem?_map]
    simp only [Array.getElem?_toList]
    cases hk : gs[k]? with
    | none => rfl
    | some f =>
      simp only [Option.map_some, Option.bind_some, qV]
      have h4 : fs[k]? = some (f.offset, f.type) := by rw [← hgs, List.getElem?_map, Array.getElem?_toList, hk]; rfl
      have h6 := allM_map hps k
      rw [h4] at h6
      simp only [Option.bind_some, qV] at h6
      cases hfi : E.ty f.type with
      | none =>
        exfalso
        have hlt : k < fs.length := (List.getElem?_eq_some_iff.1 h4).1
        have h7 : ∀ {l : List (Nat × Nat)} {r : List (Nat × Nat)}, allM (qV E) l = some r → ∀ p ∈ l, ∃ x, qV E p = some x := by
          intro l
          induction l with
          | nil => intro r _ p hp; cases hp
          | cons x l ih =>
            intro r h p hp
            simp only [allM] at h
            split at h
            case h_2 => cases h
            rename_i b hb
            split at h
            case h_2 => cases h
            rename_i bs hbs
            rcases List.mem_cons.1 hp with rfl | hp
            · exact ⟨b, hb⟩
            · exact ih hbs p hp
        obtain ⟨x, hx⟩ := h7 hps _ (List.mem_of_getElem? h4)
        simp [qV, hfi] at hx
      | some fi =>
        obtain ⟨d2, i2, z2, _, _, hi2, hsz2, _⟩ := hT _ fi hfi
        simp [hi2, hsz2]
  have hpt : (parts.map fun (p : Nat × Operand) => (p.1, a.eval p.2)).toList = parts.toList.map fun p => (p.1, a.eval p.2) := by simp
  unfold Instr.build
  simp only [Sem.run_bind, zeroValue, typeInfo, run_program, Result.andThen_ok, hi, hz, Sem.run_pure, run_underlying hu, run_amapM _ _ gs hplaces, hpl, hpt]
  rw [hf]
  rfl

theorem evBuildA_ok (hT : TyOk P E) (h : Sim C D outs st a w σ) {t n : Nat} {ti ei : TI} (hti : E.ty t = some ti) (har : qF E t = some (n, ei)) {zs : List V}
    (hz0 : cells? ti.zero = some zs) {parts : Array (Nat × Operand)} {cs : List V}
    (he : xD (fun (i : Nat) => some (i * ei.size, ei.size)) zs (parts.toList.map fun p => (p.1, st.eval p.2)) = some cs) :
    ∃ cv, (Instr.build t (parts.map fun (i, x) => (i, a.eval x))).run P w = .ok cv w ∧ Rep C w σ none (.agg cs) cv := by
  obtain ⟨e, hu, hte⟩ := arrayOf_ok hT har
  obtain ⟨d', i, z, hd, ht, hi, hsz, hby, hz, hzv, hzs, hz1, _⟩ := hT t ti hti
  obtain ⟨d2, i2, z2, _, _, hi2, hsz2, _⟩ := hT e ei hte
  have hzr : Rep C w σ none ti.zero z := by rw [hzv]; exact zero_rep z hz1
  obtain ⟨hzl, hzone, hzlen, _⟩ := cells?_ok hzr hz0
  have hreps : ∀ (l : List (Nat × Operand)), RepL C w σ none ((l.map fun p => (p.1, st.eval p.2)).map (·.2)) ((l.map fun p => (p.1, a.eval p.2)).map (·.2)) := fun l => by
    induction l with
    | nil => rfl
    | cons p l ih => exact ⟨_, _, rfl, h.eval p.2, ih⟩
  obtain ⟨cells', hf, h2, h3⟩ := fillV_ok (place := fun (i : Nat) => some (i * ei.size, ei.size)) _ (parts.toList.map fun p => (p.1, a.eval p.2)) zs cs z.cells (by simp [Function.comp_def]) (hreps _) hzl hzone he
  refine ⟨.agg cells', ?_, ⟨cells'.toList, by simp, h2, h3⟩⟩
  have hpt : (parts.map fun (p : Nat × Operand) => (p.1, a.eval p.2)).toList = parts.toList.map fun p => (p.1, a.eval p.2) := by simp
  unfold Instr.build
  simp only [Sem.run_bind, zeroValue, typeInfo, run_program, Result.andThen_ok, hi, hz, Sem.run_pure, run_underlying hu, run_sizeOf hi2, hsz2, hpt]
  rw [hf]
  rfl

theorem lenV_ok {x : V} {cx : Value} (hx : Rep C w σ none x cx) {n : Nat} (hn : lenV x = some n) : ∃ p cap, cx = .slice p n cap ∧ n ≤ cap := by
  cases x <;> simp only [lenV] at hn <;> cases hn
  · obtain ⟨_, p, cap, rfl, hle, _⟩ := hx; exact ⟨p, cap, rfl, hle⟩
  · obtain ⟨p, rfl⟩ := hx; exact ⟨p, 0, rfl, Nat.le_refl _⟩
  · simp only [Rep] at hx
    split at hx
    · exact hx.elim
    · obtain ⟨_, h0, p, cp, rfl, _⟩ := hx; exact ⟨p, cp, by rw [h0], by omega⟩
    · obtain ⟨p, cp, rfl, hle, _⟩ := hx; exact ⟨p, cp, rfl, hle⟩
    · exact hx.elim
  · simp only [Rep] at hx
    split at hx
    · exact hx.elim
    · exact hx.elim
    · obtain ⟨cp, rfl, h1, h2, _⟩ := hx; exact ⟨_, cp, rfl, Nat.le_trans h1 h2⟩
    · exact hx.elim

theorem run_bound {k : IntKind} {n : Int} {y : Nat} {code : BoundsCode} (h0 : 0 ≤ n) (h1 : n ≤ y) : (Instr.sliceBound (.int k n) y code).run P w = .ok n.toNat w := by
  simp [Instr.sliceBound, asIntOf, h0, h1]

def optOk (z : Option (Option Int)) (c : Option Value) : Prop := z = none ∨ (z = some none ∧ c = none) ∨ ∃ n k, z = some (some n) ∧ c = some (.int k n)

theorem evSlice0_ok (hT : TyOk P E) (h : Sim C D outs st a w σ) {t : Nat} {ei : TI} (hs : qE E t = some ei) {x : V} {cx : Value} (hx : Rep C w σ none x cx) {lo hi : Option (Option Int)} {mx : Option V} {v : V}
    {clo chi cmx : Option Value} (hlo : optOk lo clo) (hhi : optOk hi chi)
    (hmx : (mx = none ∧ cmx = none) ∨ ∃ m cm, mx = some m ∧ cmx = some cm ∧ Rep C w σ none m cm) (he : evSlice0 ei x lo hi mx st = some v) :
    ∃ cv, (Instr.sliceAt t cx clo chi cmx).run P w = .ok cv w ∧ Rep C w σ none v cv := by
  obtain ⟨e, hu, hte⟩ := sliceOf_ok hT hs
  obtain ⟨d', i, z, hd, ht, hi', hsz, hby, hz, hzv, hzs, hz1, _⟩ := hT e ei hte
  unfold evSlice0 at he
  split at he
  case h_2 => cases he
  rename_i n hn
  obtain ⟨p, cap, rfl, hnc⟩ := lenV_ok hx hn
  split at he
  case h_2 => cases he
  rename_i lo hi
  -- the bounds, run
  have hL : ∀ y : Nat, 0 ≤ lo.getD 0 → lo.getD 0 ≤ y → ∀ code, (match (motive := Option Value → Sem Nat) clo with | some v => Instr.sliceBound v y code | none => pure 0).run P w = .ok (lo.getD 0).toNat w := fun y h0 h1 code => by
    rcases hlo with h2 | ⟨h2, h3⟩ | ⟨m, k, h2, h3⟩
    · cases h2
    · cases h2; subst h3; rfl
    · cases h2; subst h3; exact run_bound h0 h1
  have hH : ∀ y : Nat, 0 ≤ hi.getD n → hi.getD n ≤ n → n ≤ y → ∀ code, (match (motive := Option Value → Sem Nat) chi with | some v => Instr.sliceBound v y code | none => pure n).run P w = .ok (hi.getD n).toNat w := fun y h0 h1 h2 code => by
    rcases hhi with h3 | ⟨h3, h4⟩ | ⟨m, k, h3, h4⟩
    · cases h3
    · cases h3; subst h4; simp
    · cases h3; subst h4; exact run_bound h0 (by simp at h1 ⊢; omega)
  split at he
  · -- no third bound
    obtain ⟨_, rfl⟩ : True ∧ cmx = none := by
      rcases hmx with ⟨_, h2⟩ | ⟨m, cm, h2, _⟩
      · exact ⟨trivial, h2⟩
      · cases h2
    split at he
    case isFalse => cases he
    rename_i hb
    obtain ⟨b1, b2, b3⟩ := hb
    have hrun : (Instr.sliceAt t (.slice p n cap) clo chi none).run P w =
        .ok (.slice (if cap = (lo.getD 0).toNat then p else p.map (·.add ((lo.getD 0).toNat * i.size))) ((hi.getD n).toNat - (lo.getD 0).toNat) (cap - (lo.getD 0).toNat)) w := by
      unfold Instr.sliceAt Instr.slice Instr.sliceBounds
      simp only [Sem.run_bind, run_underlying hu, Result.andThen_ok]
      have e1 := hH cap (by omega) b3 hnc .sliceAcap
      have e2 := hL (hi.getD n).toNat b1 (by omega) .sliceB
      have e3 := run_sizeOf (w := w) hi'
      clear hL hH hlo hhi hx he
      generalize (hi.getD (n : Int)).toNat = hh at e1 e2 ⊢
      generalize (lo.getD 0).toNat = ll at e2 ⊢
      cases chi with
      | none =>
        simp only [Sem.run_pure, Result.ok.injEq, and_true] at e1
        subst e1
        cases clo with
        | none =>
          simp only [Sem.run_pure, Result.ok.injEq, and_true] at e2
          subst e2
          simp [e3]
        | some c => dsimp only at e2; simp [e2, e3]
      | some c' =>
        dsimp only at e1
        cases clo with
        | none =>
          simp only [Sem.run_pure, Result.ok.injEq, and_true] at e2
          subst e2
          simp [e1, e3]
        | some c => dsimp only at e2; simp [e1, e2, e3]
    refine ⟨_, hrun, ?_⟩
    split at he
    · -- nothing
      cases he
      obtain ⟨q, hq⟩ := hx
      cases hq
      simp only [lenV] at hn
      cases hn
      have : (lo.getD 0).toNat = 0 := by omega
      simp only [this, if_true]
      exact ⟨p, by congr 1; omega⟩
    · rename_i t' vs
      split at he
      case isFalse => cases he
      rename_i hsz'
      cases he
      simp only [lenV] at hn
      cases hn
      obtain ⟨hf, q, cap', hq, hle, hv⟩ := hx
      cases hq
      refine ⟨refFreeL_take_drop hf _ _, if cap = (lo.getD 0).toNat then p else p.map (·.add ((lo.getD 0).toNat * i.size)), cap - (lo.getD 0).toNat, ?_, ?_, ?_⟩
      · congr 1; simp; omega
      · simp; omega
      · rcases hv with rfl | ⟨b, off, es, ds, rfl, hb, hl, hw, hes, hlie⟩
        · exact .inl (by simp)
        · rcases Nat.eq_zero_or_pos ((hi.getD ↑vs.length - lo.getD 0).toNat) with h0 | h0
          · exact .inl (by rw [h0]; simp)
          · refine .inr ⟨b, off + (lo.getD 0).toNat * es, es, (ds.drop (lo.getD 0).toNat).take (hi.getD ↑vs.length - lo.getD 0).toNat, ?_, hb, (hl.drop _).take _, fun d hd => hw d (List.mem_of_mem_drop (List.mem_of_mem_take hd)), hes, ?_⟩
            · rw [if_neg (by omega)]
              have hes' : es = i.size := by
                have hlt : 0 < ds.length := by rw [hl.length]; omega
                have hm : ds[0]'hlt ∈ ds := List.getElem_mem _
                rw [hsz]
                exact (hw _ hm).1.symm.trans (sized_wf hsz' hl _ hm).1
              simp [hes', Addr.add_lit]
            · intro i' d r u hd hu
              rw [List.getElem?_take] at hd
              split at hd
              · rw [List.getElem?_drop] at hd
                have := hlie _ d r u hd hu
                rw [Nat.add_mul, ← Nat.add_assoc] at this
                exact this
              · cases hd
    · rename_i id off len
      split at he
      case h_2 => cases he
      rename_i ob hob
      split at he
      case isFalse => cases he
      rename_i hobes
      cases he
      simp only [lenV] at hn
      cases hn
      obtain ⟨loc, hloc, hrep, hfl⟩ := h.objs id ob hob
      simp only [Rep, hloc] at hx ⊢
      cases loc with
      | virt app =>
        obtain ⟨ho, hl0, q, cp, hq, hcp⟩ := hx
        cases hq
        have : (lo.getD 0).toNat = 0 := by omega
        simp only [this]
        exact ⟨by omega, by omega, _, cap, by congr 1; omega, hcp⟩
      | mp b => exact hx.elim
      | blk b bo es cap' app =>
        obtain ⟨q, cp, hq, hlc, ha⟩ := hx
        cases hq
        have hese : es = i.size := by rw [hsz, ← hobes]; exact hrep.1.symm
        refine ⟨if cap = (lo.getD 0).toNat then p else p.map (·.add ((lo.getD 0).toNat * i.size)), cap - (lo.getD 0).toNat, ?_, ?_, ?_⟩
        · congr 1; omega
        · omega
        · rcases ha with ⟨h0, h1⟩ | ⟨ha, h1⟩
          · exact .inl ⟨by omega, fun e => by have := h1 e; omega⟩
          · rcases Nat.eq_or_lt_of_le (show (lo.getD 0).toNat ≤ cap by omega) with h2 | h2
            · exact .inl ⟨by omega, fun e => by omega⟩
            · refine .inr ⟨?_, fun e => by have := h1 e; omega⟩
              rw [if_neg (by omega), ha]
              simp only [Option.map_some, Addr.add_lit, hese, Nat.add_mul, Nat.add_assoc]
    · cases he
  · -- the third bound
    rename_i k m
    split at he
    · -- 0
      rename_i hm0
      subst hm0
      split at he
      case isFalse => cases he
      rename_i hb
      cases he
      rcases hmx with ⟨h2, _⟩ | ⟨m, cm, h2, h3, h4⟩
      · cases h2
      cases h2
      subst h3
      simp only [Rep] at h4
      subst h4
      have hhi0 : ∃ k', chi = some (.int k' 0) := by
        rcases hhi with h5 | ⟨h5, _⟩ | ⟨m, k', h5, h6⟩
        · cases h5
        · cases h5; exact absurd hb.2 (by simp)
        · cases h5
          have := Option.some.inj hb.2
          subst this
          exact ⟨k', h6⟩
      obtain ⟨k', rfl⟩ := hhi0
      have e2 := hL 0 (by omega) (by omega) .slice3C
      have hrun : (Instr.sliceAt t (.slice p n cap) clo (some (.int k' 0)) (some (.int k 0))).run P w = .ok (.slice p 0 0) w := by
        unfold Instr.sliceAt Instr.slice Instr.sliceBounds
        simp only [Sem.run_bind, run_underlying hu, Result.andThen_ok]
        have e3 := run_bound (P := P) (w := w) (k := k) (n := 0) (y := cap) (code := .slice3Acap) (by omega) (by omega)
        have e4 := run_bound (P := P) (w := w) (k := k') (n := 0) (y := 0) (code := .slice3B) (by omega) (by omega)
        have hz0 : (lo.getD 0).toNat = 0 := by omega
        rw [hz0] at e2
        have e5 := run_sizeOf (w := w) hi'
        clear hL hH hlo hhi hx
        cases clo <;> dsimp only at e2 ⊢ <;> simp [e2, e3, e4, e5]
      exact ⟨_, hrun, p, rfl⟩
    · -- the end
      split at he
      case h_3 => cases he
      case h_2 =>
        split at he
        case h_2 => cases he
        rename_i hh
        split at he
        case isFalse => cases he
        rename_i hb
        cases he
        rcases hmx with ⟨h2, _⟩ | ⟨m', cm, h2, h3, h4⟩
        · cases h2
        cases h2
        subst h3
        simp only [Rep] at h4
        subst h4
        have hhi0 : ∃ k', chi = some (.int k' hh) := by
          rcases hhi with h5 | ⟨h5, _⟩ | ⟨m', k', h5, h6⟩
          · cases h5
          · cases h5
          · cases h5
            exact ⟨k', h6⟩
        obtain ⟨k', rfl⟩ := hhi0
        have e2 := hL hh.toNat (by omega) (by omega) .slice3C
        have hrun : ∃ cv, (Instr.sliceAt t (.slice p n cap) clo (some (.int k' hh)) (some (.int k m))).run P w = .ok cv w := by
          unfold Instr.sliceAt Instr.slice Instr.sliceBounds
          simp only [Sem.run_bind, run_underlying hu, Result.andThen_ok]
          have e3 := run_bound (P := P) (w := w) (k := k) (n := m) (y := cap) (code := .slice3Acap) (by omega) (by omega)
          have e4 := run_bound (P := P) (w := w) (k := k') (n := hh) (y := m.toNat) (code := .slice3B) (by omega) (by omega)
          have e5 := run_sizeOf (w := w) hi'
          clear hL hH hlo hhi hx
          cases clo <;> dsimp only at e2 ⊢ <;> simp [e2, e3, e4, e5]
        obtain ⟨cv, hcv⟩ := hrun
        exact ⟨cv, hcv, trivial⟩
      rename_i t' vs
      split at he
      case isFalse => cases he
      rename_i hb
      cases he
      obtain ⟨hf, p', cap', hsl, hle', hv⟩ := hx
      cases hsl
      cases hn
      rcases hmx with ⟨h2, _⟩ | ⟨m', cm, h2, h3, h4⟩
      · cases h2
      cases h2
      subst h3
      simp only [Rep] at h4
      subst h4
      have hhi0 : ∃ k', chi = some (.int k' m) := by
        rcases hhi with h5 | ⟨h5, _⟩ | ⟨m', k', h5, h6⟩
        · cases h5
        · cases h5; exact absurd hb.2.1 (by simp)
        · cases h5
          have := Option.some.inj hb.2.1
          subst this
          exact ⟨k', h6⟩
      obtain ⟨k', rfl⟩ := hhi0
      have hmn : m = ((vs.length : Nat) : Int) := hb.2.2
      have e2 := hL vs.length (by omega) (by omega) .slice3C
      have hrun : (Instr.sliceAt t (.slice p vs.length cap) clo (some (.int k' m)) (some (.int k m))).run P w = .ok (.slice p vs.length vs.length) w := by
        unfold Instr.sliceAt Instr.slice Instr.sliceBounds
        simp only [Sem.run_bind, run_underlying hu, Result.andThen_ok]
        have e3 := run_bound (P := P) (w := w) (k := k) (n := m) (y := cap) (code := .slice3Acap) (by omega) (by omega)
        have e4 := run_bound (P := P) (w := w) (k := k') (n := m) (y := vs.length) (code := .slice3B) (by omega) (by omega)
        have hz0 : (lo.getD 0).toNat = 0 := by omega
        have hmt : m.toNat = vs.length := by omega
        rw [hz0] at e2
        rw [hmt] at e3 e4
        have e5 := run_sizeOf (w := w) hi'
        have hadd : p.map (fun q => q.add 0) = p := by cases p <;> simp [Addr.add]
        clear hL hH hlo hhi hv
        cases clo <;> dsimp only at e2 ⊢ <;> simp [e2, e3, e4, e5, hadd]
      exact ⟨_, hrun, hf, p, rfl, hv⟩
  · cases he

theorem evSliceP_ok (hT : TyOk P E) (h : Sim C D outs st a w σ) {t : Nat} {ei : TI} (hs : qE E t = some ei) {id off len room : Nat} {cx : Value} (hx : Rep C w σ none (.pre id off len room) cx) {lo hi : Option (Option Int)} {mx : Option V} {v : V}
    {clo chi cmx : Option Value} (hlo : optOk lo clo) (hhi : optOk hi chi)
    (hmx : (mx = none ∧ cmx = none) ∨ ∃ m cm, mx = some m ∧ cmx = some cm ∧ Rep C w σ none m cm) (he : xK ei id off len room lo hi mx st = some v) :
    ∃ cv, (Instr.sliceAt t cx clo chi cmx).run P w = .ok cv w ∧ Rep C w σ none v cv := by
  obtain ⟨e, hu, hte⟩ := sliceOf_ok hT hs
  obtain ⟨d', i, z, hd, ht, hi', hsz, hby, hz, hzv, hzs, hz1, _⟩ := hT e ei hte
  unfold xK at he
  split at he
  case h_2 => cases he
  rename_i lo hi
  split at he
  case isFalse => cases he
  rename_i hb
  obtain ⟨b1, b2, b3⟩ := hb
  split at he
  case h_2 => cases he
  rename_i ob hob
  split at he
  case isFalse => cases he
  rename_i hobes
  cases he
  obtain ⟨_, rfl⟩ : True ∧ cmx = none := by
    rcases hmx with ⟨_, h2⟩ | ⟨m, cm, h2, _⟩
    · exact ⟨trivial, h2⟩
    · cases h2
  obtain ⟨loc, hloc, hrep, hfl⟩ := h.objs id ob hob
  simp only [Rep, hloc] at hx ⊢
  cases loc with
  | virt app => exact hx.elim
  | mp b => exact hx.elim
  | blk b bo es cap' app =>
    obtain ⟨cap, rfl, hlr, hrc, happ⟩ := hx
    have hese : es = i.size := by rw [hsz, ← hobes]; exact hrep.1.symm
    have hL : ∀ y : Nat, 0 ≤ lo.getD 0 → lo.getD 0 ≤ y → ∀ code, (match (motive := Option Value → Sem Nat) clo with | some v => Instr.sliceBound v y code | none => pure 0).run P w = .ok (lo.getD 0).toNat w := fun y h0 h1 code => by
      rcases hlo with h2 | ⟨h2, h3⟩ | ⟨m, k, h2, h3⟩
      · cases h2
      · cases h2; subst h3; rfl
      · cases h2; subst h3; exact run_bound h0 h1
    have hH : ∀ y : Nat, 0 ≤ hi.getD len → hi.getD len ≤ y → len ≤ y → ∀ code, (match (motive := Option Value → Sem Nat) chi with | some v => Instr.sliceBound v y code | none => pure len).run P w = .ok (hi.getD len).toNat w := fun y h0 h1 h2 code => by
      rcases hhi with h3 | ⟨h3, h4⟩ | ⟨m, k, h3, h4⟩
      · cases h3
      · cases h3; subst h4; simp
      · cases h3; subst h4; exact run_bound h0 (by simp at h1 ⊢; omega)
    generalize hp : (some (⟨b, bo + off * es, none⟩ : Addr)) = p
    have hrun : (Instr.sliceAt t (.slice p len cap) clo chi none).run P w =
        .ok (.slice (if cap = (lo.getD 0).toNat then p else p.map (·.add ((lo.getD 0).toNat * i.size))) ((hi.getD len).toNat - (lo.getD 0).toNat) (cap - (lo.getD 0).toNat)) w := by
      unfold Instr.sliceAt Instr.slice Instr.sliceBounds
      simp only [Sem.run_bind, run_underlying hu, Result.andThen_ok]
      have e1 := hH cap (by omega) (by omega) (by omega) .sliceAcap
      have e2 := hL (hi.getD len).toNat b1 (by omega) .sliceB
      have e3 := run_sizeOf (w := w) hi'
      clear hL hH hlo hhi
      generalize (hi.getD (len : Int)).toNat = hh at e1 e2 ⊢
      generalize (lo.getD 0).toNat = ll at e2 ⊢
      cases chi with
      | none =>
        simp only [Sem.run_pure, Result.ok.injEq, and_true] at e1
        subst e1
        cases clo with
        | none =>
          simp only [Sem.run_pure, Result.ok.injEq, and_true] at e2
          subst e2
          simp [e3]
        | some c => dsimp only at e2; simp [e2, e3]
      | some c' =>
        dsimp only at e1
        cases clo with
        | none =>
          simp only [Sem.run_pure, Result.ok.injEq, and_true] at e2
          subst e2
          simp [e1, e3]
        | some c => dsimp only at e2; simp [e1, e2, e3]
    refine ⟨_, hrun, if cap = (lo.getD 0).toNat then p else p.map (·.add ((lo.getD 0).toNat * i.size)), cap - (lo.getD 0).toNat, ?_, ?_, ?_⟩
    · congr 1; omega
    · omega
    · rcases Nat.eq_or_lt_of_le (show (lo.getD 0).toNat ≤ cap by omega) with h2 | h2
      · exact .inl ⟨by omega, fun e => by omega⟩
      · refine .inr ⟨?_, fun e => by have := happ e; omega⟩
        rw [if_neg (by omega), ← hp]
        simp only [Option.map_some, Addr.add_lit, hese, Nat.add_mul, Nat.add_assoc]

theorem evSlice_ok (hT : TyOk P E) (h : Sim C D outs st a w σ) {t : Nat} {ei : TI} (hs : qE E t = some ei) {x : V} {cx : Value} (hx : Rep C w σ none x cx) {lo hi : Option (Option Int)} {mx : Option V} {v : V}
    {clo chi cmx : Option Value} (hlo : optOk lo clo) (hhi : optOk hi chi)
    (hmx : (mx = none ∧ cmx = none) ∨ ∃ m cm, mx = some m ∧ cmx = some cm ∧ Rep C w σ none m cm) (he : qU ei x lo hi mx st = some v) :
    ∃ cv, (Instr.sliceAt t cx clo chi cmx).run P w = .ok cv w ∧ Rep C w σ none v cv := by
  unfold qU at he
  split at he
  · exact evSliceP_ok hT h hs hx hlo hhi hmx he
  · exact evSlice0_ok hT h hs hx hlo hhi hmx he

theorem evSlicePre_ok (hT : TyOk P E) (h : Sim C D outs st a w σ) {t : Nat} {ei : TI} (hs : qE E t = some ei) {id id' off len o l : Nat} {cx : Value} (hx : Rep C w σ none (.own id off len) cx) {lo hi : Option (Option Int)} {mx : Option V}
    {clo chi cmx : Option Value} (hlo : optOk lo clo) (hhi : optOk hi chi)
    (hmx : (mx = none ∧ cmx = none) ∨ ∃ m cm, mx = some m ∧ cmx = some cm ∧ Rep C w σ none m cm) (he : qU ei (.own id off len) lo hi mx st = some (.own id' o l)) (hlt : o < off + len) (hle : o + l ≤ off + len) :
    ∃ cv, (Instr.sliceAt t cx clo chi cmx).run P w = .ok cv w ∧ Rep C w σ none (.pre id' o l (off + len - o)) cv := by
  obtain ⟨e, hu, hte⟩ := sliceOf_ok hT hs
  obtain ⟨d', i, z, hd, ht, hi', hsz, hby, hz, hzv, hzs, hz1, _⟩ := hT e ei hte
  simp only [qU, evSlice0, lenV] at he
  split at he
  case h_2 => cases he
  rename_i lo hi
  split at he
  case h_2 =>
    split at he
    · split at he <;> cases he
    · split at he
      · split at he <;> cases he
      · cases he
  case h_3 => cases he
  split at he
  case isFalse => cases he
  rename_i hb
  obtain ⟨b1, b2, b3⟩ := hb
  split at he
  case h_2 => cases he
  rename_i ob hob
  split at he
  case isFalse => cases he
  rename_i hobes
  cases he
  obtain ⟨_, rfl⟩ : True ∧ cmx = none := by
    rcases hmx with ⟨_, h2⟩ | ⟨m, cm, h2, _⟩
    · exact ⟨trivial, h2⟩
    · cases h2
  obtain ⟨loc, hloc, hrep, hfl⟩ := h.objs id ob hob
  simp only [Rep, hloc] at hx ⊢
  cases loc with
  | virt app => obtain ⟨h1, h2, _⟩ := hx; omega
  | mp b => exact hx.elim
  | blk b bo es cap' app =>
    obtain ⟨a0, cap, rfl, hlc, ha⟩ := hx
    obtain ⟨rfl, happ⟩ : a0 = some ⟨b, bo + off * es, none⟩ ∧ (app = true → off + cap ≤ cap') := by
      rcases ha with ⟨h0, _⟩ | ha
      · omega
      · exact ha
    have hese : es = i.size := by rw [hsz, ← hobes]; exact hrep.1.symm
    have hL : ∀ y : Nat, 0 ≤ lo.getD 0 → lo.getD 0 ≤ y → ∀ code, (match (motive := Option Value → Sem Nat) clo with | some v => Instr.sliceBound v y code | none => pure 0).run P w = .ok (lo.getD 0).toNat w := fun y h0 h1 code => by
      rcases hlo with h2 | ⟨h2, h3⟩ | ⟨m, k, h2, h3⟩
      · cases h2
      · cases h2; subst h3; rfl
      · cases h2; subst h3; exact run_bound h0 h1
    have hH : ∀ y : Nat, 0 ≤ hi.getD len → hi.getD len ≤ y → len ≤ y → ∀ code, (match (motive := Option Value → Sem Nat) chi with | some v => Instr.sliceBound v y code | none => pure len).run P w = .ok (hi.getD len).toNat w := fun y h0 h1 h2 code => by
      rcases hhi with h3 | ⟨h3, h4⟩ | ⟨m, k, h3, h4⟩
      · cases h3
      · cases h3; subst h4; simp
      · cases h3; subst h4; exact run_bound h0 (by simp at h1 ⊢; omega)
    generalize hp : (some (⟨b, bo + off * es, none⟩ : Addr)) = p
    have hrun : (Instr.sliceAt t (.slice p len cap) clo chi none).run P w =
        .ok (.slice (if cap = (lo.getD 0).toNat then p else p.map (·.add ((lo.getD 0).toNat * i.size))) ((hi.getD len).toNat - (lo.getD 0).toNat) (cap - (lo.getD 0).toNat)) w := by
      unfold Instr.sliceAt Instr.slice Instr.sliceBounds
      simp only [Sem.run_bind, run_underlying hu, Result.andThen_ok]
      have e1 := hH cap (by omega) (by omega) (by omega) .sliceAcap
      have e2 := hL (hi.getD len).toNat b1 (by omega) .sliceB
      have e3 := run_sizeOf (w := w) hi'
      clear hL hH hlo hhi
      generalize (hi.getD (len : Int)).toNat = hh at e1 e2 ⊢
      generalize (lo.getD 0).toNat = ll at e2 ⊢
      cases chi with
      | none =>
        simp only [Sem.run_pure, Result.ok.injEq, and_true] at e1
        subst e1
        cases clo with
        | none =>
          simp only [Sem.run_pure, Result.ok.injEq, and_true] at e2
          subst e2
          simp [e3]
        | some c => dsimp only at e2; simp [e2, e3]
      | some c' =>
        dsimp only at e1
        cases clo with
        | none =>
          simp only [Sem.run_pure, Result.ok.injEq, and_true] at e2
          subst e2
          simp [e1, e3]
        | some c => dsimp only at e2; simp [e1, e2, e3]
    refine ⟨_, hrun, cap - (lo.getD 0).toNat, ?_, by omega, by omega, fun e => by have := happ e; omega⟩
    rw [if_neg (by omega), ← hp]
    simp only [Option.map_some, Addr.add_lit, hese, Nat.add_mul, Nat.add_assoc]
    congr 1; omega

theorem preV_ok (hT : TyOk P E) (h : Sim C D outs st a w σ) {t : Nat} {ei : TI} (hs : qE E t = some ei) {x : V} {cx : Value} (hx : Rep C w σ none x cx) {lo hi : Option (Option Int)} {mx : Option V} {v : V}
    {clo chi cmx : Option Value} (hlo : optOk lo clo) (hhi : optOk hi chi)
    (hmx : (mx = none ∧ cmx = none) ∨ ∃ m cm, mx = some m ∧ cmx = some cm ∧ Rep C w σ none m cm) {p : Bool} (he : preV x (qU ei x lo hi mx st) p = some v) :
    ∃ cv, (Instr.sliceAt t cx clo chi cmx).run P w = .ok cv w ∧ Rep C w σ none v cv := by
  cases p with
  | false => exact evSlice_ok hT h hs hx hlo hhi hmx he
  | true =>
    simp only [preV] at he
    split at he
    case h_2 => cases he
    rename_i heq
    split at he
    case isFalse => cases he
    rename_i hb
    cases he
    exact evSlicePre_ok hT h hs hx hlo hhi hmx heq hb.1 hb.2

end
end Go.AM
end

