/-
Equations for the simplifier.
-/
import Derived.Test.YtdipdaajicceoaaAmLoop
namespace Go.AM
open Go

theorem atEnd_normal (E : Env) (fn : Func) (s : St) : atEnd E fn (some (.normal, s)) = match resultsV E fn s with | some v => some (v, s) | none => none := rfl
theorem atEnd_ret (E : Env) (fn : Func) (s : St) : atEnd E fn (some (.ret, s)) = match resultsV E fn s with | some v => some (v, s) | none => none := rfl
theorem outOfCall_some (v : V) (s : St) : outOfCall (some (v, s)) = resolve s.objs depth v := rfl
theorem outOfCall_none : outOfCall none = none := rfl

theorem resolve_int (objs : List (Nat × Ob)) (n : Nat) (k : IntKind) (m : Int) : resolve objs (n + 1) (.int k m) = some (.int k m) := rfl
theorem resolve_bool (objs : List (Nat × Ob)) (n : Nat) (b : Bool) : resolve objs (n + 1) (.bool b) = some (.bool b) := rfl
theorem resolve_lit (objs : List (Nat × Ob)) (n : Nat) (v : Value) : resolve objs (n + 1) (.lit v) = some (.lit v) := rfl
theorem resolve_sl (objs : List (Nat × Ob)) (n : Nat) (t : Bool) (vs : List V) : resolve objs (n + 1) (.sl t vs) = some (.sl t vs) := rfl
theorem resolve_fp (objs : List (Nat × Ob)) (n : Nat) (t : Bool) (cs : List V) (o : Nat) : resolve objs (n + 1) (.fp t cs o) = some (.fp t cs o) := rfl
theorem resolve_emp (objs : List (Nat × Ob)) (n : Nat) : resolve objs (n + 1) .emp = some (.sl true []) := rfl
theorem resolve_agg (objs : List (Nat × Ob)) (n : Nat) (cs : List V) : resolve objs (n + 1) (.agg cs) = (allM (resolve objs n) cs).map .agg := rfl
theorem resolve_tup (objs : List (Nat × Ob)) (n : Nat) (cs : List V) : resolve objs (n + 1) (.tup cs) = (allM (resolve objs n) cs).map .tup := rfl
theorem resolve_clo (objs : List (Nat × Ob)) (n f : Nat) (a b : List V) : resolve objs (n + 1) (.clo f a b) = match allM (resolve objs n) a, allM (resolve objs n) b with
      | some a', some b' => some (.clo f a' b')
      | _, _ => none := rfl
theorem resolve_own (objs : List (Nat × Ob)) (n id off len : Nat) : resolve objs (n + 1) (.own id off len) = match look objs id with
      | some o =>
        if off + len ≤ o.elems.length then
          if o.flat then some (.sl o.t ((o.elems.drop off).take len))
          else match allM (resolve objs n) (retagL o.t ((o.elems.drop off).take len)) with
            | some es => some (.sl (isNewL es) es)
            | none => none
        else none
      | none => none := rfl

theorem allM_nil {α β : Type} (f : α → Option β) : allM f [] = some [] := rfl
theorem allM_cons {α β : Type} (f : α → Option β) (x : α) (r : List α) : allM f (x :: r) = match f x with
    | some b => match allM f r with
      | some bs => some (b :: bs)
      | none => none
    | none => none := rfl
theorem beqT (b : Bool) : (b == true) = b := by cases b <;> rfl
theorem beqF (b : Bool) : (b == false) = !b := by cases b <;> rfl
end Go.AM
