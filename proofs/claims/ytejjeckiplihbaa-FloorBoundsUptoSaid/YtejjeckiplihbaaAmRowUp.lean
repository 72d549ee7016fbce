/-
A given row whose arguments are of bounded bulk.
-/
import Derived.Test.YtejjeckiplihbaaAmR

namespace Go.AM
open Go Go.RowKit

section
variable {P : Program} {E : Env} {w : World} {H : Type} {enc : TypeId × Value → H} {base : Nat} {spare : Nat → Bool} {held : Bool}
/-- A law's call: true, and what it read reads as it did. -/
theorem row_callsU {X : Ext} (hE : EnvOk P E) (hX : ExtOk P X) (hm : P.follows .mixedOrders = true) (hl : laidOutB P = true) {f : FuncId} {fn : Func} {s : ChangeSpec} {tb : TypeId} (hvars : s.vars = [])
    (hres : fn.resultTypes = #[tb]) (htb : P.underlying tb = some .bool) {m : Nat} (hp : ∀ t ∈ fn.params.toList, plainTy E m t = true ∧ P.readableRec t = true ∧ t < P.types.size)
    (hs : ∀ ds : List (DataW H), ds.length = fn.params.size → s.fn H ds = { results := [.lit (.bool true)], args := ds })
    {apart fresh handsOn : Bool} {W : World} {b : Nat} {args : Array Value} {ds gs : List (DataW H)} {before : List MemPlace}
    (hcall : ∀ avs p, HasAll E m fn.params.toList avs → RepL (Old W) W (fun _ => none) none avs args.toList → DataW.TrodAll enc P W 0 (fun _ => true) true fn.params.toList args.toList ds p → (orcω E X).call f avs = some (.bool true))
    (hval : ∀ (j : Nat) t v, fn.params[j]? = some t → args[j]? = some v → Value.okWide P W .any b t v)
    (hW : DataW.Whole enc P fn.params.toList s.vars apart W args.toList ds gs before) :
    Calls P f args W fun e W' => ∃ v, e = .returned v ∧ s.post enc P fn apart fresh handsOn false W args v W' := by
  have hlt := hW.lt
  have hW' := hW
  obtain ⟨p, q, hA, hV, rfl, _, _⟩ := hW
  rw [hvars] at hV
  obtain ⟨rfl, rfl⟩ : gs = [] ∧ q = [] := by
    cases gs with
    | nil => exact ⟨rfl, hV⟩
    | cons g r => exact hV.elim
  obtain ⟨avs, k1, k2⟩ := args_rep hE.ty (m := m) hA (fun j t v h1 h2 => hval j t v (by simpa using h1) (by simpa using h2)) (fun t ht => (hp t ht).1)
  obtain ⟨_, hc⟩ := (hcall avs p k1 k2 hA |> Orc.callOk hE hX hm)
  have hc := callsIn_wide.1 (hc 0 W (fun b => b < W.heap.size) args.toList (fun _ h => h) k2)
  rw [Array.toArray_toList] at hc
  refine hc.mono fun e W' he => ?_
  obtain ⟨c, rfl, hb, hr, _⟩ := he
  simp only [Rep] at hr
  subst hr
  have hlen : ds.length = fn.params.size := by
    have : ∀ {ts : List TypeId} {vs : List Value} {ds : List (DataW H)} {p : List MemPlace}, DataW.TrodAll enc P W 0 (fun _ => true) true ts vs ds p → ds.length = ts.length := fun {ts} => by
      induction ts with
      | nil => intro vs ds p h; cases vs <;> cases ds <;> first | rfl | exact h.elim
      | cons t ts ih =>
        intro vs ds p h
        cases vs with
        | nil => exact h.elim
        | cons v vs =>
          cases ds with
          | nil => exact h.elim
          | cons d ds =>
            obtain ⟨p1, q, _, h2, _⟩ := h
            simp [ih h2]
    rw [this hA]
    simp
  have hfn := hs ds hlen
  refine ⟨_, rfl, ds, [], p ++ [], [], p, [], hW', ?_, ?_, ?_, hb.frame _, fun e => by cases e⟩
  · rw [List.append_nil, hfn, hres]
    refine ⟨[], [], ⟨1, ?_⟩, ?_, rfl⟩
    · simp [DataW.trod, Value.cells, htb]
    · rfl
  · rw [List.append_nil, hfn]
    exact trodAll_below hl hb hA (fun t ht => (hp t ht).2) (fun x hx => hlt x (by simpa using hx))
  · rw [List.append_nil, hfn, hvars]
    rfl
end
end Go.AM
