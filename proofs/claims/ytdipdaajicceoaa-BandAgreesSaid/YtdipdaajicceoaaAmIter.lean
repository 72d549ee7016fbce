/-
What an iterator over runs yields: definitions, and what is kept of a state across a round.
-/
import Derived.Test.YtdipdaajicceoaaAmStat
import Derived.Test.YtdipdaajicceoaaAmRow
namespace Go.AM
open Go Go.RowKit

def intsOf : List V → Option (List Int)
  | [] => some []
  | .int .i64 n :: r => match intsOf r with
    | some ns => some (n :: ns)
    | none => none
  | _ :: _ => none

/-- Elements whose first cell is a length, with the places at which they begin. -/
def spansOf : Int → List V → Option (List (Int × List Int))
  | _, [] => some []
  | at_, .agg cs :: vs => match intsOf cs with
    | some [l, x, y, z] => match spansOf (IntKind.i64.wrap (at_ + l)) vs with
      | some q => some ((at_, [l, x, y, z]) :: q)
      | none => none
    | _ => none
  | _, _ :: _ => none

def yieldV (p : Int × List Int) : List V := [.int .i64 p.1, .agg (p.2.map fun n => .int .i64 n)]
def yieldC (p : Int × List Int) : List Value := [.int .i64 p.1, .agg (p.2.map fun n => Value.int .i64 n).toArray]

/-- What the function with the number f yields, if it goes over a slice of runs that it has captured. -/
def eachSeq (f : Nat) (g : Nat) (as : List V) : Option (Nat × List (List V)) :=
  if g = f then match as with
    | [.fp _ [.sl _ vs] 0] => if vs.length ≤ 1000000000 then match spansOf 0 vs with
        | some q => some (2, q.map yieldV)
        | none => none
      else none
    | _ => none
  else none

theorem intsOf_eq : ∀ {cs : List V} {ns : List Int}, intsOf cs = some ns → cs = ns.map fun n => V.int .i64 n
  | [], ns, h => by simp only [intsOf, Option.some.injEq] at h; subst h; rfl
  | v :: r, ns, h => by
    unfold intsOf at h
    split at h
    · cases h; simp_all
    · rename_i n r' heq
      split at h
      · rename_i ns' hr
        cases h
        simp only [List.cons.injEq] at heq
        obtain ⟨rfl, rfl⟩ := heq
        rw [intsOf_eq hr]
        rfl
      · cases h
    · cases h

theorem spansOf_get : ∀ {vs : List V} {at_ : Int} {q : List (Int × List Int)}, spansOf at_ vs = some q → q.length = vs.length ∧ ∀ (i : Nat) p, q[i]? = some p → vs[i]? = some (.agg (p.2.map fun n => V.int .i64 n)) ∧ ∃ l x y z, p.2 = [l, x, y, z]
  | [], at_, q, h => by simp only [spansOf, Option.some.injEq] at h; subst h; exact ⟨rfl, fun i p hp => by simp at hp⟩
  | v :: vs, at_, q, h => by
    unfold spansOf at h
    split at h
    · rename_i heq; cases heq
    · rename_i cs vs' heq
      simp only [List.cons.injEq] at heq
      obtain ⟨rfl, rfl⟩ := heq
      split at h
      · rename_i l x y z hi
        split at h
        · rename_i q' hq
          cases h
          obtain ⟨h1, h2⟩ := spansOf_get hq
          refine ⟨by simp [h1], fun i p hp => ?_⟩
          cases i with
          | zero =>
            simp only [List.getElem?_cons_zero, Option.some.injEq] at hp
            subst hp
            exact ⟨by simp [intsOf_eq hi], _, _, _, _, rfl⟩
          | succ i => simpa using h2 i p (by simpa using hp)
        · cases h
      · cases h
    · cases h

theorem spansOf_next : ∀ {vs : List V} {at_ : Int} {q : List (Int × List Int)}, spansOf at_ vs = some q → (∀ p, q[0]? = some p → p.1 = at_) ∧ ∀ (i : Nat) p p', q[i]? = some p → q[i + 1]? = some p' → p'.1 = IntKind.i64.wrap (p.1 + p.2.headD 0)
  | [], at_, q, h => by simp only [spansOf, Option.some.injEq] at h; subst h; exact ⟨fun p hp => by simp at hp, fun i p p' hp => by simp at hp⟩
  | v :: vs, at_, q, h => by
    unfold spansOf at h
    split at h
    · rename_i heq; cases heq
    · rename_i cs vs' heq
      simp only [List.cons.injEq] at heq
      obtain ⟨rfl, rfl⟩ := heq
      split at h
      · rename_i l x y z hi
        split at h
        · rename_i q' hq
          cases h
          obtain ⟨h1, h2⟩ := spansOf_next hq
          refine ⟨fun p hp => by simp at hp; subst hp; rfl, fun i p p' hp hp' => ?_⟩
          cases i with
          | zero =>
            simp only [List.getElem?_cons_zero, Option.some.injEq] at hp
            subst hp
            rw [h1 p' (by simpa using hp')]
            rfl
          | succ i => exact h2 i p p' (by simpa using hp) (by simpa using hp')
        · cases h
      · cases h
    · cases h

section
variable {C : Cx} {D : List Deferred} {outs : List (List Value)} {st : St} {a : Act} {w w' : World} {σ : Places}

theorem repL_ints {mo : Option Bool} : ∀ (l : List Int), RepL C w σ mo (l.map fun n => V.int .i64 n) (l.map fun n => Value.int .i64 n)
  | [] => rfl
  | n :: l => ⟨_, _, rfl, rfl, repL_ints l⟩

theorem repL_ints_eq {mo : Option Bool} : ∀ {l : List Int} {ds : List Value}, RepL C w σ mo (l.map fun n => V.int .i64 n) ds → ds = l.map fun n => Value.int .i64 n
  | [], _, h => h
  | n :: l, ds, h => by
    obtain ⟨d, r, rfl, hd, hr⟩ := h
    simp only [Rep] at hd
    rw [hd, repL_ints_eq hr]
    rfl

theorem rep_ints {mo : Option Bool} (l : List Int) : Rep C w σ mo (.agg (l.map fun n => V.int .i64 n)) (.agg (l.map fun n => Value.int .i64 n).toArray) :=
  ⟨_, rfl, repL_ints l, fun u hu => by obtain ⟨n, _, rfl⟩ := List.mem_map.1 hu; rfl⟩

theorem rep_ints_eq {mo : Option Bool} {l : List Int} {c : Value} (h : Rep C w σ mo (.agg (l.map fun n => V.int .i64 n)) c) : c = .agg (l.map fun n => Value.int .i64 n).toArray := by
  obtain ⟨ds, rfl, hl, _⟩ := h
  rw [repL_ints_eq hl]

theorem plainL_ints : ∀ (l : List Int), plainL (l.map fun n => V.int .i64 n) = true
  | [] => rfl
  | n :: l => by simp [plainL, plain, plainL_ints l]

theorem yield_rep {mo : Option Bool} (p : Int × List Int) : RepL C w σ mo (yieldV p) (yieldC p) := ⟨_, _, rfl, rfl, _, _, rfl, rep_ints p.2, rfl⟩
theorem yield_plain (p : Int × List Int) : (yieldV p).length = 2 ∧ plainL (yieldV p) = true := ⟨rfl, by simp [yieldV, plainL, plain, plainL_ints]⟩

/-- A world in which what is read and what is held lies as it lay. -/
theorem Sim.kept (h : Sim C D outs st a w σ) (hD : a.defers = D) (hs : w.heap.size ≤ w'.heap.size) (hK : ∀ b, C.F b ∨ (C.B ≤ b ∧ b < w.heap.size) → w'.heap[b]? = w.heap[b]?) :
    Sim ⟨C.F, C.B, w', fun _ => False, false⟩ D outs st a w' σ := by
  have hF : ∀ b, b < w.heap.size → (C.B ≤ b ∨ C.F b) → w'.heap[b]? = w.heap[b]? := fun b hb h => hK b (h.elim (fun h => .inr ⟨h, hb⟩) .inl)
  have hok : ∀ t b, okB C w σ t b → okB ⟨C.F, C.B, w', fun _ => False, false⟩ w' σ t b := fun t b hb => ⟨hb.1, Nat.lt_of_lt_of_le hb.2.1 hs, hb.2.2.1, fun e => by
    rw [hF b hb.2.1 (hb.2.2.1.imp_right (·.2))]; exact hb.2.2.2 e⟩
  have hc : ∀ (t : Bool) (b o : Nat), okB C w σ t b → w'.cell? ⟨b, o, none⟩ = w.cell? ⟨b, o, none⟩ := fun t b o hb => cell_of_heap (hF b hb.2.1 (hb.2.2.1.imp_right (·.2))) o
  refine ⟨RepL.mono hok hc (fun _ => rfl) _ h.slots, RepLL.mono hok hc (fun _ => rfl) h.outer, fun id ob hi => ?_, h.dom, h.inj, fun b hb => ⟨(h.held b hb).1, Nat.lt_of_lt_of_le (h.held b hb).2 hs⟩,
    Below.refl _ _, Nat.le_trans h.base hs, h.old, by rw [hD]; exact Still.refl fun b hb => hb.elim⟩
  obtain ⟨loc, hl, hrp, hf⟩ := h.objs id ob hi
  exact ⟨loc, hl, hrp.mono hok hc (fun _ => rfl) (fun b bo es cap app e => by subst e; exact hF b (h.held b ⟨id, bo, es, cap, app, hl⟩).2 (.inl (h.held b ⟨id, bo, es, cap, app, hl⟩).1)), hf⟩

/-- What is read alone goes on being read. -/
theorem Rep.later {F : Nat → Prop} {w0 w0' : World} {Z Z' : Nat → Prop} {v : V} {c : Value} {mk mk' : Bool} (h : Rep ⟨F, w.heap.size, w0, Z, mk⟩ w (fun _ => none) none v c) (hs : w.heap.size ≤ w'.heap.size) (hK : ∀ b, F b → w'.heap[b]? = w.heap[b]?) :
    Rep ⟨F, w'.heap.size, w0', Z', mk'⟩ w' (fun _ => none) none v c := by
  have hF : ∀ t b, okB ⟨F, w.heap.size, w0, Z, mk⟩ w (fun _ => none) t b → t = false ∧ F b := fun t b hb => by
    rcases hb.2.2.1 with h1 | h1
    · have h2 : w.heap.size ≤ b := h1
      have := hb.2.1
      omega
    · exact h1
  exact Rep.mono (σ := fun _ => none) (σ' := fun _ => none) (fun t b hb => ⟨(fun ⟨_, _, _, _, _, hi⟩ => by cases hi), Nat.lt_of_lt_of_le hb.2.1 hs, .inr (hF t b hb), fun e => by rw [(hF t b hb).1] at e; cases e⟩)
    (fun t b o hb => cell_of_heap (hK b (hF t b hb).2) o) (fun _ => rfl) v h

/-- Code runs as the limit says. -/
theorem den_ok {P : Program} {E : Env} {X : Ext} (hE : EnvOk P E) (hX : ExtOk P X) (hm : P.follows .mixedOrders = true) {fc : FC} {base : Nat} {ro : Option Nat} {m : Nat} {c : Code} (hro : ro = none ∧ C.mrk = true ∨ noRange c = true)
    {st' : St} {e : Ex} {Q : Exit → Act → World → Prop} (h : Sim C D outs st a w σ) (hd : den E X fc base c st = some (e, st')) (hQ : ∀ a' w' σ', Sim C D outs st' a' w' σ' → Q (exOf e) a' w') : c.wpIn (W ro) m P Q a w := by
  obtain ⟨n, hn⟩ := den_iff.1 hd
  obtain ⟨k, hk⟩ := ev_fin c hn
  exact ev_ok hE.ty hE.seq (orc_ok hE hX hm k) hm k ro m c hro h hk hQ

/-- A piece of an iterator, from a state without objects: whatever lay lies. -/
theorem piece_ok {P : Program} {E : Env} {X : Ext} (hE : EnvOk P E) (hX : ExtOk P X) (hm : P.follows .mixedOrders = true) {fc : FC} {base : Nat} {ro : Option Nat} {m : Nat} {c : Code} (hro : noRange c = true)
    {st' : St} {e : Ex} {Q : Exit → Act → World → Prop} (h : Sim C [] outs st a w σ) (ha : a.defers = []) (hno : ∀ b, ¬ Held σ b) (hd : den E X fc base c st = some (e, st'))
    (hQ : ∀ a' w' σ', a'.defers = [] → Sim C [] outs st' a' w' σ' → Below w.heap.size w w' → Q (exOf e) a' w') : c.wpIn (W ro) m P Q a w := by
  refine den_ok hE hX hm (.inr hro) (h.focus (a' := a) false rfl) hd fun a' w' σ' h' => ?_
  have hd' : a'.defers = [] := by
    obtain ⟨ms, h1, h2, _⟩ := h'.still.marks
    rcases h2 with rfl | h2
    · rw [h1, ha]; rfl
    · cases h2
  exact hQ a' w' σ' hd' (h'.back h.below h.still rfl (by rw [hd', ha])) ⟨h'.below.os, h'.below.tape, h'.below.output, h'.below.size, fun k hk => (h'.still.zed k ⟨hk, hno k⟩).2.2⟩


/-- Operations that only hand back values, one after another. -/
def evVals (E : Env) (fc : FC) : List Oper → St → Option St
  | [], st => some st
  | o :: r, st => match o.guard with
    | none => match evVal E fc o st with
      | some v => evVals E fc r (st.put o.dst v)
      | none => none
    | some _ => none

theorem val_ok {P : Program} {E : Env} (hT : TyOk P E) {fc : FC} {o : Oper} {v : V} {ro : Option Nat} {m : Nat} {K : Act → World → Prop} {Q : Exit → Act → World → Prop} (h : Sim C D outs st a w σ) (he : evVal E fc o st = some v)
    (hK : ∀ a', a'.defers = a.defers → Sim C D outs (st.put o.dst v) a' w σ → K a' w) : o.wpIn (W ro) m P a w K Q := by
  obtain ⟨c, h1, h2⟩ := evVal_ok hT h he
  refine wpIn_of_ran (fun c e => ?_) (.inl h1) (hK _ (by cases o.dst <;> rfl) (h.put h2))
  unfold evVal at he
  rw [e] at he
  cases he

theorem vals_ok {P : Program} {E : Env} (hT : TyOk P E) {fc : FC} {all : Array Oper} {ro : Option Nat} {m : Nat} {Q : Exit → Act → World → Prop} {st' : St} {rest : List Nat}
    (hQ : ∀ a', a'.defers = a.defers → Sim C D outs st' a' w σ → wpOpsIn (W ro) m P all Q rest a' w) :
    ∀ (k : Nat) (ops : List Oper) {st : St} {a1 : Act}, (∀ i o, ops[i]? = some o → all[k + i]? = some o) → a1.defers = a.defers → Sim C D outs st a1 w σ → evVals E fc ops st = some st' →
      wpOpsIn (W ro) m P all Q (List.range' k ops.length ++ rest) a1 w
  | k, [], st, a1, _, hd, h, he => by
    simp only [evVals] at he; cases he
    exact hQ _ hd h
  | k, o :: ops, st, a1, hi, hd, h, he => by
    have hk : all[k]? = some o := hi 0 o rfl
    have hi' : ∀ i o', ops[i]? = some o' → all[k + 1 + i]? = some o' := fun i o' ho => by have := hi (i + 1) o' (by simpa using ho); rw [← this]; congr 1; omega
    simp only [evVals] at he
    rw [List.length_cons, List.range'_succ, List.cons_append]
    simp only [wpOpsIn, hk]
    split at he
    case h_2 => cases he
    rename_i hg
    split at he
    case h_2 => cases he
    rename_i v hv
    rw [if_pos (by unfold Region.wanted; rw [hg])]
    exact val_ok hT h hv fun a' hd' h' => vals_ok hT hQ (k + 1) ops hi' (hd'.trans hd) h' he

theorem vals_pre {P : Program} {E : Env} (hT : TyOk P E) {fc : FC} {all : Array Oper} {ro : Option Nat} {m : Nat} {Q : Exit → Act → World → Prop} {st' : St} (n : Nat) (rest : List Nat) (hn : (all.toList.take n).length = n) (h : Sim C D outs st a w σ)
    (he : evVals E fc (all.toList.take n) st = some st') (hQ : ∀ a', a'.defers = a.defers → Sim C D outs st' a' w σ → wpOpsIn (W ro) m P all Q rest a' w) : wpOpsIn (W ro) m P all Q (List.range' 0 n ++ rest) a w := by
  have := vals_ok (m := m) (ro := ro) (all := all) (rest := rest) hT hQ 0 (all.toList.take n) (fun i o ho => by
    rw [List.getElem?_take] at ho
    split at ho
    · simpa using ho
    · cases ho) rfl h he
  rwa [hn] at this

theorem region_vals {P : Program} {E : Env} (hT : TyOk P E) {fc : FC} {id : Nat} {ops : Array Oper} {ro : Option Nat} {m : Nat} {Q : Exit → Act → World → Prop} {st' : St} (h : Sim C D outs st a w σ) (he : evVals E fc ops.toList st = some st')
    (hQ : ∀ a', a'.defers = a.defers → Sim C D outs st' a' w σ → Q .normal a' w) : (Code.region id ops false).wpIn (W ro) m P Q a w := by
  have := vals_ok (m := m) (ro := ro) (all := ops) (rest := []) hT hQ 0 ops.toList (fun i o ho => by simpa using ho) rfl h he
  rw [Array.length_toList, List.append_nil] at this
  exact wpIn_region (by rw [List.range_eq_range']; exact this)

theorem Sim.empty (h : Sim C D outs st a w σ) (ho : st.objs = []) : ∀ b, ¬ Held σ b := fun b ⟨id, bo, es, cap, app, hi⟩ => by
  rw [h.dom id (by rw [ho]; rfl)] at hi
  cases hi

theorem RepL.relit {mo : Option Bool} {vs : List V} {ds : List Value} (i : Nat) {v : V} (h : RepL C w σ mo vs ds) (hv : vs[i]? = some v) (h1 : ∀ d, Rep C w σ mo v d → d.oneCell' = true) :
    ∃ d, ds[i]? = some d ∧ Rep C w σ mo v d ∧ RepL C w σ mo (vs.set i (.lit d)) ds := by
  obtain ⟨d, hd, hr⟩ := RepL.get i h hv
  refine ⟨d, hd, hr, ?_⟩
  have h2 := RepL.set i h (v := .lit d) (d := d) ⟨rfl, h1 d hr⟩
  obtain ⟨hlt, he⟩ := List.getElem?_eq_some_iff.1 hd
  rwa [show ds.set i d = ds by rw [← he]; simp] at h2

/-- A call of yield. -/
theorem yieldOp_ok {P : Program} {o : Oper} {c : Call} {f : Operand} {m l : Nat} {K : Act → World → Prop} {Q : Exit → Act → World → Prop} {args : Array Value} {R : Ending → World → Prop} (ho : o.op = .call c) (hc : c.callee = .value f)
    (hf : a.eval f = .func (.yield l) #[] #[]) (ha : c.args.map a.eval = args) (hy : YieldAt Fence.wide (m - 1) P l args w R) (hK : ∀ e w', R e w' → ∃ v, e = .returned v ∧ K (a.put o.dst v) w') : o.wpIn (W none) m P a w K Q := by
  obtain ⟨fn, tmps, assign, body, h1, h2⟩ := hy
  refine ⟨fun _ _ => trivial, ?_⟩
  rw [semAt_call (ro := none) (fun c e => by rw [ho] at e; cases e)]
  have hrun : (execOp a.eval o).run P w = .ok (.round l fn tmps assign body) w := by
    unfold execOp
    rw [ho]
    simp only [_root_.Go.resolve, hc, hf, Deferred.ofValue, Sem.run_bind, Sem.run_pure, Result.andThen_ok, invoke, Array.empty_append, Array.append_empty, ha]
    exact h1
  rw [hrun]
  refine ⟨fun hh => by simp [W, Fence.wide] at hh, ?_⟩
  refine h2.mono fun e w' he => ?_
  obtain ⟨v, rfl, hk⟩ := hK e w' he
  exact hk


theorem RepL.undefs {mo : Option Bool} : ∀ k, RepL C w σ mo (List.replicate k .und) (List.replicate k undef)
  | 0 => rfl
  | k + 1 => ⟨undef, List.replicate k undef, rfl, rfl, RepL.undefs k⟩


/-- A loop that is gone round at most n times. -/
theorem wpIn_loop_upto {F : Fence} {m : Nat} {P : Program} {c : Code} {Q : Exit → Act → World → Prop} (n : Nat) (I : Nat → Act → World → Prop) (h0 : I 0 a w)
    (h : ∀ i a w, i ≤ n → I i a w → c.wpIn F m P (Exit.then (fun a' w' => i < n ∧ I (i + 1) a' w') Q) a w) : (Code.loop c).wpIn F m P Q a w := by
  refine wpIn_loop_rounds (n + 1) ?_
  have key : ∀ (k i : Nat) (a : Act) (w : World), n + 1 - i ≤ k → i ≤ n → I i a w → Code.roundsIn F m P c Q k a w := by
    intro k
    induction k with
    | zero => intro i a w hk hi; omega
    | succ k ih =>
      intro i a w hk hi hI
      rw [roundsIn_succ]
      refine wpIn_mono (h i a w hi hI) fun e a' w' hq => ?_
      cases e with
      | normal => exact ih (i + 1) a' w' (by omega) (by have := hq.1; omega) hq.2
      | _ => exact hq
  exact key (n + 1) 0 a w (by omega) (Nat.zero_le _) h0


/-- A slice of plain elements that is only read. -/
theorem sl_later {C' : Cx} {σ' : Places} {t : Bool} {vs : List V} {c : Value} (hp : plainL vs = true) (h : Rep C w σ none (.sl t vs) c) (hok : ∀ b, okB C w σ t b → okB C' w' σ' false b)
    (hc : ∀ b, okB C w σ t b → w'.heap[b]? = w.heap[b]?) : Rep C' w' σ' none (.sl false vs) c := by
  obtain ⟨hf, a, cap, rfl, hle, hv⟩ := h
  refine ⟨hf, a, cap, rfl, hle, ?_⟩
  rcases hv with hv | ⟨b, off, es, ds, rfl, hb, hl, hw, hes, hlie⟩
  · exact .inl hv
  · exact .inr ⟨b, off, es, ds, rfl, hok b hb, RepL.plain vs hp hl, hw, hes, hlie.mono fun o => cell_of_heap (hc b hb) o⟩

theorem spansOf_plain : ∀ {vs : List V} {at_ : Int} {q : List (Int × List Int)}, spansOf at_ vs = some q → plainL vs = true
  | [], _, _, _ => rfl
  | v :: vs, at_, q, h => by
    unfold spansOf at h
    split at h
    · rename_i heq; cases heq
    · rename_i cs vs' heq
      simp only [List.cons.injEq] at heq
      obtain ⟨rfl, rfl⟩ := heq
      split at h
      · rename_i l x y z hi
        split at h
        · rename_i q' hq
          have := spansOf_plain hq
          rw [intsOf_eq hi]
          simp [plainL, plain, this]
        · cases h
      · cases h
    · cases h

end
end Go.AM
