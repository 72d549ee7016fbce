/-
The abstract machine on functions: right.
-/
import Derived.Test.YtdipdaajicceoaaAmEv
namespace Go.AM
open Go Go.RowKit

/-- The environment names the program's functions. -/
structure EnvOk (P : Program) (E : Env) : Prop where
  ty : TyOk P E
  fn : ∀ f fn, E.fn f = some fn → P.funcs[f]? = some fn ∧ (fn.name == "runtime.NumGoroutine") = false
  seq : SeqsOk P E

section
variable {P : Program} {E : Env} {O : Orc} {C : Cx} {D : List Deferred} {outs : List (List Value)} {st st' : St} {a : Act} {w : World} {σ : Places} {m : Nat}

theorem loadVar_of_at {t : TypeId} {p v : Value} (h : (Instr.loadAt t p).run P w = .ok v w) : (do loadVar t (← asAddr p) : Sem Value).run P w = .ok v w := by
  unfold Instr.loadAt at h
  cases p with
  | pointer q =>
    cases q with
    | some q => exact h
    | none => simp [Instr.sureAddr] at h
  | _ => simp [Instr.sureAddr] at h

def resRun (tmps : Array Value) : ResultVar → Sem Value
  | .tmp t => pure (tmps.getD t undef)
  | .cell p t => do loadVar t (← asAddr (tmps.getD p undef))

theorem results_run (fn : Func) (tmps : Array Value) : results fn tmps = (do
    let vs ← fn.results.mapM (resRun tmps)
    pure (if h : vs.size = 1 then vs[0] else .tuple vs)) := by
  unfold results resRun
  rfl

theorem resultV_ok (hT : TyOk P E) (h : Sim C D outs st a w σ) {r : ResultVar} {v : V} (he : resultV E st r = some v) :
    ∃ c, (resRun a.tmps r).run P w = .ok c w ∧ Rep C w σ none v c := by
  cases r with
  | tmp t =>
    simp only [resultV, Option.some.injEq] at he
    subst he
    exact ⟨_, by simp [resRun], h.get t⟩
  | cell p t =>
    simp only [resultV] at he
    split at he
    · rename_i ti hti
      obtain ⟨cv, h1, h2⟩ := evLoad_ok hT h hti (h.get p) he
      exact ⟨cv, loadVar_of_at h1, h2⟩
    · cases he

theorem resultVs_ok (hT : TyOk P E) (h : Sim C D outs st a w σ) : ∀ (l : List ResultVar) {vs : List V}, allM (resultV E st) l = some vs →
    ∃ cs, (l.mapM (resRun a.tmps)).run P w = .ok cs w ∧ RepL C w σ none vs cs
  | [], vs, he => by simp only [allM] at he; cases he; exact ⟨[], by simp, rfl⟩
  | r :: l, vs, he => by
    simp only [allM] at he
    split at he
    case h_2 => cases he
    rename_i b hb
    split at he
    case h_2 => cases he
    rename_i bs hbs
    cases he
    obtain ⟨c, h1, h2⟩ := resultV_ok hT h hb
    obtain ⟨cs, h3, h4⟩ := resultVs_ok hT h l hbs
    refine ⟨c :: cs, ?_, c, cs, rfl, h2, h4⟩
    rw [List.mapM_cons]
    simp only [Sem.run_bind, h1, h3, Result.andThen_ok, Sem.run_pure]

theorem results_ok (hT : TyOk P E) (h : Sim C D outs st a w σ) {fn : Func} {v : V} (he : resultsV E fn st = some v) :
    ∃ c, (results fn a.tmps).run P w = .ok c w ∧ Rep C w σ none v c := by
  unfold resultsV at he
  split at he
  case h_3 => cases he
  all_goals
    rename_i hs
    obtain ⟨cs, h1, h2⟩ := resultVs_ok hT h _ hs
    cases he
    rw [results_run, Array.mapM_eq_mapM_toList]
    simp only [map_eq_pure_bind, bind_assoc, pure_bind, Sem.run_bind, h1, Result.andThen_ok, Sem.run_pure]
  · obtain ⟨d, r, rfl, hd, hr⟩ := h2
    simp only [RepL] at hr
    subst hr
    exact ⟨d, by simp, hd⟩
  · rename_i vs hvs
    have hl := h2.length
    have hn : ¬ cs.toArray.size = 1 := fun h' => by
      have : vs.length = 1 := by rw [← hl]; simpa using h'
      match vs, this with
      | [v], _ => exact hvs v rfl
    simp only [dif_neg hn]
    exact ⟨_, rfl, cs, rfl, h2⟩

theorem evFn_callable (hE : EnvOk P E) {n base f : Nat} {args : List V} {r : V} (he : evFn E O n base f args st = some (r, st')) : Callable P f := by
  unfold evFn at he
  split at he
  case h_2 => cases he
  rename_i fn hfn
  split at he
  case h_2 => cases he
  rename_i c hc
  obtain ⟨hP, hname⟩ := hE.fn f fn hfn
  exact ⟨fn, hP, by rw [hc]; rfl, hname⟩

/-- The marks of loops over functions are taken away; then the results are read. -/
theorem leaves_ok {fn : Func} {R : Ending → World → Prop} (h : Sim C [] outs st a w σ) (hR : ∀ w', Sim C [] outs st { a with defers := [] } w' σ → ∃ v, (results fn a.tmps).run P w' = .ok v w' ∧ R (.returned v) w') :
    LeavesInM Fence.wide m P fn a.tmps R a.defers .returning w := by
  obtain ⟨ms, hms, hx, hnd, hm⟩ := h.still.marks
  rw [List.append_nil] at hms
  rw [hms]
  have h0 : Sim C [] outs st { a with defers := [] } w σ := { h with still := Still.refl h.still.zed }
  clear h hms hx
  induction ms generalizing w with
  | nil => exact hR w h0
  | cons d ms ih =>
    obtain ⟨r, rfl, ⟨hB, hZ⟩, hlt, hh, hr⟩ := hm d List.mem_cons_self
    refine ⟨by simp, .inl ⟨r, _, rfl, run_takeDeferred hr, ih (List.nodup_cons.1 hnd).2 (fun d' hd' => ?_) (h0.turn rfl hr rfl rfl hB hZ)⟩⟩
    obtain ⟨r', h1, h2, h3, h4, h5⟩ := hm d' (List.mem_cons_of_mem _ hd')
    refine ⟨r', h1, h2, by rw [World.putObj_size]; exact h3, h4, (World.putObj_heap_other fun e => ?_).trans h5⟩
    subst e
    exact (List.nodup_cons.1 hnd).1 (h1 ▸ hd')

theorem evFn_wp (hE : EnvOk P E) (hO : OrcOk P E O) (hm : P.follows .mixedOrders = true) {n base f : Nat} {args : List V} {cargs : List Value} {r : V}
    (hmk : C.mrk = true) (h : Sim C [] outs { st with slots := [] } ⟨#[], []⟩ w σ) (hr : RepL C w σ none args cargs) (he : evFn E O n base f args st = some (r, st')) :
    Callable P f ∧ CallsIn Fence.wide m P f cargs.toArray w fun e w' => ∃ c a σ', e = .returned c ∧ Sim C [] outs st' a w' σ' ∧ Rep C w' σ' none r c := by
  unfold evFn at he
  split at he
  case h_2 => cases he
  rename_i fn hfn
  split at he
  case h_2 => cases he
  rename_i c hc
  obtain ⟨hP, hname⟩ := hE.fn f fn hfn
  refine ⟨⟨fn, hP, by rw [hc]; rfl, hname⟩, callsIn_of_wp_marks hP hc trivial ?_⟩
  have h1 : Sim C [] outs { st with slots := args ++ List.replicate (fn.ntmps - args.length) .und } { tmps := cargs.toArray ++ Array.replicate (fn.ntmps - cargs.toArray.size) undef, defers := [] } w σ := by
    refine { h with slots := ?_, still := h.still }
    simp only [Array.toList_append, Array.toList_replicate, List.size_toArray]
    refine RepL.app hr ?_
    rw [hr.length]
    generalize fn.ntmps - args.length = k
    induction k with
    | zero => rfl
    | succ k ih => exact ⟨_, _, by rw [List.replicate_succ], rfl, ih⟩
  have fin : ∀ (e : Ex) (s : St), ev E O (E.fc f) base n c { st with slots := args ++ List.replicate (fn.ntmps - args.length) .und } = some (e, s) → (e = .normal ∨ e = .ret) → resultsV E fn s = some r → s = st' →
      c.wpIn Fence.wide m P (bodyPostM Fence.wide m P fn fun e w' => ∃ c a σ', e = .returned c ∧ Sim C [] outs st' a w' σ' ∧ Rep C w' σ' none r c) { tmps := cargs.toArray ++ Array.replicate (fn.ntmps - cargs.toArray.size) undef, defers := [] } w := by
    rintro e s hev hex hres rfl
    refine ev_ok hE.ty hE.seq hO hm n none m c (.inl ⟨rfl, hmk⟩) h1 hev fun a' w' σ' h' => ?_
    have key := leaves_ok (fn := fn) (m := m) h' (R := fun e w' => ∃ c a σ', e = .returned c ∧ Sim C [] outs s a w' σ' ∧ Rep C w' σ' none r c) fun w2 h2 => by
      obtain ⟨cv, h3, h4⟩ := results_ok hE.ty h2 hres
      exact ⟨cv, h3, cv, _, σ', rfl, h2, h4⟩
    rcases hex with rfl | rfl
    · exact key
    · exact key
  split at he
  · rename_i s hs
    split at he
    · rename_i r' hr'
      cases he
      exact fin _ _ hs (.inl rfl) hr' rfl
    · cases he
  · rename_i s hs
    split at he
    · rename_i r' hr'
      cases he
      exact fin _ _ hs (.inr rfl) hr' rfl
    · cases he
  · cases he

/-- What is known of functions that are not run here holds. -/
structure ExtOk (P : Program) (X : Ext) : Prop where
  call : ∀ g args r, X.call g args = some r → CallOk P g args r
  inl : ∀ base g args st r st', X.inl base g args st = some (r, st') → InlOk P g args st r st'

theorem orc_ok (hE : EnvOk P E) {X : Ext} (hX : ExtOk P X) (hm : P.follows .mixedOrders = true) : ∀ n, OrcOk P E (orc E X n)
  | 0 => ⟨hX.call, hX.inl⟩
  | n + 1 => by
    have ih := orc_ok hE hX hm n
    refine ⟨fun g args r h => ?_, fun base g args st r st' h => ?_⟩
    · simp only [orc] at h
      split at h
      · rename_i r' hr'
        cases h
        exact hX.call g args r hr'
      · split at h
        case h_2 => cases h
        rename_i r' s hs
        have main : ∀ (m : Nat) (w : World) (Fo : Nat → Prop) (cargs : List Value), (∀ b, Fo b → b < w.heap.size) →
            RepL ⟨Fo, w.heap.size, w, fun _ => False, true⟩ w (fun _ => none) none args cargs →
            Callable P g ∧ CallsIn Fence.wide m P g cargs.toArray w fun e w' => ∃ c a σ', e = .returned c ∧ Sim ⟨Fo, w.heap.size, w, fun _ => False, true⟩ [] [] s a w' σ' ∧ Rep ⟨Fo, w.heap.size, w, fun _ => False, true⟩ w' σ' none r' c := by
          intro m w Fo cargs hFo hr
          refine evFn_wp (st := { slots := [], outer := [], objs := [] }) hE ih hm rfl ?_ hr hs
          refine ⟨rfl, rfl, ?_, fun _ _ => rfl, ?_, ?_, Below.refl _ _, Nat.le_refl _, hFo, Still.refl fun _ hb => hb.elim⟩
          · intro id ob h; simp [look] at h
          · intro i j b bo es cap app bo' es' cap' app' h; cases h
          · rintro b ⟨id, bo, es, cap, app, h⟩; cases h
        refine ⟨evFn_callable hE hs, fun m w Fo cargs hFo hr => ?_⟩
        · refine (main m w Fo cargs hFo hr).2.mono fun e w' he => ?_
          obtain ⟨c, a, σ', rfl, h1, h2⟩ := he
          have hok : ∀ t b, okB ⟨Fo, w.heap.size, w, fun _ => False, true⟩ w' σ' t b → okB ⟨Fo, w.heap.size, w, fun _ => False, true⟩ w' (fun _ => none) t b :=
            fun t b hb => ⟨(fun ⟨_, _, _, _, _, hi⟩ => by cases hi), hb.2⟩
          obtain ⟨h3, h4⟩ := (resolve_ok (C' := ⟨Fo, w.heap.size, w, fun _ => False, true⟩) (σ' := fun _ => none) h1 (reach s.objs depth (ids r')) hok
            (fun id _ b bo es cap app hl => ⟨fun ⟨_, _, _, _, _, hi⟩ => by (cases hi), (h1.held b ⟨id, bo, es, cap, app, hl⟩).2, .inl (h1.held b ⟨id, bo, es, cap, app, hl⟩).1, fun _ => h1.unfrozen hl⟩) depth).1
            r' c r h2 (fun i hi => hi) h
          exact ⟨c, rfl, h1.below, h3, h4⟩
    · simp only [orc] at h
      split at h
      · rename_i r' hr'
        cases h
        exact hX.inl base g args st r st' hr'
      · refine ⟨evFn_callable hE h, fun m C outs w σ cargs hmk h1 h2 => ?_⟩
        · refine (evFn_wp hE ih hm hmk h1 h2 h).2.mono fun e w' he => ?_
          obtain ⟨c, a, σ', rfl, h3, h4⟩ := he
          exact ⟨c, σ', rfl, { h3 with slots := rfl, still := Still.refl h3.still.zed }, h4⟩

end
end Go.AM
