/-
The abstract machine on calls and on regions in the order of the text: right.
-/
import Derived.Test.YtdipdaajicceoaaAmCode
import Derived.Test.YtdipdaajicceoaaAmOpsG
import Derived.LoopNIn
import Derived.RangeFuncOwn
namespace Go.AM
open Go Go.RowKit

def W (ro : Option Nat) : Fence := { Fence.wide with round := ro }

theorem room_W (ro : Option Nat) (n : Nat) : (W ro).room n := fun _ h => by simp [W, Fence.wide] at h

/-- A function with a body, that a call enters. -/
def Callable (P : Program) (g : Nat) : Prop := ∃ fn, P.funcs[g]? = some fn ∧ fn.body.isNone = false ∧ (fn.name == "runtime.NumGoroutine") = false

/-- A call hands back what the abstract machine says; nothing that lay has turned. -/
def CallOk (P : Program) (g : Nat) (args : List V) (r : V) : Prop := Callable P g ∧ ∀ (m : Nat) (w : World) (Fo : Nat → Prop) (cargs : List Value), (∀ b, Fo b → b < w.heap.size) →
  RepL ⟨Fo, w.heap.size, w, fun _ => False, true⟩ w (fun _ => none) none args cargs →
  CallsIn Fence.wide m P g cargs.toArray w fun e w' => ∃ c, e = .returned c ∧ Below w.heap.size w w' ∧ Rep ⟨Fo, w.heap.size, w, fun _ => False, true⟩ w' (fun _ => none) none r c ∧ refFree r = true

/-- A call that works on its caller's objects. -/
def InlOk (P : Program) (g : Nat) (args : List V) (st : St) (r : V) (st' : St) : Prop := Callable P g ∧ ∀ (m : Nat) (C : Cx) (outs : List (List Value)) (w : World) (σ : Places) (cargs : List Value), C.mrk = true →
  Sim C [] outs { st with slots := [] } ⟨#[], []⟩ w σ → RepL C w σ none args cargs →
  CallsIn Fence.wide m P g cargs.toArray w fun e w' => ∃ c σ', e = .returned c ∧ Sim C [] outs { st' with slots := [] } ⟨#[], []⟩ w' σ' ∧ Rep C w' σ' none r c

/-- The rounds of a loop over a function, from the iterator's side: how J stands between two of them, K is what they leave as it lies. -/
structure Rounds (P : Program) (m l : Nat) (yss : List (List Value)) (J : Nat → (Nat → Prop) → World → Prop) (Jx : World → Prop) : Prop where
  grow : ∀ i K A B, J i K A → Below A.heap.size A B → J i (fun b => K b ∨ (A.heap.size ≤ b ∧ b < B.heap.size)) B
  stop : ∀ A B, Jx A → Below A.heap.size A B → Jx B
  yield : ∀ i ys K A, J i K A → yss[i]? = some ys → YieldAt Fence.wide m P l ys.toArray A fun e B =>
    (e = .returned (.bool true) ∧ J (i + 1) K B ∧ A.heap.size ≤ B.heap.size ∧ ∀ b, K b → B.heap[b]? = A.heap[b]?) ∨ (e = .returned (.bool false) ∧ Jx B)

/-- A function that is ranged over yields these. -/
def SeqOk (P : Program) (f k : Nat) (args : List V) (xss : List (List V)) : Prop := Callable P f ∧ (∀ xs ∈ xss, xs.length = k ∧ plainL xs = true) ∧
  ∀ (m : Nat) (w : World) (Fo : Nat → Prop) (cargs : List Value), (∀ b, Fo b → b < w.heap.size) → RepL ⟨Fo, w.heap.size, w, fun _ => False, true⟩ w (fun _ => none) none args cargs →
    ∃ yss : List (List Value), yss.length = xss.length ∧ (∀ (i : Nat) xs ys, xss[i]? = some xs → yss[i]? = some ys → RepL ⟨Fo, w.heap.size, w, fun _ => False, true⟩ w (fun _ => none) none xs ys) ∧
      ∀ (l : Nat) (J : Nat → (Nat → Prop) → World → Prop) (Jx : World → Prop) (W : World), Below w.heap.size w W → Rounds P (m - 1) l yss J Jx → J 0 Fo W →
        CallsIn Fence.wide m P f (#[.func (.yield l) #[] #[]] ++ cargs.toArray) W fun e W' => (∃ v, e = .returned v) ∧ ((∃ K, J yss.length K W') ∨ Jx W')

def SeqsOk (P : Program) (E : Env) : Prop := ∀ f as k xss, E.seq f as = some (k, xss) → SeqOk P f k as xss

structure OrcOk (P : Program) (E : Env) (O : Orc) : Prop where
  call : ∀ g args r, O.call g args = some r → CallOk P g args r
  inl : ∀ base g args st r st', O.inl base g args st = some (r, st') → InlOk P g args st r st'

section
variable {P : Program} {E : Env} {O : Orc} {C : Cx} {D : List Deferred} {outs : List (List Value)} {st st' : St} {a : Act} {w : World} {σ : Places} {ro : Option Nat} {m : Nat} {Q : Exit → Act → World → Prop}

theorem semAt_call {o : Oper} (hd : ∀ c, o.op ≠ .defer c) : Oper.semAt (W ro).round a.eval o = execOp a.eval o := Oper.semAt_eq _ _ _ hd

theorem wpIn_of_ran {o : Oper} {K : Act → World → Prop} {w' : World} {c : Value} (hd : ∀ c, o.op ≠ .defer c) (hr : Ran P o a w w' c) (h : K (a.put o.dst c) w') : o.wpIn (W ro) m P a w K Q := by
  refine ⟨fun _ _ => trivial, ?_⟩
  rw [semAt_call hd]
  rcases hr with hr | ⟨hr, rfl⟩
  · rw [hr]; exact h
  · rw [hr]; exact h

theorem Below.sim_old {C : Cx} {w w' : World} (h : Below C.B C.w0 w) (hb : C.B ≤ w.heap.size) (h2 : Below w.heap.size w w') : Below C.B C.w0 w' := h.trans (h2.mono hb)

theorem repL_app_split : True := trivial

theorem execOp_call {o : Oper} {c : Call} {f : Operand} (ho : o.op = .call c) (hc : c.callee = .value f) {g : Nat} {first cap : Array Value} (hf : a.eval f = .func (.func g) first cap) (hg : Callable P g) :
    (execOp a.eval o).run P w = .ok (.enter g (first ++ c.args.map a.eval ++ cap)) w := by
  obtain ⟨fn, h1, h2, h3⟩ := hg
  unfold execOp
  rw [ho]
  simp only [_root_.Go.resolve, hc, hf, Deferred.ofValue, Sem.run_bind, Sem.run_pure, Result.andThen_ok, invoke, callFunc, run_program, h1, h3, Bool.false_eq_true, if_false, h2]

/-- The objects that are named by what is lent, and what else is only read, are old for the callee. -/
theorem lend_ok (h : Sim C D outs st a w σ) {args as' : List V} {cargs : List Value} (hr : RepL C w σ none args cargs) (he : lend st args = some as') :
    ∃ Fo : Nat → Prop, (∀ b, Fo b → b < w.heap.size) ∧ RepL ⟨Fo, w.heap.size, w, fun _ => False, true⟩ w (fun _ => none) none as' cargs ∧ refFreeL as' = true ∧
      (∀ b, Fo b → (¬ Held σ b ∧ (C.B ≤ b ∨ C.F b)) ∨ ∃ id ∈ reach st.objs depth (idsL args), ∃ bo es cap app, σ id = some (.blk b bo es cap app)) := by
  unfold lend at he
  obtain ⟨as2, h2, rfl⟩ := Option.map_eq_some_iff.1 he
  let Fo : Nat → Prop := fun b => b < w.heap.size ∧ ((¬ Held σ b ∧ (C.B ≤ b ∨ C.F b)) ∨ ∃ id ∈ reach st.objs depth (idsL args), ∃ bo es cap app, σ id = some (.blk b bo es cap app))
  have : ∃ σ1 : Places, ∀ b, Held σ1 b ↔ ¬ Fo b := by
    classical
    refine ⟨fun b => if Fo b then none else some (.blk b 0 0 0 false), fun b => ⟨?_, fun hb => ⟨b, 0, 0, 0, false, if_neg hb⟩⟩⟩
    rintro ⟨id, bo, es, cap, app, hi⟩ hb
    dsimp only at hi
    split at hi
    · cases hi
    · rename_i hn; cases hi; exact hn hb
  obtain ⟨σ1, hσ1⟩ := this
  have ok1 : ∀ b, b < w.heap.size → Fo b → ∀ t, (t = true → ∃ cur e, w.heap[b]? = some (.cells cur e (0, 0))) → okB ⟨Fo, 0, w, fun _ => False, true⟩ w σ1 t b := fun b hb hF t hu => ⟨fun hh => (hσ1 b).1 hh hF, hb, .inl (Nat.zero_le _), hu⟩
  obtain ⟨h3, h4⟩ := (resolve_ok (C' := ⟨Fo, 0, w, fun _ => False, true⟩) (σ' := σ1) h (reach st.objs depth (idsL args))
    (fun t b hb => ok1 b hb.2.1 ⟨hb.2.1, .inl ⟨hb.1, by rcases hb.2.2.1 with h | h; exact .inl h; exact .inr h.2⟩⟩ t hb.2.2.2)
    (fun id hid b bo es cap app hl => ok1 b (h.held b ⟨id, bo, es, cap, app, hl⟩).2 ⟨(h.held b ⟨id, bo, es, cap, app, hl⟩).2, .inr ⟨id, hid, bo, es, cap, app, hl⟩⟩ true (fun _ => h.unfrozen hl)) depth).2
    args cargs as2 hr (fun i hi => hi) h2
  have h5 := RepL.into (m := none) false as2 (by simp) (by simp) h3
  have h6 : RepL ⟨Fo, w.heap.size, w, fun _ => False, true⟩ w (fun _ => none) (some false) as2 cargs := RepL.any (fun b hb => by
    have hF : Fo b := Classical.byContradiction fun hn => hb.1 ((hσ1 b).2 hn)
    exact ⟨(fun ⟨_, _, _, _, _, hi⟩ => by cases hi), hb.2.1, .inr ⟨rfl, hF⟩, fun e => by cases e⟩) (fun _ _ _ => rfl) as2 h4 h5
  exact ⟨Fo, fun b hb => hb.1, RepL.outOf false as2 h6, by rw [refFreeL_retag]; exact h4, fun b hb => hb.2⟩

theorem upon_returned {F : Fence} {n : Nat} {g : Nat} {args : Array Value} {R : Ending → World → Prop} {K : Act → World → Prop} {o : Oper} (h : CallsIn F n P g args w R)
    (hr : ∀ e w', R e w' → ∃ c, e = .returned c ∧ K (a.put o.dst c) w') :
    CallsIn F n P g args w fun
      | .returned v, w'' => K (a.put o.dst v) w''
      | .panicked chain, w'' => Q (.panic chain) a w''
      | .outgrown, _ => LetsOut Q := h.mono fun e w' he => by
  obtain ⟨c, rfl, hk⟩ := hr e w' he
  exact hk

mutual
theorem Rep.plain {C C' : Cx} {w w' : World} {σ σ' : Places} {m m' : Option Bool} : ∀ (v : V) {c : Value}, plain v = true → Rep C w σ m v c → Rep C' w' σ' m' v c
  | .int .., _, _, h => h
  | .bool _, _, _, h => h
  | .lit _, _, _, h => h
  | .agg cs, _, hp, h => by
    simp only [Rep, AM.plain] at h hp ⊢
    obtain ⟨ds, rfl, hl, h1⟩ := h
    exact ⟨ds, rfl, RepL.plain cs hp hl, h1⟩
  | .tup cs, _, hp, h => by
    simp only [Rep, AM.plain] at h hp ⊢
    obtain ⟨ds, rfl, hl⟩ := h
    exact ⟨ds, rfl, RepL.plain cs hp hl⟩
  | .junk, _, _, _ => trivial
  | .und, _, hp, _ => by simp [AM.plain] at hp
  | .sl .., _, hp, _ => by simp [AM.plain] at hp
  | .emp, _, hp, _ => by simp [AM.plain] at hp
  | .fp .., _, hp, _ => by simp [AM.plain] at hp
  | .own .., _, hp, _ => by simp [AM.plain] at hp
  | .ptr .., _, hp, _ => by simp [AM.plain] at hp
  | .clo .., _, hp, _ => by simp [AM.plain] at hp
theorem RepL.plain {C C' : Cx} {w w' : World} {σ σ' : Places} {m m' : Option Bool} : ∀ (vs : List V) {ds : List Value}, plainL vs = true → RepL C w σ m vs ds → RepL C' w' σ' m' vs ds
  | [], _, _, h => h
  | v :: vs, _, hp, h => by
    simp only [RepL, AM.plainL, Bool.and_eq_true] at h hp ⊢
    obtain ⟨d, r, rfl, hd, hr⟩ := h
    exact ⟨d, r, rfl, Rep.plain v hp.1 hd, RepL.plain vs hp.2 hr⟩
end

/-- A new slice that nobody else reads becomes an object. -/
theorem thaw_one (h : Sim C D outs st a w σ) {w' : World} (hbel : Below w.heap.size w w') {Fo : Nat → Prop} {vs : List V} {cv : Value} {id es : Nat}
    (hrep : Rep ⟨Fo, w.heap.size, w, fun _ => False, true⟩ w' (fun _ => none) none (.sl true vs) cv) (hp : plainL vs = true) (hs : sized es vs = true) (hes : 0 < es) :
    ∃ σ', Sim C D outs (st.alloc id { es := es, flat := true, t := true, app := false, elems := vs }) a w' σ' ∧ Rep C w' σ' none (.own id 0 vs.length) cv := by
  obtain ⟨hf, p, cap, rfl, hle, hv⟩ := hrep
  rcases hv with rfl | ⟨b, off, es', ds, rfl, hb, hl, hw, hes', hlie⟩
  · refine ⟨_, h.alloc id (.virt false) hbel (fun _ _ _ _ _ e => by cases e) _ ⟨rfl, rfl, hes⟩ (fun _ => rfl), ?_⟩
    simp only [Rep, setP_same]
    exact ⟨trivial, rfl, p, cap, rfl, fun e => by cases e⟩
  · rcases Nat.eq_zero_or_pos ds.length with h0 | h0
    · have hvs : vs = [] := List.eq_nil_of_length_eq_zero (by rw [← hl.length, h0])
      subst hvs
      refine ⟨_, h.alloc id (.virt false) hbel (fun _ _ _ _ _ e => by cases e) _ ⟨rfl, rfl, hes⟩ (fun _ => rfl), ?_⟩
      simp only [Rep, setP_same]
      exact ⟨trivial, rfl, _, cap, rfl, fun e => by cases e⟩
    · have hee : es' = es := by
        have hm : ds[0]'h0 ∈ ds := List.getElem_mem _
        exact (hw _ hm).1.symm.trans (sized_wf hs hl _ hm).1
      subst hee
      obtain ⟨cur, e, hg⟩ := hb.2.2.2 rfl
      have hwb : w.heap.size ≤ b := by
        rcases hb.2.2.1 with h3 | h3
        · exact h3
        · cases h3.1
      refine ⟨_, h.alloc id (.blk b off es' 0 false) hbel (fun b' bo es cap app e => by cases e; exact ⟨hwb, hb.2.1⟩) _ ?_ (fun _ => hf), ?_⟩
      · refine ⟨rfl, hes, rfl, cur, e, ds, hg, RepL.plain vs hp hl, hw, fun i d r u hd hu => ?_, fun e => by cases e⟩
        have := hlie i d r u hd hu
        rw [cell_of_row w' b _ cur e (0, 0) hg] at this
        simpa using this
      · simp only [Rep, setP_same]
        exact ⟨_, cap, rfl, hle, .inr ⟨by simp, fun e => by cases e⟩⟩

theorem evCall_ok (hO : OrcOk P E O) {fc : FC} {base : Nat} (h : Sim C D outs st a w σ) {o : Oper} {c : Call} {f : Operand} (ho : o.op = .call c) (hc : c.callee = .value f)
    (he : evCall E O fc base o.dst (st.eval f) (c.args.toList.map st.eval) st = some st') {K : Act → World → Prop} (hK : ∀ a' w' σ', Sim C D outs st' a' w' σ' → K a' w') :
    o.wpIn (W ro) m P a w K Q := by
  have hd : ∀ c, o.op ≠ .defer c := fun c e => by rw [ho] at e; cases e
  have hf := h.eval f
  unfold evCall at he
  split at he
  case h_2 => cases he
  rename_i g first cap hfe
  rw [hfe] at hf
  obtain ⟨fa, fb, hfv, hfa, hfb⟩ := hf
  have hargs : RepL C w σ none (first ++ c.args.toList.map st.eval ++ cap) (fa ++ c.args.toList.map a.eval ++ fb) := (hfa.app (repL_eval h _)).app hfb
  have harr : (fa ++ c.args.toList.map a.eval ++ fb).toArray = fa.toArray ++ c.args.map a.eval ++ fb.toArray := by
    apply Array.toList_inj.1; simp
  have enter : ∀ {R : Ending → World → Prop}, Callable P g → CallsIn Fence.wide (m - 1) P g (fa ++ c.args.toList.map a.eval ++ fb).toArray w R → (∀ e w', R e w' → ∃ c, e = .returned c ∧ K (a.put o.dst c) w') → o.wpIn (W ro) m P a w K Q := by
    intro R hg hcall hr
    refine ⟨fun _ _ => trivial, ?_⟩
    rw [semAt_call hd, execOp_call ho hc hfv hg, ← harr]
    refine ⟨fun hh => by simp [W, Fence.wide] at hh, ?_⟩
    exact upon_returned (F := W ro) hcall hr
  dsimp only at he
  split at he
  · -- on the caller's objects
    split at he
    case h_2 => cases he
    rename_i r s hinl
    split at he
    case h_2 => cases he
    rename_i sl out hout
    cases he
    obtain ⟨hg, hcall⟩ := hO.inl _ _ _ _ _ _ hinl
    have hf1 : Sim (C.at w σ true) a.defers outs st a w σ := h.focus true rfl
    have hsim : Sim (C.at w σ true) [] (a.tmps.toList :: outs) { st with slots := [], outer := st.slots :: st.outer } ⟨#[], []⟩ w σ :=
      ⟨rfl, ⟨_, _, rfl, hf1.slots, hf1.outer⟩, hf1.objs, hf1.dom, hf1.inj, hf1.held, hf1.below, hf1.base, hf1.old, Still.refl hf1.still.zed⟩
    refine enter hg (hcall (m - 1) (C.at w σ true) _ w σ _ rfl hsim (hargs.at (C := C))) ?_
    rintro e w' ⟨cv, σ', rfl, hs', hrep⟩
    refine ⟨cv, rfl, hK _ _ σ' ?_⟩
    have hso := hs'.outer
    rw [hout] at hso
    obtain ⟨d, q, hdq, hsl, hot⟩ := hso
    simp only [List.cons.injEq] at hdq
    obtain ⟨rfl, rfl⟩ := hdq
    have hs1 : Sim (C.at w σ true) a.defers outs { s with slots := sl, outer := out } a w' σ' := ⟨hsl, hot, hs'.objs, hs'.dom, hs'.inj, hs'.held, hs'.below, hs'.base, hs'.old, Still.refl hs'.still.zed⟩
    have hs2 : Sim C D outs { s with slots := sl, outer := out } a w' σ' := hs1.back h.below h.still rfl rfl
    exact hs2.put hrep.of_at
  · split at he
    case h_2 => cases he
    rename_i as' hlend
    split at he
    case h_2 => cases he
    rename_i r hcallr
    split at he
    case isFalse => cases he
    rename_i hrf
    obtain ⟨hg, hcall⟩ := hO.call _ _ _ hcallr
    obtain ⟨Fo, hFo, hrep', hrf', hFo2⟩ := lend_ok h hargs hlend
    refine enter hg (hcall (m - 1) w Fo _ hFo hrep') ?_
    rintro e w' ⟨cv, rfl, hbel, hrep, _⟩
    refine ⟨cv, rfl, ?_⟩
    have hw := h.world hbel
    -- the result, read in the caller's context
    have hcr : ∀ (b o : Nat), w'.cell? ⟨b, o, none⟩ = w'.cell? ⟨b, o, none⟩ := fun _ _ => rfl
    obtain ⟨σ2, hs2, hr2⟩ : ∃ σ2, Sim C D outs (if isNew r = true then st else st.dropL (reach st.objs depth (idsL (first ++ c.args.toList.map st.eval ++ cap)))) a w' σ2 ∧ Rep C w' σ2 none r cv := by
      by_cases hnew : isNew r = true
      · rw [if_pos hnew]
        refine ⟨σ, hw, ?_⟩
        have h1 := Rep.into (m := none) true r (by simp) (fun _ _ => hnew) hrep
        have h2 : Rep C w' σ (some true) r cv := Rep.any (fun b hb => by
          rcases hb.2.2.1 with h3 | h3
          · have h3' : w.heap.size ≤ b := h3
            exact ⟨fun hh => by have := (h.held b hh).2; omega, hb.2.1, .inl (Nat.le_trans h.base h3'), hb.2.2.2⟩
          · cases h3.1) (fun _ _ _ => rfl) r hrf h1
        have h3 := Rep.outOf true r h2
        rwa [retag_new r hnew] at h3
      · rw [if_neg hnew]
        obtain ⟨σ', hs', hsub, hdrop⟩ := hw.dropL' (l := reach st.objs depth (idsL (first ++ c.args.toList.map st.eval ++ cap)))
        refine ⟨σ', hs', Rep.free (fun t b hb => ?_) (fun _ _ _ _ => rfl) r hrf hrep⟩
        rcases hb.2.2.1 with h3 | ⟨h3, hF⟩
        · have h3' : w.heap.size ≤ b := h3
          exact ⟨fun hh => by have := (h.held b (hh.sub hsub)).2; omega, hb.2.1, .inl (Nat.le_trans h.base h3'), hb.2.2.2⟩
        · rcases hFo2 b hF with ⟨h4, h5⟩ | ⟨id, hid, bo, es, cap', app, hl⟩
          · refine ⟨fun hh => h4 (hh.sub hsub), hb.2.1, ?_, hb.2.2.2⟩
            rcases h5 with h5 | h5
            · exact .inl h5
            · exact .inr ⟨h3, h5⟩
          · exact ⟨hdrop id hid b bo es cap' app hl, hb.2.1, .inl (h.held b ⟨id, bo, es, cap', app, hl⟩).1, hb.2.2.2⟩
    split at he
    · rename_i k es hthaw
      split at he
      case h_2 => cases he
      rename_i d hdst
      split at he
      case isFalse => cases he
      rename_i hnew
      cases r with
      | sl tt vs =>
        simp only [isNew] at hnew
        subst hnew
        simp only [thawed] at he
        split at he
        case isFalse => cases he
        rename_i hc
        cases he
        obtain ⟨σ3, h3, h4⟩ := thaw_one (id := nameOf fc base d) h hbel hrep hc.2.1 hc.2.2.1 hc.2.2.2
        rw [hdst]
        exact hK _ _ σ3 (h3.put h4)
      | tup cs =>
        simp only [thawed] at he
        split at he
        case h_2 => cases he
        rename_i vs hk
        split at he
        case isFalse => cases he
        rename_i hc
        cases he
        obtain ⟨ds, rfl, hl⟩ := hrep
        obtain ⟨dv, hdv, hrv⟩ := hl.get k hk
        obtain ⟨σ3, h3, h4⟩ := thaw_one (id := nameOf fc base d) h hbel hrv hc.2.1 hc.2.2.1 hc.2.2.2.1
        rw [hdst]
        refine hK _ _ σ3 (h3.put ⟨ds, rfl, ?_⟩)
        have h5 : RepL C w' σ3 none (cs.set k .junk) (ds.set k dv) := RepL.plain _ hc.2.2.2.2 (RepL.set k hl (v := .junk) trivial)
        have h6 := RepL.set k h5 h4
        have hds : ds.set k dv = ds := by
          obtain ⟨hlt, rfl⟩ := List.getElem?_eq_some_iff.1 hdv
          simp
        rw [List.set_set, List.set_set, hds] at h6
        exact h6
      | _ => simp [thawed] at he
    · cases he
      exact hK _ _ σ2 (by
        have := hs2.put (dst := o.dst) hr2
        exact this)

/-- One operation. -/
theorem evOp_ok (hT : TyOk P E) (hO : OrcOk P E O) {fc : FC} {base : Nat} (h : Sim C D outs st a w σ) {o : Oper} (he : evOp E O fc base o st = some st') {K : Act → World → Prop}
    (hK : ∀ a' w' σ', Sim C D outs st' a' w' σ' → K a' w') : o.wpIn (W ro) m P a w K Q := by
  have plain : evPlain E fc base o st = some st' → (∀ c, o.op ≠ .defer c) → o.wpIn (W ro) m P a w K Q := fun hp hd => by
    obtain ⟨c, w', σ', hr, hs⟩ := evPlain_ok hT h hp
    exact wpIn_of_ran hd hr (hK _ _ _ hs)
  unfold evOp at he
  split at he
  · rename_i c ho
    split at he
    · rename_i f hc
      exact evCall_ok hO h ho hc he hK
    · exact plain he (fun c' e => by rw [ho] at e; cases e)
  · refine plain he (fun c' e => ?_)
    unfold evPlain evVal evMem at he
    rw [e] at he
    simp at he

theorem wanted_ok (h : Sim C D outs st a w σ) {all : Array Oper} {o : Oper} {b : Bool} (he : wantedV all o st = some b) : Region.wanted o (yielded all a.tmps) = b := by
  unfold wantedV at he
  unfold Region.wanted
  split at he
  · rename_i hg; cases he; rw [hg]
  · rename_i j b' hg
    rw [hg]
    split at he
    case h_2 => cases he
    rename_i d hd
    have hget : ∀ v, st.get d = v → v ≠ .junk → Rep C w σ none v (a.tmps.getD d undef) ∧ a.tmps[d]? = some (a.tmps.getD d undef) := fun v hv hj => by
      have h1 := h.get d
      rw [hv] at h1
      refine ⟨h1, ?_⟩
      unfold St.get at hv
      rw [List.getD_eq_getElem?_getD] at hv
      cases hs : st.slots[d]? with
      | none => rw [hs] at hv; exact absurd hv.symm hj
      | some u =>
        obtain ⟨x, hx, _⟩ := RepL.get d h.slots hs
        have : a.tmps[d]? = some x := by rw [← Array.getElem?_toList]; exact hx
        simp [this]
    split at he
    · rename_i b'' hb
      change some (b'' == b') = some b at he
      cases he
      obtain ⟨h1, h2⟩ := hget _ hb (by simp)
      simp only [Rep] at h1
      rw [h1] at h2
      simp only [yielded, hd, Option.bind_some, h2]
      cases b'' <;> cases b' <;> rfl
    · rename_i hb
      cases he
      obtain ⟨h1, h2⟩ := hget _ hb (by simp)
      simp only [Rep] at h1
      rw [h1] at h2
      simp only [yielded, hd, Option.bind_some, h2, undef]
      rfl
    · cases he

/-- A region in the order of the text. -/
theorem evOps_ok (hT : TyOk P E) (hO : OrcOk P E O) {fc : FC} {base : Nat} {all : Array Oper} (hQ : ∀ a' w' σ', Sim C D outs st' a' w' σ' → Q .normal a' w') : ∀ (k : Nat) (ops : List Oper) {st : St} {a : Act} {w : World} {σ : Places},
    (∀ i, ops[i]? = all[k + i]?) → k + ops.length = all.size → Sim C D outs st a w σ → evOps E O fc base all ops st = some st' → wpOpsIn (W ro) m P all Q (List.range' k ops.length) a w
  | k, [], st, a, w, σ, _, _, h, he => by
    simp only [evOps] at he; cases he
    exact hQ _ _ _ h
  | k, o :: ops, st, a, w, σ, hi, hl, h, he => by
    have hk : all[k]? = some o := by have := hi 0; simpa using this.symm
    have hi' : ∀ i, ops[i]? = all[k + 1 + i]? := fun i => by have := hi (i + 1); simp only [List.getElem?_cons_succ] at this; rw [this]; congr 1; omega
    have hl' : k + 1 + ops.length = all.size := by simp only [List.length_cons] at hl; omega
    simp only [evOps] at he
    rw [List.length_cons, List.range'_succ]
    simp only [wpOpsIn, hk]
    split at he
    · rename_i hw
      rw [if_pos (wanted_ok h hw)]
      split at he
      case h_2 => cases he
      rename_i s hs
      exact evOp_ok hT hO h hs fun a' w' σ' h' => evOps_ok hT hO hQ (k + 1) ops hi' hl' h' he
    · rename_i hw
      rw [if_neg (by rw [wanted_ok h hw]; simp)]
      exact ⟨fun _ _ => trivial, evOps_ok hT hO hQ (k + 1) ops hi' hl' (h.put (v := .und) (c := undef) rfl) he⟩
    · cases he

end
end Go.AM
