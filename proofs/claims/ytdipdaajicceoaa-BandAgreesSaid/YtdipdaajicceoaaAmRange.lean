/-
A loop over a function whose yields are known: right.
-/
import Derived.Test.YtdipdaajicceoaaAmDraw
import Derived.Test.YtdipdaajicceoaaAmMono
import Derived.RangeFuncLeaves
namespace Go.AM
open Go Go.RowKit

def exOf : Ex → Exit
  | .normal => .normal
  | .exit id => .exit id
  | .ret => .ret

section
variable {P : Program} {E : Env} {C : Cx} {D : List Deferred} {outs : List (List Value)} {st st' : St} {a : Act} {w w' : World} {σ σ' : Places} {m : Nat}

/-- Running code is right in whatever round. -/
def RunOk (P : Program) (run : Code → St → Option (Ex × St)) : Prop :=
  ∀ (l m : Nat) (c : Code), noRange c = true → ∀ {C : Cx} {D : List Deferred} {outs : List (List Value)} {st st' : St} {e : Ex} {a : Act} {w : World} {σ : Places} {Q : Exit → Act → World → Prop},
    Sim C D outs st a w σ → run c st = some (e, st') → (∀ a' w' σ', Sim C D outs st' a' w' σ' → Q (exOf e) a' w') → c.wpIn (W (some l)) m P Q a w

theorem reach_nil (objs : List (Nat × Ob)) : ∀ n, reach objs n [] = []
  | 0 => rfl
  | n + 1 => by simp [reach, reach_nil objs n]

theorem setAll_rep {mo : Option Bool} : ∀ (ps : List Nat) (vs xs : List V) (ds ys : List Value), RepL C w σ mo vs ds → RepL C w σ mo xs ys → xs.length = ps.length →
    RepL C w σ mo (setAll vs ps xs) ((ps.zip ys).foldl (fun t p => t.setIfInBounds p.1 p.2) ds.toArray).toList
  | [], vs, [], ds, ys, h, h', _ => by
    simp only [RepL] at h'
    subst h'
    simpa [setAll] using h
  | p :: ps, vs, x :: xs, ds, ys, h, h', hl => by
    simp only [RepL] at h'
    obtain ⟨y, r, rfl, hy, hr⟩ := h'
    have := setAll_rep ps (vs.set p x) xs (ds.set p y) r (RepL.set p h hy) hr (by simpa using hl)
    simpa [setAll] using this
  | [], vs, _ :: _, ds, ys, h, h', hl => by simp at hl
  | _ :: _, vs, [], ds, ys, h, h', hl => by simp at hl

theorem mask_ok {mo : Option Bool} (keep : List Nat) : ∀ (i : Nat) (vs : List V) (ds : List Value), RepL C w σ mo vs ds → RepL C w σ mo (maskFrom keep i vs) ds
  | _, [], _, h => h
  | i, v :: vs, _, h => by
    simp only [RepL, maskFrom] at h ⊢
    obtain ⟨d, r, rfl, hd, hr⟩ := h
    refine ⟨d, r, rfl, ?_, mask_ok keep (i + 1) vs r hr⟩
    split
    · exact hd
    · trivial

theorem norm_ok (h : Sim C D outs st a w σ) (keep : List Nat) : ∃ σ', Sim C D outs (norm keep st) a w σ' ∧ ∀ b, Held σ' b → Held σ b := by
  have h1 : Sim C D outs { st with slots := maskFrom keep 0 st.slots } a w σ := { h with slots := mask_ok keep 0 _ _ h.slots }
  obtain ⟨σ', h2, h3⟩ := h1.dropL (l := ((({ st with slots := maskFrom keep 0 st.slots } : St).objs.map (·.1)).filter fun i => !(reach ({ st with slots := maskFrom keep 0 st.slots } : St).objs depth (idsL ({ st with slots := maskFrom keep 0 st.slots } : St).slots ++ idsLL ({ st with slots := maskFrom keep 0 st.slots } : St).outer)).contains i))
  exact ⟨σ', h2, h3⟩

theorem tidy_ok (h : Sim C D outs { st with slots := [] } ⟨#[], []⟩ w σ) : ∃ σ', Sim C D outs { tidy st with slots := [] } ⟨#[], []⟩ w σ' ∧ ∀ b, Held σ' b → Held σ b := by
  obtain ⟨σ', h1, h2⟩ := norm_ok h []
  exact ⟨σ', { h1 with slots := rfl }, h2⟩

theorem Sim.slotless (h : Sim C D outs st a w σ) : Sim C D outs { st with slots := [] } { a with tmps := #[] } w σ := { h with slots := rfl, still := h.still }

/-- The code that a loop is left by. -/
def jumpOf : Ex → Option Code
  | .normal => none
  | .ret => some .ret
  | .exit id => some (.exit id)

structure Lay (l : Nat) (rec : Loop) (W : World) : Prop where
  loop : W.heap[l + 1]? = some (.loop rec)
  calls : W.heap[l]? = some (.deferred (some []))

theorem round_ok {run : Code → St → Option (Ex × St)} (hrun : RunOk P run) {assign body : Code} (ha : noRange assign = true) (hb : noRange body = true) {ps : Array Nat} {xs : List V} {ys : List Value}
    {fn : Nat} {l : Nat} {tmps : List Value} {pending : Option Code} {s sa sb : St} {e : Ex} {W0 : World}
    (hs : Sim C [] (tmps :: outs) { s with slots := [] } ⟨#[], []⟩ W0 σ) (hB : C.B ≤ l) (hZ : ∀ b, C.Z b → b < l)
    (hL : Lay l { state := .ready, pending := pending, fn := fn, tmps := tmps.toArray, params := ps, assign := assign, body := body, defers := l } W0)
    (hx : xs.length = ps.size) (hxy : RepL C W0 σ none xs ys)
    (h1 : run assign { s with slots := setAll (s.outer.headD []) ps.toList xs } = some (.normal, sa)) (h2 : run body sa = some (e, sb)) {R : Ending → World → Prop}
    (hR : ∀ W' σ', Sim C [] (tmps :: outs) { sb with slots := [] } ⟨#[], []⟩ W' σ' →
      Lay l { state := if (jumpOf e).isNone then .ready else .done, pending := jumpOf e, fn := fn, tmps := tmps.toArray, params := ps, assign := assign, body := body, defers := l } W' → W0.heap.size ≤ W'.heap.size →
      (∀ b, b < W0.heap.size → ¬ Held σ b → b ≠ l + 1 → W'.heap[b]? = W0.heap[b]? ∧ ¬ Held σ' b) → R (.returned (.bool (jumpOf e).isNone)) W') :
    YieldAt Fence.wide m P (l + 1) ys.toArray W0 R := by
  have hlen : ys.length = xs.length := hxy.length
  have hy := run_yield (P := P) (args := ys.toArray) hL.loop (by simp [hlen, hx])
  refine ⟨_, _, _, _, hy, roundIn_of_wpIn trivial ?_⟩
  have hnh : ∀ {W : World} {σ : Places} {C' : Cx} {D' : List Deferred} {os : List (List Value)} {t : St} {b : Act} {r : Nat} {o : Obj}, Sim C' D' os t b W σ → W.heap[r]? = some o → o.isCells = false → ¬ Held σ r := fun {W σ C' D' os t b r o} hS hr ho hh => by
    obtain ⟨id, bo, es, cap, app, hi⟩ := hh
    cases hk : look t.objs id with
    | none => rw [hS.dom id hk] at hi; cases hi
    | some ob =>
      obtain ⟨loc, h3, h4, _⟩ := hS.objs id ob hk
      rw [hi] at h3
      cases h3
      obtain ⟨_, _, _, cur, e3, ds, hg, _⟩ := h4
      rw [hr] at hg
      cases hg
      cases ho
  obtain ⟨hslots, hout⟩ : RepL C W0 σ none (s.outer.headD []) tmps ∧ True := by
    have := hs.outer
    cases ho : s.outer with
    | nil => rw [show ({ s with slots := [] } : St).outer = s.outer from rfl, ho] at this; simp [RepLL] at this
    | cons s0 out =>
      rw [show ({ s with slots := [] } : St).outer = s.outer from rfl, ho] at this
      obtain ⟨d, q, hdq, hd, _⟩ := this
      simp only [List.cons.injEq] at hdq
      obtain ⟨rfl, rfl⟩ := hdq
      exact ⟨hd, trivial⟩
  have hsa : Sim C [] (tmps :: outs) { s with slots := setAll (s.outer.headD []) ps.toList xs } { tmps := (ps.zip ys.toArray).foldl (fun t p => t.setIfInBounds p.1 p.2) tmps.toArray, defers := [] } W0 σ := by
    refine { hs with slots := ?_, still := hs.still }
    have := setAll_rep ps.toList _ xs tmps ys hslots hxy (by simpa using hx)
    rw [← Array.foldl_toList, Array.toList_zip]
    exact this
  refine hrun (l + 1) m assign ha (hsa.focus true rfl) h1 fun a1 W1 σ1 hs1 => ?_
  have hs1' : Sim C [] (tmps :: outs) sa ⟨a1.tmps, []⟩ W1 σ1 := hs1.back hsa.below hsa.still rfl rfl
  have hz1 : ∀ b, b < W0.heap.size → ¬ Held σ b → W1.heap[b]? = W0.heap[b]? ∧ ¬ Held σ1 b := fun b hlt hn => ⟨(hs1.still.zed b ⟨hlt, hn⟩).2.2, (hs1.still.zed b ⟨hlt, hn⟩).1⟩
  have hlt1 : l + 1 < W0.heap.size := (Array.getElem?_eq_some_iff.1 hL.loop).1
  have hl1 := (hz1 (l + 1) hlt1 (hnh hs hL.loop rfl)).1.trans hL.loop
  have hk1 := (hz1 l (by omega) (hnh hs hL.calls rfl)).1.trans hL.calls
  have hnl : ¬ C.Z (l + 1) := fun h => by have := hZ _ h; omega
  refine ⟨_, run_beginRound hl1 rfl, ?_⟩
  have hs2 := hs1'.turn rfl hl1 rfl (o' := .loop { state := .busy, pending := pending, fn := fn, tmps := tmps.toArray, params := ps, assign := assign, body := body, defers := l }) rfl (by omega) hnl
  have hlt2 : l + 1 < W1.heap.size := (Array.getElem?_eq_some_iff.1 hl1).1
  refine hrun (l + 1) m body hb (hs2.focus (a' := a1) true rfl) h2 fun a3 W3 σ3 hs3 => ?_
  have hs3' : Sim C [] (tmps :: outs) sb ⟨a3.tmps, []⟩ W3 σ3 := hs3.back hs2.below hs2.still rfl rfl
  obtain ⟨W2, hW2⟩ : ∃ W2, W1.putObj (l + 1) (.loop { state := .busy, pending := pending, fn := fn, tmps := tmps.toArray, params := ps, assign := assign, body := body, defers := l }) = W2 := ⟨_, rfl⟩
  rw [hW2] at hs2 hs3
  have hsz2 : W2.heap.size = W1.heap.size := by rw [← hW2]; exact World.putObj_size
  have hl2 : W2.heap[l + 1]? = some (.loop { state := .busy, pending := pending, fn := fn, tmps := tmps.toArray, params := ps, assign := assign, body := body, defers := l }) := by rw [← hW2]; exact World.putObj_heap_same hlt2
  have hk2 : W2.heap[l]? = some (.deferred (some [])) := by rw [← hW2]; exact (World.putObj_heap_other (by omega)).trans hk1
  have hz3 : ∀ b, b < W2.heap.size → ¬ Held σ1 b → W3.heap[b]? = W2.heap[b]? ∧ ¬ Held σ3 b := fun b hlt hn => ⟨(hs3.still.zed b ⟨hlt, hn⟩).2.2, (hs3.still.zed b ⟨hlt, hn⟩).1⟩
  have hl3 := (hz3 (l + 1) (by omega) (hnh hs2 hl2 rfl)).1.trans hl2
  have hk3 := (hz3 l (by omega) (hnh hs2 hk2 rfl)).1.trans hk2
  have hlt3 : l + 1 < W3.heap.size := (Array.getElem?_eq_some_iff.1 hl3).1
  have hs1z : W0.heap.size ≤ W1.heap.size := hs1.below.size
  have hs3z : W2.heap.size ≤ W3.heap.size := hs3.below.size
  have fin : ∀ jump : Option Code, jump = jumpOf e → ∃ v w', (Instr.endRound (l + 1) jump).run P W3 = .ok v w' ∧ R (.returned v) w' := by
    rintro jump rfl
    refine ⟨_, _, run_endRound _ hl3, hR _ σ3 (hs3'.slotless.turn rfl hl3 rfl rfl (by omega) hnl) ⟨World.putObj_heap_same hlt3, (World.putObj_heap_other (by omega)).trans hk3⟩ (by rw [World.putObj_size]; omega) fun b hb0 hn hne => ?_⟩
    obtain ⟨h5, h6⟩ := hz1 b hb0 hn
    obtain ⟨h7, h8⟩ := hz3 b (by omega) h6
    have h9 : W2.heap[b]? = W1.heap[b]? := by rw [← hW2]; exact World.putObj_heap_other hne
    exact ⟨(World.putObj_heap_other hne).trans (h7.trans (h9.trans h5)), h8⟩
  cases e with
  | normal => exact fin none rfl
  | exit id => exact fin (some (.exit id)) rfl
  | ret => exact fin (some .ret) rfl

theorem Sim.unheld {o : Obj} {r : Nat} (hS : Sim C D outs st a w σ) (hr : w.heap[r]? = some o) (ho : o.isCells = false) : ¬ Held σ r := fun hh => by
  obtain ⟨id, bo, es, cap, app, hi⟩ := hh
  cases hk : look st.objs id with
  | none => rw [hS.dom id hk] at hi; cases hi
  | some ob =>
    obtain ⟨loc, h3, h4, _⟩ := hS.objs id ob hk
    rw [hi] at h3
    cases h3
    obtain ⟨_, _, _, cur, e3, ds, hg, _⟩ := h4
    rw [hr] at hg
    cases hg
    cases ho

/-- Behind the loop. -/
theorem leave_ok (hmk : C.mrk = true) (h : Sim C D outs st a w σ) {s' : St} {W' : World} {σ1 : Places} (hs : Sim (C.at w σ true) [] (a.tmps.toList :: outs) { s' with slots := [] } ⟨#[], []⟩ W' σ1)
    {s0 : List V} {out : List (List V)} (ho : s'.outer = s0 :: out) {rec : Loop} (hL : Lay w.heap.size rec W') (hrec : rec.state ≠ .busy) :
    ∃ W4, (Instr.endLoop (w.heap.size + 1)).run P W' = .ok rec.pending W4 ∧ Sim C D outs { s' with slots := s0, outer := out } { a with defers := { target := .collected w.heap.size, args := #[] } :: a.defers } W4 σ1 := by
  have hnz : ¬ (C.at w σ true).Z (w.heap.size + 1) := fun hz => by have := hz.1; omega
  have hlt : w.heap.size + 1 < W'.heap.size := (Array.getElem?_eq_some_iff.1 hL.loop).1
  refine ⟨_, run_endLoop hL.loop hrec, ?_⟩
  have h2 := hs.turn rfl hL.loop rfl (o' := .loop { rec with state := .exhausted }) rfl (show C.B ≤ _ by have := h.base; omega) hnz
  have hcalls : (W'.putObj (w.heap.size + 1) (.loop { rec with state := .exhausted })).heap[w.heap.size]? = some (.deferred (some [])) := (World.putObj_heap_other (by omega)).trans hL.calls
  generalize W'.putObj (w.heap.size + 1) (.loop { rec with state := .exhausted }) = W4 at h2 hcalls
  have hout := h2.outer
  rw [show ({ s' with slots := [] } : St).outer = s'.outer from rfl, ho] at hout
  obtain ⟨d, q, hdq, hd, hq⟩ := hout
  simp only [List.cons.injEq] at hdq
  obtain ⟨rfl, rfl⟩ := hdq
  have h3 : Sim (C.at w σ true) [] outs { s' with slots := s0, outer := out } { a with defers := [] } W4 σ1 := ⟨hd, hq, h2.objs, h2.dom, h2.inj, h2.held, h2.below, h2.base, h2.old, h2.still⟩
  have h4 : Sim C D outs { s' with slots := s0, outer := out } a W4 σ1 := h3.back h.below h.still rfl rfl
  obtain ⟨ms, hms, _, hnd, hm⟩ := h.still.marks
  obtain ⟨ms2, hms2, _, _, hm2⟩ := h4.still.marks
  obtain rfl : ms2 = ms := List.append_cancel_right (hms2.symm.trans hms)
  refine { h4 with still := ⟨⟨_ :: ms2, by rw [hms2]; rfl, .inr hmk, List.nodup_cons.2 ⟨fun hmem => ?_, hnd⟩, fun d hd => ?_⟩, h4.still.zed⟩ }
  · obtain ⟨r, h5, _, h6, _⟩ := hm _ hmem
    simp only [Deferred.mk.injEq, Target.collected.injEq, and_true] at h5
    omega
  · rcases List.mem_cons.1 hd with rfl | hd
    · exact ⟨_, rfl, ⟨h.base, fun hz => by have := (h.still.zed _ hz).2.1; omega⟩, (Array.getElem?_eq_some_iff.1 hcalls).1, h4.unheld hcalls rfl, hcalls⟩
    · exact hm2 d hd

theorem range_ok {run : Code → St → Option (Ex × St)} (hrun : RunOk P run) (hS : SeqsOk P E) (hmk : C.mrk = true) (h : Sim C D outs st a w σ) {g : Operand} {ps : Array Nat} {assign body : Code} {xss : List (List V)}
    (hseq : seqOf E ps assign body (st.eval g) st = some xss) {e : Ex} (he : popped (roundsIn run ps.toList assign body xss { st with outer := st.slots :: st.outer }) = some (e, st'))
    {Q : Exit → Act → World → Prop} (hQ : ∀ a' w' σ', Sim C D outs st' a' w' σ' → Q (exOf e) a' w') : (Code.rangeFunc g ps assign body).wpIn (W none) m P Q a w := by
  unfold seqOf at hseq
  split at hseq
  case h_2 => cases hseq
  rename_i f cap hge
  split at hseq
  case isFalse => cases hseq
  rename_i hc
  obtain ⟨hids, ha, hb⟩ := hc
  split at hseq
  case h_2 => cases hseq
  rename_i as hlend
  split at hseq
  case h_2 => cases hseq
  rename_i k xss' hx
  split at hseq
  case isFalse => cases hseq
  rename_i hk
  cases hseq
  have hg := h.eval g
  rw [hge] at hg
  obtain ⟨fa, fb, hgv, hfa, hfb⟩ := hg
  simp only [RepL] at hfa
  subst hfa
  obtain ⟨Fo, hFo, hrep, _, hFo2⟩ := lend_ok h hfb hlend
  have hFo3 : ∀ b, Fo b → ¬ Held σ b := fun b hb => by
    rcases hFo2 b hb with h1 | ⟨id, h1, _⟩
    · exact h1.1
    · rw [hids, reach_nil] at h1; cases h1
  obtain ⟨⟨fn', hf1, hf2, hf3⟩, hplain, hcall⟩ := hS f as k xss hx
  obtain ⟨e0, s', hr, s0, out, hout, hst⟩ : ∃ e0 s', roundsIn run ps.toList assign body xss { st with outer := st.slots :: st.outer } = some (e0, s') ∧ ∃ s0 out, s'.outer = s0 :: out ∧ (e, st') = (e0, { s' with slots := s0, outer := out }) := by
    unfold popped at he
    split at he
    · rename_i e0 s' hr
      split at he
      · rename_i s0 out ho
        cases he
        exact ⟨_, _, hr, _, _, ho, rfl⟩
      · cases he
    · cases he
  cases hst
  refine wpIn_rangeFunc ?_
  intro fn _
  obtain ⟨yss, hylen, hyrep, hiter⟩ := hcall (m - 1) w Fo fb hFo hrep
  let rec_ (s : LoopState) (pe : Option Code) : Loop := { state := s, pending := pe, fn := fn, tmps := a.tmps, params := ps, assign := assign, body := body, defers := w.heap.size }
  obtain ⟨W1, hW1⟩ : ∃ W1, (w.alloc (.deferred (some []))).alloc (.loop (rec_ .ready none)) = W1 := ⟨_, rfl⟩
  have hbW : Below w.heap.size w W1 := by rw [← hW1]; exact ((Below.refl _ w).alloc (Nat.le_refl _) _).alloc (by simp) _
  have hL1 : Lay w.heap.size (rec_ .ready none) W1 := by
    rw [← hW1]
    refine ⟨?_, ?_⟩
    · have := World.alloc_heap_new (w.alloc (.deferred (some []))) (.loop (rec_ .ready none))
      rwa [World.size_alloc] at this
    · exact (Below.heap_alloc _ _ _ (by simp)).trans (World.alloc_heap_new w _)
  have hs1 : Sim (C.at w σ true) [] (a.tmps.toList :: outs) { st with slots := [], outer := st.slots :: st.outer } ⟨#[], []⟩ w σ := by
    have hf1 : Sim (C.at w σ true) a.defers outs st a w σ := h.focus true rfl
    exact ⟨rfl, ⟨_, _, rfl, hf1.slots, hf1.outer⟩, hf1.objs, hf1.dom, hf1.inj, hf1.held, hf1.below, hf1.base, hf1.old, Still.refl hf1.still.zed⟩
  have hB : (C.at w σ true).B ≤ w.heap.size := h.base
  have hZ : ∀ b, (C.at w σ true).Z b → b < w.heap.size := fun b hb => hb.1
  refine ⟨w.heap.size + 1, [{ target := .collected w.heap.size, args := #[] }], W1, { target := .fn (.func f) fb.toArray, args := #[.func (.yield (w.heap.size + 1)) #[] #[]] }, W1, f,
    #[.func (.yield (w.heap.size + 1)) #[] #[]] ++ fb.toArray, W1, by rw [← hW1]; exact run_enterLoop_outer _ _ _ _ _, ?_, fun _ _ => trivial, ?_, fun hh => by simp [W, Fence.wide] at hh, ?_⟩
  · simp only [_root_.Go.resolve, hgv]
    simp [go_sem]
  · simp only [invoke, callFunc, run_program, Sem.run_bind, Result.andThen_ok, hf1, hf3, hf2, Bool.false_eq_true, if_false, Sem.run_pure]
  · refine (hiter (w.heap.size + 1)
      (fun i K A => ∃ s σ1, roundsIn run ps.toList assign body (xss.drop i) s = some (e, s') ∧ Sim (C.at w σ true) [] (a.tmps.toList :: outs) { s with slots := [] } ⟨#[], []⟩ A σ1 ∧
        (∀ b, K b → b < A.heap.size ∧ ¬ Held σ1 b ∧ b ≠ w.heap.size + 1) ∧ Lay w.heap.size (rec_ .ready none) A)
      (fun A => e ≠ .normal ∧ ∃ σ1, Sim (C.at w σ true) [] (a.tmps.toList :: outs) { s' with slots := [] } ⟨#[], []⟩ A σ1 ∧ Lay w.heap.size (rec_ .done (jumpOf e)) A) _ hbW ⟨?_, ?_, ?_⟩
      ⟨_, σ, hr, hs1.world hbW, fun b hb => ⟨by have := hFo b hb; have := hbW.size; omega, hFo3 b hb, by have := hFo b hb; omega⟩, hL1⟩).mono ?_
    · rintro i K A B ⟨s, σ1, h1, h2, h3, h4⟩ hAB
      refine ⟨s, σ1, h1, h2.world hAB, fun b hb => ?_, ⟨(hAB.block _ (Array.getElem?_eq_some_iff.1 h4.loop).1).trans h4.loop, (hAB.block _ (Array.getElem?_eq_some_iff.1 h4.calls).1).trans h4.calls⟩⟩
      have hA := (Array.getElem?_eq_some_iff.1 h4.loop).1
      have := hAB.size
      rcases hb with hb | hb
      · have := (h3 b hb).1
        exact ⟨by omega, (h3 b hb).2⟩
      · exact ⟨hb.2, fun hh => by have := (h2.held b hh).2; omega, by omega⟩
    · rintro A B ⟨h1, σ1, h2, h4⟩ hAB
      exact ⟨h1, σ1, h2.world hAB, ⟨(hAB.block _ (Array.getElem?_eq_some_iff.1 h4.loop).1).trans h4.loop, (hAB.block _ (Array.getElem?_eq_some_iff.1 h4.calls).1).trans h4.calls⟩⟩
    · rintro i ys K A ⟨s, σ1, h1, h2, h3, h4⟩ hys
      have hi : i < xss.length := by rw [← hylen]; exact (List.getElem?_eq_some_iff.1 hys).1
      obtain ⟨xs, hxs⟩ : ∃ xs, xss[i]? = some xs := ⟨_, List.getElem?_eq_getElem hi⟩
      have hmem : xs ∈ xss := List.mem_of_getElem? hxs
      have hdrop : xss.drop i = xs :: xss.drop (i + 1) := by
        rw [List.drop_eq_getElem_cons hi]
        congr 1
        rw [List.getElem?_eq_getElem hi] at hxs
        exact Option.some.inj hxs
      rw [hdrop] at h1
      simp only [roundsIn] at h1
      obtain ⟨σ2, h2, hsub⟩ := tidy_ok h2
      replace h3 : ∀ b, K b → b < A.heap.size ∧ ¬ Held σ2 b ∧ b ≠ w.heap.size + 1 := fun b hb => ⟨(h3 b hb).1, fun hh => (h3 b hb).2.1 (hsub b hh), (h3 b hb).2.2⟩
      have hxy : RepL (C.at w σ true) A σ2 none xs ys := RepL.plain xs (hplain xs hmem).2 (hyrep i xs ys hxs hys)
      split at h1
      case h_2 => cases h1
      rename_i sa hsa
      split at h1
      · rename_i sb hsb
        refine round_ok hrun ha hb h2 hB hZ (pending := none) (fn := fn) (tmps := a.tmps.toList) h4 ((hplain xs hmem).1.trans hk) hxy hsa hsb fun W' σ' h5 h6 h7 h8 => .inl ⟨rfl, ⟨sb, σ', h1, h5, fun b hb => ?_, h6⟩, h7, fun b hb => ?_⟩
        · obtain ⟨k1, k2, k3⟩ := h3 b hb
          exact ⟨by omega, (h8 b k1 k2 k3).2, k3⟩
        · obtain ⟨k1, k2, k3⟩ := h3 b hb
          exact (h8 b k1 k2 k3).1
      · rename_i hne
        have hen : e ≠ .normal := fun he => by subst he; exact hne _ h1
        refine round_ok hrun ha hb h2 hB hZ (pending := none) (fn := fn) (tmps := a.tmps.toList) h4 ((hplain xs hmem).1.trans hk) hxy hsa h1 fun W' σ' h5 h6 h7 h8 => .inr ⟨?_, hen, σ', h5, ?_⟩
        · cases e with
          | normal => exact absurd rfl hen
          | exit id => rfl
          | ret => rfl
        · cases e with
          | normal => exact absurd rfl hen
          | exit id => exact h6
          | ret => exact h6
    · rintro en W2 ⟨⟨v, rfl⟩, (⟨K, s, σ1, h1, h2, _, h4⟩ | ⟨hen, σ1, h2, h4⟩)⟩
      · rw [hylen, List.drop_length] at h1
        simp only [roundsIn, Option.some.injEq, Prod.mk.injEq] at h1
        obtain ⟨rfl, rfl⟩ := h1
        obtain ⟨σ2, h2, _⟩ := tidy_ok h2
        obtain ⟨W4, h5, h6⟩ := leave_ok (P := P) hmk h h2 hout h4 (by simp [rec_])
        exact ⟨none, W4, h5, hQ _ _ _ h6⟩
      · obtain ⟨W4, h5, h6⟩ := leave_ok (P := P) hmk h h2 hout h4 (by simp [rec_])
        cases e with
        | normal => exact absurd rfl hen
        | exit id => exact ⟨some (.exit id), W4, h5, wpIn_exit (hQ _ _ _ h6)⟩
        | ret => exact ⟨some .ret, W4, h5, wpIn_ret (hQ _ _ _ h6)⟩

end
end Go.AM
