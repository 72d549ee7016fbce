/-
Loops over band.each.
-/
import Derived.Test.YtdipdaajicceoaaABandJ
set_option linter.unusedSimpArgs false
namespace Go.AM.A
open Go Go.Proofs

def spansL : Int → List Run → List (Int × List Int)
  | _, [] => []
  | a, r :: rs => (a, [r.len, r.thick, r.shade, r.flaw]) :: spansL (IntKind.i64.wrap (a + r.len)) rs

theorem spansOf_runs : ∀ (rs : List Run) (a : Int), spansOf a (rs.map encRun) = some (spansL a rs)
  | [], _ => rfl
  | r :: rs, a => by
    rw [List.map_cons, encRun]
    simp only [spansOf, intsOf, spansOf_runs rs, spansL]

theorem eseq_each (t u : Bool) (rs : List Run) (hn : rs.length ≤ 1000000000) : E.seq 87 [.fp t [.sl u (rs.map encRun)] 0] = some (2, (spansL 0 rs).map yieldV) := by
  have h : E.seq 87 [.fp t [.sl u (rs.map encRun)] 0] = eachSeq 87 87 [.fp t [.sl u (rs.map encRun)] 0] := rfl
  rw [h]
  unfold eachSeq
  simp only [if_true, List.length_map, if_pos hn, spansOf_runs]

theorem tidy_slots (l l' : List V) (o : List (List V)) (b : List (Nat × Ob)) : tidy { slots := l, outer := o, objs := b } = tidy { slots := l', outer := o, objs := b } := rfl

theorem rounds_runs {σ : Type} {K : Option (Ex × St) → Prop} {run : Code → St → Option (Ex × St)} {ps : List Nat} {assign body : Code} {s0 l0 : List V} {out : List (List V)} {objs : List (Nat × Ob)} (rs : List Run)
    (os : List Run → σ → List (Nat × Ob)) (I : List Run → σ → Prop) (c0 : σ) (h0 : tidy { slots := l0, outer := s0 :: out, objs := objs } = { slots := [], outer := s0 :: out, objs := os [] c0 }) (hI : I [] c0)
    (hend : ∀ c, I rs c → K (some (.normal, { slots := s0, outer := out, objs := os rs c })))
    (hstep : ∀ pre r post c, rs = pre ++ r :: post → I pre c → afterA (run assign { slots := setAll s0 ps [.int .i64 (ln pre), encRun r], outer := s0 :: out, objs := os pre c }) (fun s => afterR (run body s)
      (fun s' => ∃ c', tidy s' = { slots := [], outer := s0 :: out, objs := os (pre ++ [r]) c' } ∧ I (pre ++ [r]) c') K)) :
    ∀ x, popped (roundsIn run ps assign body ((spansL 0 rs).map yieldV) { slots := l0, outer := s0 :: out, objs := objs }) = x → K x := by
  rintro x rfl
  have key : ∀ (post pre : List Run) (c : σ) (st : St), rs = pre ++ post → tidy st = { slots := [], outer := s0 :: out, objs := os pre c } → I pre c → K (popped (roundsIn run ps assign body ((spansL (ln pre) post).map yieldV) st)) := by
    intro post
    induction post with
    | nil =>
      intro pre c st hp ht hi
      obtain rfl : rs = pre := by simpa using hp
      simp only [spansL, List.map_nil, roundsIn, ht]
      exact hend c hi
    | cons r post ih =>
      intro pre c st hp ht hi
      have hs := hstep pre r post c hp hi
      simp only [spansL, List.map_cons, roundsIn, ht, List.headD_cons]
      rw [show yieldV (ln pre, [r.len, r.thick, r.shade, r.flaw]) = [.int .i64 (ln pre), encRun r] from rfl]
      cases ha : run assign { slots := setAll s0 ps [.int .i64 (ln pre), encRun r], outer := s0 :: out, objs := os pre c } with
      | none => rw [ha] at hs; exact hs.elim
      | some p =>
        obtain ⟨e, s⟩ := p
        rw [ha] at hs
        cases e with
        | normal =>
          dsimp only
          rw [afterA_normal] at hs
          cases hb : run body s with
          | none => rw [hb] at hs; exact hs.elim
          | some p =>
            obtain ⟨e, s'⟩ := p
            rw [hb] at hs
            cases e with
            | normal =>
              obtain ⟨c', h1, h3⟩ := hs
              dsimp only
              have hln : ln (pre ++ [r]) = IntKind.i64.wrap (ln pre + r.len) := by simp [ln]
              rw [← hln]
              exact ih (pre ++ [r]) c' s' (by simpa using hp) h1 h3
            | exit i => exact hs
            | ret => exact hs
        | exit i => exact hs.elim
        | ret => exact hs.elim
  exact key rs [] c0 _ rfl h0 hI

theorem c73 (rs : List Run) : (orcω E X0).call 73 [.sl false (rs.map encRun)] = some (.clo 87 [] [.fp false [.sl false (rs.map encRun)] 0]) := by
  refine call_of rfl fn73 rfl ?_
  simp (maxSteps := 1000000) (implicitDefEqProofs := false) only [Try.ntmps73, Try.results73, efc73, ss, List.replicate, evOp, evPlain, evVal, evMem, St.eval, St.put, St.get, constV, List.set, lenV, sliceOf, arrayOf, fieldsOf, normOf, norm, firstRegion, look, maskFrom, evBin, evIndexS, evLoad, evVar, evStore, evFieldAddr, nameOf, St.alloc, St.drop, killL, kill, killAll, killObs, killOb, upd, cells?, part, retag, retagL, putIn, refFree, refFreeL, isNew, isNewL, Ty.isAgg, splice, idsL, ids, idsLL, reach, depth, St.dropL, resultsV, resultV, ↓reduceIte, Nat.reduceBEq, Nat.reduceAdd, Nat.reduceSub, Nat.reduceMul, Nat.reduceEqDiff, Nat.reduceLeDiff, Nat.reduceLT, effOf, effMem, effStore, effCall, effVar, effLit, effMake, effApp, Eff.ap, lend, evLit, evMake, evNil, freeze, onto, dropO, elemsV, sized, evCmp, eqT, eqG, minV, evUn, evField, evExtract, evIndexA, evIndexV, evSlice, optInt, fillV, placeOf, thawed, del, isNilSlice, plain, plainL, cellsJ, junkOk, St.with, setSlots, setObs, wantedD, seqOf, noRange, setAll, Array.size, ty1, ti1, ty2, ti2, ty3, ti3, ty4, ti4, ty22, ti22, ty26, ti26, ty38, ti38, ty41, ti41, ty53, ti53, ty54, ti54, ty60, ti60, ty63, ti63, ty68, ti68, ty69, ti69, ty80, ti80, ty81, ti81, ty87, ti87, ty88, ti88, ty90, ti90, ty91, ti91, ty92, ti92, ty94, ti94, ty95, ti95, einl, inls]

/-- Lengths that add up to no more than fits. -/
def Okay (rs : List Run) : Prop := (∀ r ∈ rs, 1 ≤ r.len) ∧ total rs ≤ 40000000

theorem okay_app {pre post : List Run} (h : Okay (pre ++ post)) : Okay pre ∧ Okay post := by
  obtain ⟨h1, h2⟩ := h
  rw [total_app] at h2
  have a1 : ∀ r ∈ pre, 1 ≤ r.len := fun r hr => h1 r (List.mem_append_left _ hr)
  have a2 : ∀ r ∈ post, 1 ≤ r.len := fun r hr => h1 r (List.mem_append_right _ hr)
  have nn : ∀ l : List Run, (∀ r ∈ l, 1 ≤ r.len) → 0 ≤ total l := by
    intro l
    induction l with
    | nil => intro _; exact Int.le_refl _
    | cons x l ih =>
      intro h
      have := ih fun r hr => h r (List.mem_cons_of_mem _ hr)
      have := h x List.mem_cons_self
      rw [total_cons]; omega
  have := nn pre a1
  have := nn post a2
  exact ⟨⟨a1, by omega⟩, ⟨a2, by omega⟩⟩

theorem okay_nonneg {rs : List Run} (h : Okay rs) : 0 ≤ total rs := by
  obtain ⟨h1, _⟩ := h
  induction rs with
  | nil => exact Int.le_refl _
  | cons x l ih =>
    have := ih fun r hr => h1 r (List.mem_cons_of_mem _ hr)
    have := h1 x List.mem_cons_self
    rw [total_cons]; omega

theorem okay_lens {rs : List Run} (h : Okay rs) : Lens 40000000 rs := by
  intro r hr
  obtain ⟨a, b, rfl⟩ := List.append_of_mem hr
  have h1 := (okay_app h).1
  have h2 := (okay_app (pre := [r]) (post := b) (okay_app h).2).2
  have h3 := h.2
  rw [total_app, total_cons] at h3
  have := okay_nonneg h1
  have := okay_nonneg h2
  exact ⟨h.1 r hr, by omega⟩

theorem ln_total : ∀ {rs : List Run}, Okay rs → ln rs = total rs := by
  intro rs
  induction rs using snoc_ind with
  | h0 => intro _; rfl
  | h1 l x ih =>
    intro h
    have h1 := (okay_app h).1
    have := okay_nonneg h1
    have h3 := h.2
    rw [total_app, total_cons, total_nil] at h3
    have h4 := h.1 x (by simp)
    have : ln (l ++ [x]) = IntKind.i64.wrap (ln l + x.len) := by simp [ln]
    rw [this, ih h1, total_app, total_cons, total_nil, wrap_in (by omega)]
    omega

theorem expand_len {rs : List Run} (h : Okay rs) : ((expand rs).length : Int) = total rs := expand_length (okay_lens h)

theorem valid_okay {rs : List Run} (h : validate rs = 0) : Okay rs ∧ rs.length ≤ 40 ∧ total rs ≤ 1000000 := by
  have h2 := valid_all h
  have h3 : rs.length ≤ 40 := by
    unfold validate at h
    split at h
    · omega
    · omega
  have h4 : ∀ r ∈ rs, 1 ≤ r.len ∧ r.len ≤ 1000000 := fun r hr => by
    have := List.all_eq_true.1 h2 r hr
    simp [wellB, inB] at this
    omega
  have h5 : total rs ≤ 1000000 * rs.length := by
    clear h h2 h3
    induction rs with
    | nil => exact Int.le_refl _
    | cons x l ih =>
      have := ih fun r hr => h4 r (List.mem_cons_of_mem _ hr)
      have := h4 x List.mem_cons_self
      rw [total_cons, List.length_cons]; omega
  have ho : Okay rs := ⟨fun r hr => (h4 r hr).1, by omega⟩
  refine ⟨ho, h3, ?_⟩
  unfold validate at h
  rw [if_neg (by omega), if_pos h2] at h
  by_cases h6 : 1000000 < ln rs
  · rw [if_pos h6] at h; cases h
  · rw [ln_total ho] at h6; omega
end Go.AM.A
