/- A part of the proof: the texts EWithP, EWith, EWithA, EWithB, EWithC, EWithD, one after another. No condition. -/
import Derived.Test.YtkacpekakpbalaaEWidG
import Derived.Test.YtkacpekakpbalaaEBlend
import Derived.Test.YtkacpekakpbalaaAmBad
set_option linter.unusedVariables false
set_option linter.unusedSimpArgs false
set_option maxRecDepth 20000

section
/-
A blend without a cement is never cheaper (plain).
-/
namespace Go.AM.E
open Go Go.AM Go.Proofs LP

def insQ (c : Nat) (z : Nat → Rat) (i : Nat) : Rat := if i < c then z i else if i = c then 0 else z (i - 1)
theorem S_ins (c : Nat) (f : Nat → Rat) : ∀ n, c ≤ n → S (n + 1) (insQ c f) = S n f := by
  intro n
  induction n with
  | zero =>
    intro h
    show S 0 _ + insQ c f 0 = _
    unfold insQ
    rw [if_neg (by omega), if_pos (by omega)]
    show (0 : Rat) + 0 = 0
    grind
  | succ n ih =>
    intro h
    show S (n + 1) (insQ c f) + insQ c f (n + 1) = S n f + f n
    by_cases hc : c = n + 1
    · have h1 : insQ c f (n + 1) = 0 := by unfold insQ; rw [if_neg (by omega), if_pos (by omega)]
      have h2 : S (n + 1) (insQ c f) = S (n + 1) f := S_congr fun i hi => by unfold insQ; rw [if_pos (by omega)]
      rw [h1, h2]
      show S n f + f n + 0 = _
      grind
    · have h1 : insQ c f (n + 1) = f n := by unfold insQ; rw [if_neg (by omega), if_neg (by omega)]; rfl
      rw [h1, ih (by omega)]
theorem erase_getD (l : List Cem) (c i : Nat) : (l.eraseIdx c).getD i cem0 = if i < c then l.getD i cem0 else l.getD (i + 1) cem0 := by
  rw [List.getD_eq_getElem?_getD, List.getElem?_eraseIdx]
  split
  · rw [List.getD_eq_getElem?_getD]
  · rw [List.getD_eq_getElem?_getD]
theorem ins_mul (G : Cem → Rat) (l : List Cem) (c : Nat) (z : Nat → Rat) : (fun i => G (l.getD i cem0) * insQ c z i) = insQ c fun i => G ((l.eraseIdx c).getD i cem0) * z i := by
  funext i
  unfold insQ
  dsimp only
  by_cases h1 : i < c
  · rw [if_pos h1, if_pos h1, erase_getD, if_pos h1]
  · rw [if_neg h1, if_neg h1]
    by_cases h2 : i = c
    · rw [if_pos h2, if_pos h2]; grind
    · rw [if_neg h2, if_neg h2, erase_getD, if_neg (by omega), show i - 1 + 1 = i by omega]
def withoutB (b : Blend) (c : Nat) : Blend := ⟨b.tot, b.cs.eraseIdx c, b.lo, b.hi⟩
def withoutE (b : Blend) (c : Int) : Int :=
  if errV b ≠ 0 then errV b else if inB c 0 (b.cs.length - 1) = false then 5 else if b.cs.length = 1 then 6 else 0
theorem without_len {b : Blend} {c : Nat} (hc : c < b.cs.length) : (withoutB b c).cs.length + 1 = b.cs.length := by
  show (b.cs.eraseIdx c).length + 1 = _
  rw [List.length_eraseIdx_of_lt hc]
  omega
theorem without_valid {b : Blend} (hb : Valid b) {c : Nat} (hc : c < b.cs.length) (h1 : ¬ b.cs.length = 1) : Valid (withoutB b c) := by
  have hl := without_len hc
  refine ⟨hb.1, by have := hb.2.1; omega, hb.2.2.1, hb.2.2.2.1, hb.2.2.2.2.1, hb.2.2.2.2.2.1, hb.2.2.2.2.2.2.1, fun x hx => hb.2.2.2.2.2.2.2 x (List.mem_of_mem_eraseIdx hx)⟩
theorem without_dearer {b : Blend} (hb : Valid b) {c : Nat} (hc : c < b.cs.length) : Cheaper b (withoutB b c) := by
  intro z hz
  have hl := without_len hc
  have key : ∀ G : Cem → Rat, S b.cs.length (fun i => G (b.cs.getD i cem0) * insQ c z i) = S (withoutB b c).cs.length fun i => G ((withoutB b c).cs.getD i cem0) * z i := fun G => by
    rw [ins_mul, ← hl]
    exact S_ins c _ _ (by omega)
  refine ⟨insQ c z, ⟨fun i hi => ?_, ?_, fun k hk => ?_⟩, ?_⟩
  · unfold insQ
    by_cases h1 : i < c
    · rw [if_pos h1]
      have := hz.1 i (by omega)
      unfold stAt at this ⊢
      change 0 ≤ z i ∧ z i ≤ (((b.cs.eraseIdx c).getD i cem0).st : Rat) at this
      rw [erase_getD, if_pos h1] at this
      exact this
    · rw [if_neg h1]
      by_cases h2 : i = c
      · rw [if_pos h2]
        have hm := (cemOk_iff.1 (hb.2.2.2.2.2.2.2 _ (List.getElem_mem hi))).1.1
        refine ⟨Rat.le_refl, ?_⟩
        unfold stAt
        rw [List.getD_eq_getElem?_getD, List.getElem?_eq_getElem hi]
        exact cast_le.2 hm
      · rw [if_neg h2]
        have := hz.1 (i - 1) (by omega)
        unfold stAt at this ⊢
        change 0 ≤ z (i - 1) ∧ z (i - 1) ≤ (((b.cs.eraseIdx c).getD (i - 1) cem0).st : Rat) at this
        rw [erase_getD, if_neg (by omega), show i - 1 + 1 = i by omega] at this
        exact this
  · rw [← hl, S_ins c z _ (by omega)]
    exact hz.2.1
  · have h := hz.2.2 k hk
    have e := key fun x => ((x.ps.getD k 0 : Int) : Rat)
    have e1 : S b.cs.length (fun i => (coefB b (k + 1) i : Rat) * insQ c z i) = S (withoutB b c).cs.length (fun i => (coefB (withoutB b c) (k + 1) i : Rat) * z i) := e
    rw [e1]
    exact h
  · have e1 : costQ b (insQ c z) = costQ (withoutB b c) z := key fun x => ((x.co : Int) : Rat)
    rw [e1]
    exact Rat.le_refl
end Go.AM.E
end

section
/-
Cements written over others, and wiped.
-/
namespace Go.AM.E
open Go Go.AM Go.Proofs

def Cells3 (vs : List V) : Prop := ∀ v ∈ vs, ∃ cs, v = .agg cs ∧ cs.length = 3
def overL (l : List V) (k : Nat) : List V → List V
  | [] => l
  | x :: xs => overL (l.set k x) (k + 1) xs
theorem over_len : ∀ (xs l : List V) (k : Nat), (overL l k xs).length = l.length
  | [], _, _ => rfl
  | x :: xs, l, k => by rw [overL, over_len xs, List.length_set]
theorem over_take : ∀ (xs l : List V) (k : Nat), k + xs.length ≤ l.length → (overL l k xs).take (k + xs.length) = l.take k ++ xs
  | [], l, k, _ => by simp [overL]
  | x :: xs, l, k, h => by
    rw [List.length_cons] at h
    rw [overL, List.length_cons, show k + (xs.length + 1) = k + 1 + xs.length by omega, over_take xs (l.set k x) (k + 1) (by rw [List.length_set]; omega), List.take_add_one, List.take_set_of_le (Nat.le_refl k), List.getElem?_set_self (by omega)]
    simp
theorem cells3_set {l : List V} {k : Nat} {x : V} (hl : Cells3 l) (hx : ∃ cs, x = .agg cs ∧ cs.length = 3) : Cells3 (l.set k x) := fun v hv => by
  rcases List.mem_or_eq_of_mem_set hv with h | h
  · exact hl v h
  · rw [h]; exact hx
theorem copy_cem {id : Nat} {app : Bool} (outer : List (List V)) (slots : List V) : ∀ (xs l : List V) (k : Nat) (objs : List (Nat × Ob)) (t : Bool),
    look objs id = some { es := 3, flat := true, t := t, app := app, elems := l } → upd objs id { es := 3, flat := true, t := t, app := app, elems := l } = objs →
    Cells3 xs → Cells3 l → refFreeL xs = true → k + xs.length ≤ l.length →
    copyN ti73 id xs k { slots := slots, outer := outer, objs := objs } = some { slots := slots, outer := outer, objs := upd objs id { es := 3, flat := true, t := t && isNewL xs, app := app, elems := overL l k xs } }
  | [], l, k, objs, t, hl, hu, _, _, _, _ => by
    simp only [copyN, isNewL, Bool.and_true, overL]
    rw [hu]
  | x :: xs, l, k, objs, t, hl, hu, hx, ho, hf, hlen => by
    rw [List.length_cons] at hlen
    obtain ⟨cs, rfl, hc⟩ := hx x List.mem_cons_self
    have hk : k < l.length := by omega
    obtain ⟨ds, hds, hd⟩ := ho l[k] (List.getElem_mem hk)
    have hget : l[k]? = some (.agg ds) := by rw [List.getElem?_eq_getElem hk, hds]
    simp only [refFreeL, refFree, Bool.and_eq_true] at hf
    have hsp : zC ds 0 cs = cs := by
      unfold zC
      rw [Nat.zero_add, List.take_zero, List.nil_append, List.drop_of_length_le (by omega), List.append_nil]
    have hst : evStore ti73 (.ptr id k 0) (.agg cs) { slots := slots, outer := outer, objs := objs } = some { slots := slots, outer := outer, objs := upd objs id { es := 3, flat := true, t := t && isNewL cs, app := app, elems := l.set k (.agg cs) } } := by
      simp only [evStore, hl, cells?, hget, cellsJ, putIn, hsp, refFree, hf.1, isNew, junkOk]
      rw [if_pos ⟨hc, by show 0 + 3 ≤ ds.length; omega, by decide, trivial⟩]
      rfl
    simp only [copyN, hst]
    have ih := copy_cem (id := id) (app := app) outer slots xs (l.set k (.agg cs)) (k + 1) (upd objs id { es := 3, flat := true, t := t && isNewL cs, app := app, elems := l.set k (.agg cs) }) (t && isNewL cs) (look_upd_same _ _ _) (upd_upd _ _ _ _)
      (fun v hv => hx v (List.mem_cons_of_mem _ hv)) (cells3_set ho ⟨cs, rfl, hc⟩) hf.2 (by rw [List.length_set]; omega)
    rw [ih, upd_upd]
    simp only [isNewL, isNew, Bool.and_assoc, overL]
def cemZ : V := .agg [.int .i64 0, .int .i64 0, .emp]
theorem clear_cem {id : Nat} {app : Bool} (outer : List (List V)) (slots l : List V) (k : Nat) (objs : List (Nat × Ob)) (t : Bool) (hl : look objs id = some { es := 3, flat := true, t := t, app := app, elems := l }) (ho : Cells3 l) (hk : k < l.length) :
    evClear ti73 (.own id k 1) { slots := slots, outer := outer, objs := objs } = some { slots := slots, outer := outer, objs := upd objs id { es := 3, flat := true, t := t, app := app, elems := l.set k cemZ } } := by
  obtain ⟨ds, hds, hd⟩ := ho l[k] (List.getElem_mem hk)
  have hget : l[k]? = some (.agg ds) := by rw [List.getElem?_eq_getElem hk, hds]
  have hsp : zC ds 0 [V.int .i64 0, .int .i64 0, .emp] = [V.int .i64 0, .int .i64 0, .emp] := by
    unfold zC
    rw [Nat.zero_add, List.take_zero, List.nil_append, List.drop_of_length_le (by show ds.length ≤ 3; omega), List.append_nil]
  have hst : evStore ti73 (.ptr id k 0) cemZ { slots := slots, outer := outer, objs := objs } = some { slots := slots, outer := outer, objs := upd objs id { es := 3, flat := true, t := t, app := app, elems := l.set k cemZ } } := by
    simp only [evStore, hl, cemZ, cells?, hget, cellsJ, putIn, hsp, refFree, refFreeL, isNew, isNewL, junkOk, Bool.and_true]
    rw [if_pos ⟨rfl, by show 0 + 3 ≤ ds.length; omega, by decide, trivial⟩]
  simp only [evClear, hl]
  rw [if_pos ⟨rfl, by decide⟩]
  simp only [clearN]
  rw [show ti73.zero = cemZ from rfl, hst]
theorem sized_c3 : ∀ {l : List V}, Cells3 l → sized 3 l = true
  | [], _ => rfl
  | v :: r, h => by
    obtain ⟨cs, rfl, hc⟩ := h v List.mem_cons_self
    simp only [sized, cells?, hc, sized_c3 fun u hu => h u (List.mem_cons_of_mem _ hu)]
    rfl
theorem retagL_len (t : Bool) : ∀ l : List V, (retagL t l).length = l.length
  | [] => rfl
  | v :: r => by rw [retagL, List.length_cons, retagL_len t r, List.length_cons]
theorem cells3_over : ∀ (xs l : List V) (k : Nat), Cells3 xs → Cells3 l → Cells3 (overL l k xs)
  | [], _, _, _, h => h
  | x :: xs, l, k, hx, h => cells3_over xs (l.set k x) (k + 1) (fun v hv => hx v (List.mem_cons_of_mem _ hv)) (cells3_set h (hx x List.mem_cons_self))
theorem retag_c3 (t : Bool) {l : List V} (h : Cells3 l) (hf : refFreeL l = true) : Cells3 (retagL t l) ∧ refFreeL (retagL t l) = true ∧ (retagL t l).length = l.length := by
  refine ⟨?_, by rw [refFreeL_retag]; exact hf, retagL_len t l⟩
  clear hf
  induction l with
  | nil => intro v hv; cases hv
  | cons x r ih =>
    intro v hv
    rcases List.mem_cons.1 hv with e | e
    · obtain ⟨cs, hx, hc⟩ := h x List.mem_cons_self
      rw [e, hx]
      exact ⟨retagL t cs, rfl, by rw [retagL_len]; exact hc⟩
    · exact ih (fun u hu => h u (List.mem_cons_of_mem _ hu)) v e
theorem refFreeL_drop {l : List V} (h : refFreeL l = true) (k : Nat) : refFreeL (l.drop k) = true := by
  have := refFreeL_take_drop h k l.length
  rwa [List.take_of_length_le (by rw [List.length_drop]; omega)] at this
theorem inf80 : (drawn (Try.f80.body.getD .skip)).map infosOf = [[([], false), ([], false), ([], false), ([], false), ([], false), ([], false), ([], true), ([], true)]] := by decide +kernel
theorem okD80 : (drawn (Try.f80.body.getD .skip)).all okBad = true := by decide +kernel
set_option maxRecDepth 20000 in
set_option maxHeartbeats 8000000 in
theorem c80 (id : Nat) (outer : List (List V)) (objs : List (Nat × Ob)) (l : List V) (t : Bool) (hl : look objs id = some { es := 3, flat := true, t := t, app := true, elems := l }) (hu : upd objs id { es := 3, flat := true, t := t, app := true, elems := l } = objs) (hc : Cells3 l) (hf : refFreeL l = true) (c : Nat) (hcl : c < l.length) (hn : l.length ≤ 1000) :
    ∃ sl, (orcω E XS).inl 1000 80 [.own id 0 l.length, .int .i64 (c : Nat), .int .i64 ((c + 1 : Nat) : Int)] { slots := [], outer := outer, objs := objs } = some (.pre id 0 (l.length - 1) l.length, { slots := sl, outer := outer, objs := upd objs id { es := 3, flat := true, t := t && isNewL (retagL t (l.drop (c + 1))), app := true, elems := (overL l c (retagL t (l.drop (c + 1)))).set (l.length - 1) cemZ } }) := by
  refine (fun h : ∃ sl : List V, _ = some (V.pre id 0 (l.length - 1) l.length, ({ slots := sl, outer := outer, objs := upd objs id { es := 3, flat := true, t := t && isNewL (retagL t (l.drop (c + 1))), app := true, elems := (overL l c (retagL t (l.drop (c + 1)))).set (l.length - 1) cemZ } } : St)) => h.elim fun sl h => ⟨sl, inl_of rfl fn80 rfl h⟩) ?_
  have hi := inf80
  have ho := okD80
  simp only [Try.f80, Option.getD_some, drawn, List.map_cons, List.map_nil, List.append_nil, List.nil_append, List.cons_append, List.cons.injEq, List.all_cons, List.all_nil, Bool.and_true, Bool.and_eq_true, and_true] at hi ho
  have hf' : refFreeL (l.drop (c + 1)) = true := refFreeL_drop hf _
  have n1 : ¬ (l.length : Int) = 0 := by omega
  have n2 : ((c : Int) == ((c + 1 : Nat) : Int)) = false := by rw [beq_eq_false_iff_ne]; omega
  have n3 : (c : Int) ≤ ((c + 1 : Nat) : Int) := by omega
  have n4 : ((c + 1 : Nat) : Int) ≤ (l.length : Int) := by omega
  have n5 : (c : Int) ≤ (l.length : Int) := by omega
  have n6 : 0 < l.length := by omega
  have n7 : c ≤ l.length := by omega
  have m1 : ((l.length : Int) - ((c + 1 : Nat) : Int)).toNat = l.length - (c + 1) := by omega
  have m2 : (l.drop (c + 1)).take (l.length - (c + 1)) = l.drop (c + 1) := List.take_of_length_le (by rw [List.length_drop]; exact Nat.le_refl _)
  have m3 : c + 1 + (l.length - (c + 1)) ≤ l.length := by omega
  have m4 : c + (l.length - (c + 1)) = l.length - 1 := by omega
  have m5 : sized 3 (l.drop (c + 1)) = true := sized_c3 fun v hv => hc v (List.mem_of_mem_drop hv)
  have m6 : l.length - 1 ≤ l.length := by omega
  have m7 : ((l.length - 1 : Nat) : Int) ≤ (l.length : Int) := by omega
  have m8 : ((l.length : Int) - ((l.length - 1 : Nat) : Int)).toNat = 1 := by omega
  obtain ⟨r1, r2, r3⟩ := retag_c3 (l := l.drop (c + 1)) t (fun v hv => hc v (List.mem_of_mem_drop hv)) hf'
  have kc := fun slots => copy_cem (id := id) (app := true) outer slots (retagL t (l.drop (c + 1))) l c objs t hl hu r1 hc r2 (by rw [r3, List.length_drop]; omega)
  have hR := over_len (retagL t (l.drop (c + 1))) l c
  have hcR := cells3_over _ _ c r1 hc
  generalize overL l c (retagL t (l.drop (c + 1))) = R at *
  generalize isNewL (retagL t (l.drop (c + 1))) = nw at *
  have kz := fun slots => clear_cem (id := id) (app := true) outer slots R (l.length - 1) (upd objs id { es := 3, flat := true, t := t && nw, app := true, elems := R }) (t && nw) (look_upd_same _ _ _) hcR (by omega)
  simp only [ti73] at kc kz
  simp (maxSteps := 1000000) (implicitDefEqProofs := false) only [Try.ntmps80, Try.results80, efc80, fc80, hl, hu, n1, n2, n3, n4, n5, n6, n7, regT ho hi, evBT_nil, evBT_cons, effT_true, effT_false, effT2_some, effT2_none, calmT, free, Eff.writes, supp, isBar, reduceCtorEq, if_false, Int.natCast_nonneg, Int.toNat_natCast, Int.sub_zero, Int.toNat_zero, Nat.zero_add, Int.le_refl, Nat.sub_zero, m1, m2, m3, m4, m5, m6, m7, m8, kc, kz, List.length_drop, look_upd_same, upd_upd, ss, sd, zI, qG, zG, zH, St.get, qE, qF, qB, zD, norm, look, zF, qA, qI, St.alloc, St.drop, zA, part, zC, depth, qD, ↓reduceIte, Nat.reduceBEq, Nat.reduceAdd, Nat.reduceSub, Nat.reduceMul, Nat.reduceEqDiff, Nat.reduceLeDiff, Nat.reduceLT, qJ, qK, qL, qM, qN, qO, qP, qQ, qR, zJ, qS, qC, qT, evSlice0, qV, qW, qX, qY, qZ, zK, fixed, zL, wit, Option.isSome_some, qH, evSliceP, evPre, St.with, zE, Array.size, te, einl, inls, efr]
  exact ⟨_, rfl⟩
end Go.AM.E
end

section
/-
Copies of blends, called from the functions that leave a cement out.
-/
namespace Go.AM.E
open Go Go.AM Go.Proofs

def ob34w (b : Blend) : List (Nat × Ob) := [(2, { es := 4, flat := true, t := false, app := false, elems := [encBlend b] }), (4, { es := 4, flat := true, t := true, app := false, elems := [.agg [.int .i64 0, .emp, .emp, .emp]] })]
def ob74w (b : Blend) : List (Nat × Ob) := [(2, { es := 4, flat := true, t := false, app := false, elems := [encBlend b] }), (4, { es := 4, flat := true, t := true, app := false, elems := [.agg [.int .i64 0, .emp, .emp, .emp]] }),
  (1001, { es := 4, flat := false, t := false, app := false, elems := [.agg [.int .i64 b.tot, .own 1012 0 b.cs.length, .own 1006 0 b.lo.length, .own 1009 0 b.hi.length]] }),
  (1002, { es := 4, flat := false, t := true, app := false, elems := [.agg [.int .i64 b.tot, .own 1012 0 b.cs.length, .own 1006 0 b.lo.length, .own 1009 0 b.hi.length]] }),
  (1006, { es := 1, flat := true, t := true, app := false, elems := b.lo.map vI }), (1009, { es := 1, flat := true, t := true, app := false, elems := b.hi.map vI }), (1012, { es := 3, flat := true, t := false, app := true, elems := b.cs.map encCemT })]
set_option maxRecDepth 20000 in
set_option maxHeartbeats 8000000 in
theorem c74w (outer : List (List V)) (b : Blend) (hb : Valid b) : ∃ sl, (orcω E XS).inl 1000 74 [encBlend b] { slots := [], outer := outer, objs := ob34w b } = some (.agg [.int .i64 b.tot, .own 1012 0 b.cs.length, .own 1006 0 b.lo.length, .own 1009 0 b.hi.length], { slots := sl, outer := killAll 1002 (killAll 1001 outer), objs := ob74w b }) := by
  refine (fun h : ∃ sl : List V, _ = some (V.agg [.int .i64 b.tot, .own 1012 0 b.cs.length, .own 1006 0 b.lo.length, .own 1009 0 b.hi.length], ({ slots := sl, outer := killAll 1002 (killAll 1001 outer), objs := ob74w b } : St)) => h.elim fun sl h => ⟨sl, inl_of rfl fn74 rfl h⟩) ?_
  have hi := inf74
  have ho := okD74
  simp only [Try.f74, Option.getD_some, drawn, List.map_cons, List.map_nil, List.append_nil, List.nil_append, List.cons_append, List.cons.injEq, List.all_cons, List.all_nil, Bool.and_true, Bool.and_eq_true, and_true] at hi ho
  obtain ⟨hi1, hi2⟩ := hi
  obtain ⟨ho1, ho2⟩ := ho
  have k1 := c96 b.lo (by have := hb.2.2.1; omega)
  have k2 := c96 b.hi (by have := hb.2.2.1; have := hb.2.2.2.1; omega)
  obtain ⟨sl97, k3⟩ := c97 b.cs (by intro h; have := hb.2.1; rw [h] at this; simp at this) (by have := hb.2.1; omega)
  have q1 := sized_vI b.lo
  have q2 := sized_vI b.hi
  obtain ⟨tot, cs, lo, up⟩ := b
  simp only [encBlend, ob34w, ob74w] at k3 ⊢
  dsimp only at *
  simp (maxSteps := 1000000) (implicitDefEqProofs := false) only [Try.ntmps74, Try.results74, efc74, fc74, regN ho1 hi1, evNT_nil, evNT_cons, effN_true, effN_false, effN2_some, effN2_none, effX, effNew, effFreshed, effThaw, suppX, calmT, free, Eff.writes, supp, isBarX, Option.toList_some, Option.toList_none, reduceCtorEq, if_false, k1, k2, k3, q1, q2, List.length_map, ss, sd, zI, qG, zG, zH, St.get, qE, qF, qB, zD, norm, look, zF, qA, qI, St.alloc, St.drop, zA, part, zC, depth, qD, ↓reduceIte, Nat.reduceBEq, Nat.reduceAdd, Nat.reduceSub, Nat.reduceMul, Nat.reduceEqDiff, Nat.reduceLeDiff, Nat.reduceLT, qJ, qK, qL, qM, qN, qO, qP, qQ, qR, zJ, qS, qC, qT, evSlice0, qV, qW, qX, qY, qZ, zK, fixed, zL, wit, Option.isSome_some, qH, evSliceP, evPre, St.with, zE, Array.size, te, einl, inls, efr]
  generalize hr : loopAt _ _ _ _ _ _ = r; revert r
  refine loop_list cs (fun pre _ => [(19, .int .i64 pre.length)]) (fun pre _ => [(1012, { es := 3, flat := true, t := false, app := true, elems := mixC cs pre.length })]) (fun _ (_ : Unit) => True) () (by have := hb.2.1; dsimp only at this; omega) (by simp (maxSteps := 1000000) (implicitDefEqProofs := false) only [cmix_zero, List.length_nil, Int.natCast_zero, ss, sd, zI, qG, zG, zH, St.get, qE, qF, qB, zD, norm, look, zF, qA, qI, St.alloc, St.drop, zA, part, zC, depth, qD, ↓reduceIte, Nat.reduceBEq, Nat.reduceAdd, Nat.reduceSub, Nat.reduceMul, Nat.reduceEqDiff, Nat.reduceLeDiff, Nat.reduceLT, qJ, qK, qL, qM, qN, qO, qP, qQ, qR, zJ, qS, qC, qT, evSlice0, qV, qW, qX, qY, qZ, zK, fixed, zL, wit, Option.isSome_some, qH, evSliceP, evPre, St.with, zE, Array.size, te, einl, inls, efr]) trivial (fun _ _ => ?_) (fun pre x post _ hp _ g1 g2 g3 g4 => ?_)
  · simp (maxSteps := 1000000) (implicitDefEqProofs := false) only [Int.lt_irrefl, cmix_all, List.length_map, Try.ntmps74, Try.results74, efc74, fc74, ss, sd, zI, qG, zG, zH, St.get, qE, qF, qB, zD, norm, look, zF, qA, qI, St.alloc, St.drop, zA, part, zC, depth, qD, ↓reduceIte, Nat.reduceBEq, Nat.reduceAdd, Nat.reduceSub, Nat.reduceMul, Nat.reduceEqDiff, Nat.reduceLeDiff, Nat.reduceLT, qJ, qK, qL, qM, qN, qO, qP, qQ, qR, zJ, qS, qC, qT, evSlice0, qV, qW, qX, qY, qZ, zK, fixed, zL, wit, Option.isSome_some, qH, evSliceP, evPre, St.with, zE, Array.size, te, einl, inls, efr]
    exact ⟨_, rfl⟩
  · have k4 := c96 x.ps (by have := (cemOk_iff.1 (hb.2.2.2.2.2.2.2 x (by rw [hp]; simp))).2.2.1; have := hb.2.2.1; omega)
    have g5 := cmix_get g3
    have g6 := cmix_set g3
    have g7 := cmix_len cs pre.length
    have g8 : pre.length + 1 = (pre ++ [x]).length := by simp
    simp only [encCem] at g5
    simp only [encCemT, g8] at g6
    simp (maxSteps := 1000000) (implicitDefEqProofs := false) only [g1, g2, g3, g4, g5, g6, g7, k4, regN ho2 hi2, evNT_nil, evNT_cons, effN_true, effN_false, effN2_some, effN2_none, effX, effNew, effFreshed, effThaw, suppX, calmT, free, Eff.writes, supp, isBarX, Option.toList_some, Option.toList_none, reduceCtorEq, if_false, Int.natCast_nonneg, Int.toNat_natCast, List.length_map, ss, sd, zI, qG, zG, zH, St.get, qE, qF, qB, zD, norm, look, zF, qA, qI, St.alloc, St.drop, zA, part, zC, depth, qD, ↓reduceIte, Nat.reduceBEq, Nat.reduceAdd, Nat.reduceSub, Nat.reduceMul, Nat.reduceEqDiff, Nat.reduceLeDiff, Nat.reduceLT, qJ, qK, qL, qM, qN, qO, qP, qQ, qR, zJ, qS, qC, qT, evSlice0, qV, qW, qX, qY, qZ, zK, fixed, zL, wit, Option.isSome_some, qH, evSliceP, evPre, St.with, zE, Array.size, te, einl, inls, efr]
    exact ⟨(), trivial⟩
def ob75w (b : Blend) (k : Nat) (x : Cem) : List (Nat × Ob) := if k = 0 then [(2, { es := 4, flat := true, t := false, app := false, elems := [encBlend b] }), (4, { es := 4, flat := true, t := true, app := false, elems := [.agg [.int .i64 0, .emp, .emp, .emp]] }),
  (1001, { es := 4, flat := true, t := false, app := false, elems := [encBlend b] }), (1002, { es := 4, flat := true, t := true, app := false, elems := [.agg [.int .i64 0, .emp, .emp, .emp]] }),
  (1003, { es := 4, flat := false, t := false, app := false, elems := [.agg [.int .i64 b.tot, .emp, .own 1010 0 b.lo.length, .own 1015 0 b.hi.length]] }),
  (1010, { es := 1, flat := true, t := true, app := true, elems := b.lo.map vI }), (1015, { es := 1, flat := true, t := true, app := true, elems := b.hi.map vI })]
  else [(2, { es := 4, flat := true, t := false, app := false, elems := [encBlend b] }), (4, { es := 4, flat := true, t := true, app := false, elems := [.agg [.int .i64 0, .emp, .emp, .emp]] }),
  (1001, { es := 4, flat := true, t := false, app := false, elems := [encBlend b] }), (1002, { es := 4, flat := true, t := true, app := false, elems := [.agg [.int .i64 0, .emp, .emp, .emp]] }),
  (1003, { es := 4, flat := false, t := false, app := false, elems := [.agg [.int .i64 b.tot, .own 1039 0 k, .own 1010 0 b.lo.length, .own 1015 0 b.hi.length]] }),
  (1005, { es := 3, flat := false, t := false, app := false, elems := [.agg [.int .i64 x.st, .int .i64 x.co, .junk]] }),
  (1010, { es := 1, flat := true, t := true, app := true, elems := b.lo.map vI }), (1015, { es := 1, flat := true, t := true, app := true, elems := b.hi.map vI }),
  (1038, { es := 3, flat := true, t := true, app := true, elems := [.agg [.int .i64 x.st, .int .i64 x.co, .sl true (x.ps.map vI)]] }),
  (1039, { es := 3, flat := true, t := true, app := true, elems := (b.cs.take k).map encCemT })]
def ob75Ew (b : Blend) (x : Cem) : List (Nat × Ob) := [(2, { es := 4, flat := true, t := false, app := false, elems := [encBlend b] }), (4, { es := 4, flat := true, t := true, app := false, elems := [.agg [.int .i64 0, .emp, .emp, .emp]] }),
  (1001, { es := 4, flat := true, t := false, app := false, elems := [encBlend b] }),
  (1002, { es := 4, flat := false, t := true, app := false, elems := [.agg [.int .i64 b.tot, .own 1039 0 b.cs.length, .own 1010 0 b.lo.length, .own 1015 0 b.hi.length]] }),
  (1003, { es := 4, flat := false, t := false, app := false, elems := [.agg [.int .i64 b.tot, .own 1039 0 b.cs.length, .own 1010 0 b.lo.length, .own 1015 0 b.hi.length]] }),
  (1005, { es := 3, flat := false, t := false, app := false, elems := [.agg [.int .i64 x.st, .int .i64 x.co, .junk]] }),
  (1010, { es := 1, flat := true, t := true, app := true, elems := b.lo.map vI }), (1015, { es := 1, flat := true, t := true, app := true, elems := b.hi.map vI }),
  (1038, { es := 3, flat := true, t := true, app := true, elems := [.agg [.int .i64 x.st, .int .i64 x.co, .sl true (x.ps.map vI)]] }),
  (1039, { es := 3, flat := true, t := true, app := true, elems := b.cs.map encCemT })]
def st75w (outer : List (List V)) (b : Blend) (k : Nat) : St := { slots := [.junk, .ptr 1001 0 0, .ptr 1002 0 0, .ptr 1003 0 0, .int .i64 (k : Nat)] ++ List.replicate 37 .junk, outer := outer, objs := ob75w b k (b.cs.getD (k - 1) cem0) }
set_option maxRecDepth 20000 in
set_option maxHeartbeats 8000000 in
theorem c75w (outer : List (List V)) (hout : ∀ i, 1000 ≤ i → killAll i outer = outer) (b : Blend) (hb : Valid b) : ∃ sl, (orcω E XS).inl 1000 75 [encBlend b] { slots := [], outer := outer, objs := ob34w b } = some (.agg [.int .i64 b.tot, .own 1039 0 b.cs.length, .own 1010 0 b.lo.length, .own 1015 0 b.hi.length], { slots := sl, outer := outer, objs := ob75Ew b (b.cs.getD (b.cs.length - 1) cem0) }) := by
  refine (fun h : ∃ sl : List V, _ = some (V.agg [.int .i64 b.tot, .own 1039 0 b.cs.length, .own 1010 0 b.lo.length, .own 1015 0 b.hi.length], ({ slots := sl, outer := outer, objs := ob75Ew b (b.cs.getD (b.cs.length - 1) cem0) } : St)) => h.elim fun sl h => ⟨sl, inl_of rfl fn75 rfl h⟩) ?_
  have h2 := wid_bare b.lo
  have h3 : roomy b.lo.length 8 = true := by unfold roomy; have := hb.2.2.1; simp; omega
  have h2' := wid_bare b.hi
  have h3' : roomy b.hi.length 8 = true := by unfold roomy; have := hb.2.2.1; have := hb.2.2.2.1; simp; omega
  have h4 : b.lo.length ≤ 4294967296 := by have := hb.2.2.1; omega
  have h5 : b.hi.length ≤ 4294967296 := by have := hb.2.2.1; have := hb.2.2.2.1; omega
  have q1 := sized_vI b.lo
  have q2 := sized_vI b.hi
  have u1 := hout 1001 (by decide)
  have u2 := hout 1002 (by decide)
  have u3 := hout 1003 (by decide)
  have u4 := hout 1010 (by decide)
  have u5 := hout 1015 (by decide)
  have u6 := hout 1005 (by decide)
  have u7 := hout 1033 (by decide)
  have u8 := hout 1038 (by decide)
  have u9 := hout 1039 (by decide)
  have u10 := hout 1030 (by decide)
  obtain ⟨tot, cs, lo, up⟩ := b
  simp only [encBlend, ob34w, ob75Ew]
  dsimp only at *
  simp (maxSteps := 1000000) (implicitDefEqProofs := false) only [Try.ntmps75, Try.results75, efc75, fc75, h2, h3, h4, h5, h2', h3', q1, q2, List.length_map, u1, u2, u3, u4, u5, ss, sd, zI, qG, zG, zH, St.get, qE, qF, qB, zD, norm, look, zF, qA, qI, St.alloc, St.drop, zA, part, zC, depth, qD, ↓reduceIte, Nat.reduceBEq, Nat.reduceAdd, Nat.reduceSub, Nat.reduceMul, Nat.reduceEqDiff, Nat.reduceLeDiff, Nat.reduceLT, qJ, qK, qL, qM, qN, qO, qP, qQ, qR, zJ, qS, qC, qT, evSlice0, qV, qW, qX, qY, qZ, zK, fixed, zL, wit, Option.isSome_some, qH, evSliceP, evPre, St.with, zE, Array.size, te, einl, inls, efr]
  generalize hr : loopAt _ _ _ _ _ _ = r; revert r
  refine loop_st (ι := { k : Nat // k ≤ cs.length }) (fun k => st75w outer ⟨tot, cs, lo, up⟩ k.1) (fun k => cs.length - k.1) ⟨0, Nat.zero_le _⟩ (by simp only [st75w, ob75w, encBlend, if_true]; rfl) ?_
  rintro ⟨k, hk⟩
  dsimp only
  by_cases hl : k = cs.length
  · subst hl
    have z0 : ¬ cs.length = 0 := by have := hb.2.1; dsimp only at this; omega
    simp only [st75w, ob75w, encBlend, if_neg z0, List.replicate, List.cons_append, List.nil_append]
    simp (maxSteps := 1000000) (implicitDefEqProofs := false) only [Int.lt_irrefl, List.length_map, List.take_length, u1, u2, u3, Try.ntmps75, Try.results75, efc75, fc75, ss, sd, zI, qG, zG, zH, St.get, qE, qF, qB, zD, norm, look, zF, qA, qI, St.alloc, St.drop, zA, part, zC, depth, qD, ↓reduceIte, Nat.reduceBEq, Nat.reduceAdd, Nat.reduceSub, Nat.reduceMul, Nat.reduceEqDiff, Nat.reduceLeDiff, Nat.reduceLT, qJ, qK, qL, qM, qN, qO, qP, qQ, qR, zJ, qS, qC, qT, evSlice0, qV, qW, qX, qY, qZ, zK, fixed, zL, wit, Option.isSome_some, qH, evSliceP, evPre, St.with, zE, Array.size, te, einl, inls, efr]
    exact ⟨_, rfl⟩
  · have hlt : k < cs.length := by omega
    have g3 : cs[k]? = some cs[k] := List.getElem?_eq_getElem hlt
    have hps : cs[k].ps.length ≤ 3 := by have := (cemOk_iff.1 (hb.2.2.2.2.2.2.2 cs[k] (List.getElem_mem _))).2.2.1; have := hb.2.2.1; omega
    generalize cs[k] = x at *
    have b2 := wid_bare x.ps
    have b3 : roomy x.ps.length 8 = true := by unfold roomy; simp; omega
    have b4 : x.ps.length ≤ 4294967296 := by omega
    have b5 := sized_vI x.ps
    have g1 : (k : Int) < cs.length := by omega
    have g4 : IntKind.i64.wrap ((k : Int) + 1) = ((k + 1 : Nat) : Int) := by rw [wrap_in (by have := hb.2.1; dsimp only at this; omega)]; omega
    have t1 : (cs.take k).length = k := by rw [List.length_take]; omega
    have t2 : (cs.take k).map encCemT ++ [V.agg [.int .i64 x.st, .int .i64 x.co, .sl true (x.ps.map vI)]] = (cs.take (k + 1)).map encCemT := by
      rw [List.take_add_one, g3, List.map_append]; rfl
    have t3 : roomy (k + 1) 40 = true := by unfold roomy; have := hb.2.1; dsimp only at this; simp; omega
    have t4 : cs.getD (k + 1 - 1) cem0 = x := by rw [Nat.add_sub_cancel, List.getD_eq_getElem?_getD, g3]; rfl
    have t5 : k ≤ 4294967295 := by have := hb.2.1; dsimp only at this; omega
    by_cases z0 : k = 0
    · subst z0
      simp only [st75w, ob75w, encBlend, if_true, List.replicate, List.cons_append, List.nil_append, List.append_nil]
      have e1 : (0 : Int) < cs.length := by omega
      have e2 : IntKind.i64.wrap (0 + 1) = 1 := by decide
      have e3 : roomy 1 40 = true := by decide
      simp (maxSteps := 1000000) (implicitDefEqProofs := false) only [e1, e2, e3, hlt, g3, b2, b3, b4, b5, u5, u6, u7, u8, u9, u10, encCem, Int.natCast_zero, Int.le_refl, Int.toNat_zero, List.getElem?_map, List.length_map, ss, sd, zI, qG, zG, zH, St.get, qE, qF, qB, zD, norm, look, zF, qA, qI, St.alloc, St.drop, zA, part, zC, depth, qD, ↓reduceIte, Nat.reduceBEq, Nat.reduceAdd, Nat.reduceSub, Nat.reduceMul, Nat.reduceEqDiff, Nat.reduceLeDiff, Nat.reduceLT, qJ, qK, qL, qM, qN, qO, qP, qQ, qR, zJ, qS, qC, qT, evSlice0, qV, qW, qX, qY, qZ, zK, fixed, zL, wit, Option.isSome_some, qH, evSliceP, evPre, St.with, zE, Array.size, te, einl, inls, efr]
      refine ⟨⟨0 + 1, hlt⟩, ?_, by dsimp only; omega⟩
      dsimp only
      rw [if_neg (Nat.succ_ne_zero 0), ← t2]
      simp only [List.take_zero, List.map_nil, List.nil_append, Nat.zero_add, Nat.sub_self, t4]
      rfl
    · generalize cs.getD (k - 1) cem0 = x0 at *
      simp only [st75w, ob75w, encBlend, if_neg z0, List.replicate, List.cons_append, List.nil_append]
      simp (maxSteps := 1000000) (implicitDefEqProofs := false) only [g1, hlt, g3, g4, t1, t2, t3, t5, b2, b3, b4, b5, u5, u6, u7, u8, u9, u10, encCem, Int.natCast_nonneg, Int.toNat_natCast, List.getElem?_map, List.length_map, ss, sd, zI, qG, zG, zH, St.get, qE, qF, qB, zD, norm, look, zF, qA, qI, St.alloc, St.drop, zA, part, zC, depth, qD, ↓reduceIte, Nat.reduceBEq, Nat.reduceAdd, Nat.reduceSub, Nat.reduceMul, Nat.reduceEqDiff, Nat.reduceLeDiff, Nat.reduceLT, qJ, qK, qL, qM, qN, qO, qP, qQ, qR, zJ, qS, qC, qT, evSlice0, qV, qW, qX, qY, qZ, zK, fixed, zL, wit, Option.isSome_some, qH, evSliceP, evPre, St.with, zE, Array.size, te, einl, inls, efr]
      refine ⟨⟨k + 1, hlt⟩, ?_, by dsimp only; omega⟩
      dsimp only
      rw [if_neg (Nat.succ_ne_zero k)]
      simp only [t4]
end Go.AM.E
end

section
/-
A blend without a cement.
-/
namespace Go.AM.E
open Go Go.AM Go.Proofs

theorem del_take {l : List V} {c : Nat} {t : Bool} {z : V} (hc : c < l.length) : ((overL l c (retagL t (l.drop (c + 1)))).set (l.length - 1) z).take (l.length - 1) = l.take c ++ retagL t (l.drop (c + 1)) := by
  have h1 : (retagL t (l.drop (c + 1))).length = l.length - (c + 1) := by rw [retagL_len, List.length_drop]
  have h2 := over_take (retagL t (l.drop (c + 1))) l c (by omega)
  rw [h1, show c + (l.length - (c + 1)) = l.length - 1 by omega] at h2
  rw [List.take_set_of_le (Nat.le_refl _), h2]
theorem retag_cemT (t : Bool) : ∀ l : List Cem, retagL t (l.map encCemT) = l.map fun x => V.agg [.int .i64 x.st, .int .i64 x.co, .sl t (x.ps.map vI)]
  | [] => rfl
  | x :: r => by
    rw [List.map_cons, retagL, retag_cemT t r]
    rfl
theorem cells3_T (l : List Cem) : Cells3 (l.map encCemT) := fun v hv => by
  obtain ⟨x, _, rfl⟩ := List.mem_map.1 hv
  exact ⟨_, rfl, rfl⟩
theorem free_T (l : List Cem) : refFreeL (l.map encCemT) = true := refFreeL_map (fun _ => rfl) l
def gapL (t : Bool) (l : List Cem) (c : Nat) : List V := (l.take c).map encCemT ++ (l.drop (c + 1)).map fun x => V.agg [.int .i64 x.st, .int .i64 x.co, .sl t (x.ps.map vI)]
theorem gap_eq {l : List Cem} {c : Nat} {t : Bool} {z : V} (hc : c < l.length) : ((overL (l.map encCemT) c (retagL t ((l.map encCemT).drop (c + 1)))).set (l.length - 1) z).take (l.length - 1) = gapL t l c := by
  have h := del_take (l := l.map encCemT) (c := c) (t := t) (z := z) (by rw [List.length_map]; exact hc)
  rw [List.length_map] at h
  rw [h, ← List.map_take, ← List.map_drop, retag_cemT]
  rfl
theorem c80f (id : Nat) (l : List V) (t : Bool) (hc : Cells3 l) (hf : refFreeL l = true) (c : Nat) (hcl : c < l.length) (hn : l.length ≤ 1000) : ∃ f : List (List V) → List (Nat × Ob) → List V, ∀ outer objs,
    look objs id = some { es := 3, flat := true, t := t, app := true, elems := l } → upd objs id { es := 3, flat := true, t := t, app := true, elems := l } = objs →
    (orcω E XS).inl 1000 80 [.own id 0 l.length, .int .i64 (c : Nat), .int .i64 ((c + 1 : Nat) : Int)] { slots := [], outer := outer, objs := objs } = some (.pre id 0 (l.length - 1) l.length, { slots := f outer objs, outer := outer, objs := upd objs id { es := 3, flat := true, t := t && isNewL (retagL t (l.drop (c + 1))), app := true, elems := (overL l c (retagL t (l.drop (c + 1)))).set (l.length - 1) cemZ } }) := by
  classical
  refine ⟨fun outer objs => if h : look objs id = some { es := 3, flat := true, t := t, app := true, elems := l } ∧ upd objs id { es := 3, flat := true, t := t, app := true, elems := l } = objs then (c80 id outer objs l t h.1 h.2 hc hf c hcl hn).choose else [], fun outer objs g1 g2 => ?_⟩
  dsimp only
  rw [dif_pos ⟨g1, g2⟩]
  exact (c80 id outer objs l t g1 g2 hc hf c hcl hn).choose_spec
set_option maxRecDepth 20000 in
set_option maxHeartbeats 8000000 in
theorem c41 (b : Blend) (hb : Valid b) (c : Nat) (hc : c < b.cs.length) (h1 : ¬ b.cs.length = 1) : (orcω E XS).call 41 [encBlend b, .int .i64 (c : Nat)] = some (.tup [.agg [.int .i64 b.tot, .sl false (gapL false b.cs c), .sl true (b.lo.map vI), .sl true (b.hi.map vI)], .int .i64 0]) := by
  refine call_of rfl fn41 rfl ?_
  have k15 := c15 b
  rw [errV_yes hb] at k15
  have hn := hb.2.1
  have k47 := c47 c 0 (b.cs.length - 1)
  rw [inB_iff.2 (by omega)] at k47
  have w1 : IntKind.i64.wrap ((b.cs.length : Int) - 1) = b.cs.length - 1 := wrap_in (by omega)
  have w2 : IntKind.i64.wrap ((c : Int) + 1) = ((c + 1 : Nat) : Int) := by rw [wrap_in (by omega)]; omega
  have n1 : ((b.cs.length : Int) == 1) = false := by rw [beq_eq_false_iff_ne]; omega
  have k74 := fun outer => (c74w outer b hb).choose_spec
  obtain ⟨f, k80⟩ := c80f 1012 (b.cs.map encCemT) false (cells3_T _) (free_T _) c (by rw [List.length_map]; exact hc) (by rw [List.length_map]; omega)
  have hg := gap_eq (z := cemZ) (t := false) hc
  have hl : (overL (b.cs.map encCemT) c (retagL false ((b.cs.map encCemT).drop (c + 1)))).length = b.cs.length := by rw [over_len, List.length_map]
  simp only [List.length_map, Bool.false_and] at k80
  generalize overL (b.cs.map encCemT) c (retagL false ((b.cs.map encCemT).drop (c + 1))) = R at *
  generalize gapL false b.cs c = G at *
  obtain ⟨tot, cs, lo, up⟩ := b
  simp only [encBlend, ob34w, ob74w] at k15 k74 ⊢
  dsimp only at *
  simp (maxSteps := 1000000) (implicitDefEqProofs := false) only [Try.ntmps41, Try.results41, efc41, fc41, k15, k47, w1, w2, n1, bne_self_eq_false, List.length_map, Bool.not_true, ss, sd, zI, qG, zG, zH, St.get, qE, qF, qB, zD, norm, look, zF, qA, qI, St.alloc, St.drop, zA, part, zC, depth, qD, ↓reduceIte, Nat.reduceBEq, Nat.reduceAdd, Nat.reduceSub, Nat.reduceMul, Nat.reduceEqDiff, Nat.reduceLeDiff, Nat.reduceLT, qJ, qK, qL, qM, qN, qO, qP, qQ, qR, zJ, qS, qC, qT, evSlice0, qV, qW, qX, qY, qZ, zK, fixed, zL, wit, Option.isSome_some, qH, evSliceP, evPre, St.with, zE, Array.size, te, einl, inls, efr]
  rw [k74]
  simp (maxSteps := 1000000) (implicitDefEqProofs := false) only [Try.ntmps41, Try.results41, efc41, fc41, w2, List.length_map, ss, sd, zI, qG, zG, zH, St.get, qE, qF, qB, zD, norm, look, zF, qA, qI, St.alloc, St.drop, zA, part, zC, depth, qD, ↓reduceIte, Nat.reduceBEq, Nat.reduceAdd, Nat.reduceSub, Nat.reduceMul, Nat.reduceEqDiff, Nat.reduceLeDiff, Nat.reduceLT, qJ, qK, qL, qM, qN, qO, qP, qQ, qR, zJ, qS, qC, qT, evSlice0, qV, qW, qX, qY, qZ, zK, fixed, zL, wit, Option.isSome_some, qH, evSliceP, evPre, St.with, zE, Array.size, te, einl, inls, efr]
  rw [k80 _ _ ?g1 ?g2]
  case g1 => simp (maxSteps := 1000000) (implicitDefEqProofs := false) only [ss, sd, zI, qG, zG, zH, St.get, qE, qF, qB, zD, norm, look, zF, qA, qI, St.alloc, St.drop, zA, part, zC, depth, qD, ↓reduceIte, Nat.reduceBEq, Nat.reduceAdd, Nat.reduceSub, Nat.reduceMul, Nat.reduceEqDiff, Nat.reduceLeDiff, Nat.reduceLT, qJ, qK, qL, qM, qN, qO, qP, qQ, qR, zJ, qS, qC, qT, evSlice0, qV, qW, qX, qY, qZ, zK, fixed, zL, wit, Option.isSome_some, qH, evSliceP, evPre, St.with, zE, Array.size, te, einl, inls, efr]
  case g2 => simp (maxSteps := 1000000) (implicitDefEqProofs := false) only [ss, sd, zI, qG, zG, zH, St.get, qE, qF, qB, zD, norm, look, zF, qA, qI, St.alloc, St.drop, zA, part, zC, depth, qD, ↓reduceIte, Nat.reduceBEq, Nat.reduceAdd, Nat.reduceSub, Nat.reduceMul, Nat.reduceEqDiff, Nat.reduceLeDiff, Nat.reduceLT, qJ, qK, qL, qM, qN, qO, qP, qQ, qR, zJ, qS, qC, qT, evSlice0, qV, qW, qX, qY, qZ, zK, fixed, zL, wit, Option.isSome_some, qH, evSliceP, evPre, St.with, zE, Array.size, te, einl, inls, efr]
  have m6 : cs.length - 1 ≤ cs.length := Nat.sub_le _ _
  simp (maxSteps := 1000000) (implicitDefEqProofs := false) only [Try.ntmps41, Try.results41, efc41, fc41, hg, hl, m6, List.length_set, List.length_map, ss, sd, zI, qG, zG, zH, St.get, qE, qF, qB, zD, norm, look, zF, qA, qI, St.alloc, St.drop, zA, part, zC, depth, qD, ↓reduceIte, Nat.reduceBEq, Nat.reduceAdd, Nat.reduceSub, Nat.reduceMul, Nat.reduceEqDiff, Nat.reduceLeDiff, Nat.reduceLT, qJ, qK, qL, qM, qN, qO, qP, qQ, qR, zJ, qS, qC, qT, evSlice0, qV, qW, qX, qY, qZ, zK, fixed, zL, wit, Option.isSome_some, qH, evSliceP, evPre, St.with, zE, Array.size, te, einl, inls, efr]
end Go.AM.E
end

section
/-
A blend without a cement: the document's form, and errors.
-/
namespace Go.AM.E
open Go Go.AM Go.Proofs

theorem inf42 : (drawn (Try.f42.body.getD .skip)).map infosOf = [[([], false), ([], false), ([], false), ([], false), ([], false), ([], false), ([], false), ([], false), ([], false), ([], true), ([], true), ([], true)]] := by decide +kernel
theorem okD42 : (drawn (Try.f42.body.getD .skip)).all okBad = true := by decide +kernel
theorem new_T : ∀ l : List Cem, isNewL (l.map encCemT) = true := fun l => isNewL_map (fun _ => rfl) l
set_option maxRecDepth 20000 in
set_option maxHeartbeats 8000000 in
theorem c42 (b : Blend) (hb : Valid b) (c : Nat) (hc : c < b.cs.length) (h1 : ¬ b.cs.length = 1) : (orcω E XS).call 42 [encBlend b, .int .i64 (c : Nat)] = some (.tup [.agg [.int .i64 b.tot, .sl true (gapL true b.cs c), .sl true (b.lo.map vI), .sl true (b.hi.map vI)], .int .i64 0]) := by
  refine call_of rfl fn42 rfl ?_
  have k15 := c16 b
  rw [errV_yes hb] at k15
  have hn := hb.2.1
  have n4 : ¬ (c : Int) < 0 := by omega
  have n5 : ¬ (b.cs.length : Int) ≤ c := by omega
  have n6 : (c : Int) ≤ b.cs.length := by omega
  have n7 : ((c + 1 : Nat) : Int) ≤ b.cs.length := by omega
  have n8 : 0 < b.cs.length := by omega
  have n9 : c ≤ b.cs.length := by omega
  have w2 : IntKind.i64.wrap ((c : Int) + 1) = ((c + 1 : Nat) : Int) := by rw [wrap_in (by omega)]; omega
  have n1 : ((b.cs.length : Int) == 1) = false := by rw [beq_eq_false_iff_ne]; omega
  have k75 := fun outer h => c75w outer h b hb
  generalize b.cs.getD (b.cs.length - 1) cem0 = x0 at *
  have hl0 : (b.cs.map encCemT).length = b.cs.length := List.length_map _
  obtain ⟨l, hle⟩ : ∃ l, l = b.cs.map encCemT := ⟨_, rfl⟩
  have m1 : ((b.cs.length : Int) - ((c + 1 : Nat) : Int)).toNat = b.cs.length - (c + 1) := by omega
  have m2 : (l.drop (c + 1)).take (b.cs.length - (c + 1)) = l.drop (c + 1) := List.take_of_length_le (by rw [hle, List.length_drop, hl0]; exact Nat.le_refl _)
  have m3 : c + 1 + (b.cs.length - (c + 1)) ≤ b.cs.length := by omega
  have m4 : c + (b.cs.length - (c + 1)) = b.cs.length - 1 := by omega
  have hc3 : Cells3 l := by rw [hle]; exact cells3_T _
  have hf3 : refFreeL l = true := by rw [hle]; exact free_T _
  have m5 : sized 3 (l.drop (c + 1)) = true := sized_c3 fun v hv => hc3 v (List.mem_of_mem_drop hv)
  have m6 : b.cs.length - 1 ≤ b.cs.length := by omega
  obtain ⟨r1, r2, r3⟩ := retag_c3 (l := l.drop (c + 1)) true (fun v hv => hc3 v (List.mem_of_mem_drop hv)) (refFreeL_drop hf3 _)
  have hnw : isNewL (retagL true (l.drop (c + 1))) = true := by
    rw [hle, ← List.map_drop, retag_cemT]
    exact new_T _
  have hll : l.length = b.cs.length := by rw [hle]; exact hl0
  have kc := fun outer slots objs g1 g2 => copy_cem (id := 1039) (app := true) outer slots (retagL true (l.drop (c + 1))) l c objs true g1 g2 r1 hc3 r2 (by rw [r3, List.length_drop]; omega)
  rw [hnw] at kc
  have hg0 := over_take (retagL true (l.drop (c + 1))) l c (by rw [r3, List.length_drop]; omega)
  have hg : (overL l c (retagL true (l.drop (c + 1)))).take (b.cs.length - 1) = gapL true b.cs c := by
    rw [r3, List.length_drop, hll, m4] at hg0
    rw [hg0, hle, ← List.map_take, ← List.map_drop, retag_cemT]
    rfl
  have hl : (overL l c (retagL true (l.drop (c + 1)))).length = b.cs.length := by rw [over_len, hll]
  have hd : (l.drop (c + 1)).length = b.cs.length - (c + 1) := by rw [List.length_drop, hll]
  generalize overL l c (retagL true (l.drop (c + 1))) = R at *
  generalize hY : retagL true (l.drop (c + 1)) = Y at *
  generalize gapL true b.cs c = G at *
  have hi := inf42
  have ho := okD42
  simp only [Try.f42, Option.getD_some, drawn, List.map_cons, List.map_nil, List.append_nil, List.nil_append, List.cons_append, List.cons.injEq, List.all_cons, List.all_nil, Bool.and_true, Bool.and_eq_true, and_true] at hi ho
  obtain ⟨tot, cs, lo, up⟩ := b
  simp only [encBlend, ob34w, ob75Ew, ← hle] at k15 k75 ⊢
  simp only [ti73] at kc
  dsimp only at *
  simp (maxSteps := 1000000) (implicitDefEqProofs := false) only [Try.ntmps42, Try.results42, efc42, fc42, k15, n4, n5, n1, bne_self_eq_false, List.length_map, Bool.not_true, ss, sd, zI, qG, zG, zH, St.get, qE, qF, qB, zD, norm, look, zF, qA, qI, St.alloc, St.drop, zA, part, zC, depth, qD, ↓reduceIte, Nat.reduceBEq, Nat.reduceAdd, Nat.reduceSub, Nat.reduceMul, Nat.reduceEqDiff, Nat.reduceLeDiff, Nat.reduceLT, qJ, qK, qL, qM, qN, qO, qP, qQ, qR, zJ, qS, qC, qT, evSlice0, qV, qW, qX, qY, qZ, zK, fixed, zL, wit, Option.isSome_some, qH, evSliceP, evPre, St.with, zE, Array.size, te, einl, inls, efr]
  rw [(k75 _ ?h).choose_spec]
  case h =>
    intro i hi
    simp (maxSteps := 1000000) (implicitDefEqProofs := false) only [show ¬ 2 = i by omega, show ¬ 4 = i by omega, ss, sd, zI, qG, zG, zH, St.get, qE, qF, qB, zD, norm, look, zF, qA, qI, St.alloc, St.drop, zA, part, zC, depth, qD, ↓reduceIte, Nat.reduceBEq, Nat.reduceAdd, Nat.reduceSub, Nat.reduceMul, Nat.reduceEqDiff, Nat.reduceLeDiff, Nat.reduceLT, qJ, qK, qL, qM, qN, qO, qP, qQ, qR, zJ, qS, qC, qT, evSlice0, qV, qW, qX, qY, qZ, zK, fixed, zL, wit, Option.isSome_some, qH, evSliceP, evPre, St.with, zE, Array.size, te, einl, inls, efr]
  simp (maxSteps := 1000000) (implicitDefEqProofs := false) only [Try.ntmps42, Try.results42, efc42, fc42, regT ho hi, evBT_nil, evBT_cons, effT_true, effT_false, effT2_some, effT2_none, calmT, free, Eff.writes, supp, isBar, reduceCtorEq, if_false, n6, n7, n8, n9, w2, m1, m2, m3, m4, m5, m6, hll, hd, hl, hg, hY, kc, Int.natCast_nonneg, Int.toNat_natCast, Int.sub_zero, Int.toNat_zero, Nat.zero_add, Int.le_refl, Nat.sub_zero, List.length_map, ss, sd, zI, qG, zG, zH, St.get, qE, qF, qB, zD, norm, look, zF, qA, qI, St.alloc, St.drop, zA, part, zC, depth, qD, ↓reduceIte, Nat.reduceBEq, Nat.reduceAdd, Nat.reduceSub, Nat.reduceMul, Nat.reduceEqDiff, Nat.reduceLeDiff, Nat.reduceLT, qJ, qK, qL, qM, qN, qO, qP, qQ, qR, zJ, qS, qC, qT, evSlice0, qV, qW, qX, qY, qZ, zK, fixed, zL, wit, Option.isSome_some, qH, evSliceP, evPre, St.with, zE, Array.size, te, einl, inls, efr]
theorem withoutE_err {b : Blend} {c : Int} (h : errV b = 1 ∨ (Valid b ∧ (inB c 0 (b.cs.length - 1) = false ∨ b.cs.length = 1))) : withoutE b c ≠ 0 := by
  unfold withoutE
  rcases h with h | ⟨hb, h⟩
  · rw [if_pos (by rw [h]; decide), h]; decide
  · rw [if_neg (by rw [errV_yes hb]; decide)]
    by_cases h1 : inB c 0 (b.cs.length - 1) = false
    · rw [if_pos h1]; decide
    · rw [if_neg h1]
      rcases h with h | h
      · exact absurd h h1
      · rw [if_pos h]; decide
set_option maxRecDepth 20000 in
set_option maxHeartbeats 8000000 in
theorem c41e (b : Blend) (c : Int) (h : errV b = 1 ∨ (Valid b ∧ (inB c 0 (b.cs.length - 1) = false ∨ b.cs.length = 1))) : (orcω E XS).call 41 [encBlend b, .int .i64 c] = some (.tup [.agg [.int .i64 0, .sl true [], .sl true [], .sl true []], .int .i64 (withoutE b c)]) := by
  refine call_of rfl fn41 rfl ?_
  have k15 := c15 b
  have k47 := c47 c 0 (b.cs.length - 1)
  unfold withoutE
  rcases h with h | ⟨hb, h⟩
  · rw [h] at k15 ⊢
    rw [if_pos (by decide)]
    obtain ⟨tot, cs, lo, up⟩ := b
    simp only [encBlend] at k15 ⊢
    simp (maxSteps := 1000000) (implicitDefEqProofs := false) only [Try.ntmps41, Try.results41, efc41, fc41, k15, show ((1 : Int) != 0) = true by decide, ss, sd, zI, qG, zG, zH, St.get, qE, qF, qB, zD, norm, look, zF, qA, qI, St.alloc, St.drop, zA, part, zC, depth, qD, ↓reduceIte, Nat.reduceBEq, Nat.reduceAdd, Nat.reduceSub, Nat.reduceMul, Nat.reduceEqDiff, Nat.reduceLeDiff, Nat.reduceLT, qJ, qK, qL, qM, qN, qO, qP, qQ, qR, zJ, qS, qC, qT, evSlice0, qV, qW, qX, qY, qZ, zK, fixed, zL, wit, Option.isSome_some, qH, evSliceP, evPre, St.with, zE, Array.size, te, einl, inls, efr]
  · have w1 : IntKind.i64.wrap ((b.cs.length : Int) - 1) = b.cs.length - 1 := by have := hb.2.1; exact wrap_in (by omega)
    rw [errV_yes hb] at k15 ⊢
    rw [if_neg (by decide)]
    obtain ⟨tot, cs, lo, up⟩ := b
    simp only [encBlend] at k15 k47 w1 h ⊢
    cases h1 : inB c 0 (cs.length - 1) with
    | false =>
      rw [h1] at k47
      simp (maxSteps := 1000000) (implicitDefEqProofs := false) only [Try.ntmps41, Try.results41, efc41, fc41, k15, k47, w1, bne_self_eq_false, List.length_map, Bool.not_false, ss, sd, zI, qG, zG, zH, St.get, qE, qF, qB, zD, norm, look, zF, qA, qI, St.alloc, St.drop, zA, part, zC, depth, qD, ↓reduceIte, Nat.reduceBEq, Nat.reduceAdd, Nat.reduceSub, Nat.reduceMul, Nat.reduceEqDiff, Nat.reduceLeDiff, Nat.reduceLT, qJ, qK, qL, qM, qN, qO, qP, qQ, qR, zJ, qS, qC, qT, evSlice0, qV, qW, qX, qY, qZ, zK, fixed, zL, wit, Option.isSome_some, qH, evSliceP, evPre, St.with, zE, Array.size, te, einl, inls, efr]
    | true =>
      rw [h1] at k47 h
      rcases h with h | h
      · cases h
      have n1 : ((cs.length : Int) == 1) = true := by rw [beq_iff_eq]; omega
      rw [if_neg (by decide), if_pos h]
      simp (maxSteps := 1000000) (implicitDefEqProofs := false) only [Try.ntmps41, Try.results41, efc41, fc41, k15, k47, w1, n1, bne_self_eq_false, List.length_map, Bool.not_true, ss, sd, zI, qG, zG, zH, St.get, qE, qF, qB, zD, norm, look, zF, qA, qI, St.alloc, St.drop, zA, part, zC, depth, qD, ↓reduceIte, Nat.reduceBEq, Nat.reduceAdd, Nat.reduceSub, Nat.reduceMul, Nat.reduceEqDiff, Nat.reduceLeDiff, Nat.reduceLT, qJ, qK, qL, qM, qN, qO, qP, qQ, qR, zJ, qS, qC, qT, evSlice0, qV, qW, qX, qY, qZ, zK, fixed, zL, wit, Option.isSome_some, qH, evSliceP, evPre, St.with, zE, Array.size, te, einl, inls, efr]
set_option maxRecDepth 20000 in
set_option maxHeartbeats 8000000 in
theorem c42e (b : Blend) (c : Int) (h : errV b = 1 ∨ (Valid b ∧ (inB c 0 (b.cs.length - 1) = false ∨ b.cs.length = 1))) : (orcω E XS).call 42 [encBlend b, .int .i64 c] = some (.tup [.agg [.int .i64 0, .sl true [], .sl true [], .sl true []], .int .i64 (withoutE b c)]) := by
  refine call_of rfl fn42 rfl ?_
  have k15 := c16 b
  unfold withoutE
  rcases h with h | ⟨hb, h⟩
  · rw [h] at k15 ⊢
    rw [if_pos (by decide)]
    obtain ⟨tot, cs, lo, up⟩ := b
    simp only [encBlend] at k15 ⊢
    simp (maxSteps := 1000000) (implicitDefEqProofs := false) only [Try.ntmps42, Try.results42, efc42, fc42, k15, show ((1 : Int) != 0) = true by decide, ss, sd, zI, qG, zG, zH, St.get, qE, qF, qB, zD, norm, look, zF, qA, qI, St.alloc, St.drop, zA, part, zC, depth, qD, ↓reduceIte, Nat.reduceBEq, Nat.reduceAdd, Nat.reduceSub, Nat.reduceMul, Nat.reduceEqDiff, Nat.reduceLeDiff, Nat.reduceLT, qJ, qK, qL, qM, qN, qO, qP, qQ, qR, zJ, qS, qC, qT, evSlice0, qV, qW, qX, qY, qZ, zK, fixed, zL, wit, Option.isSome_some, qH, evSliceP, evPre, St.with, zE, Array.size, te, einl, inls, efr]
  · rw [errV_yes hb] at k15 ⊢
    rw [if_neg (by decide)]
    obtain ⟨tot, cs, lo, up⟩ := b
    simp only [encBlend] at k15 h ⊢
    by_cases n1 : c < 0
    · have h1 : inB c 0 (cs.length - 1) = false := by rw [Bool.eq_false_iff]; intro hh; have := inB_iff.1 hh; omega
      simp (maxSteps := 1000000) (implicitDefEqProofs := false) only [Try.ntmps42, Try.results42, efc42, fc42, k15, n1, h1, bne_self_eq_false, List.length_map, ss, sd, zI, qG, zG, zH, St.get, qE, qF, qB, zD, norm, look, zF, qA, qI, St.alloc, St.drop, zA, part, zC, depth, qD, ↓reduceIte, Nat.reduceBEq, Nat.reduceAdd, Nat.reduceSub, Nat.reduceMul, Nat.reduceEqDiff, Nat.reduceLeDiff, Nat.reduceLT, qJ, qK, qL, qM, qN, qO, qP, qQ, qR, zJ, qS, qC, qT, evSlice0, qV, qW, qX, qY, qZ, zK, fixed, zL, wit, Option.isSome_some, qH, evSliceP, evPre, St.with, zE, Array.size, te, einl, inls, efr]
    by_cases n2 : (cs.length : Int) ≤ c
    · have h1 : inB c 0 (cs.length - 1) = false := by rw [Bool.eq_false_iff]; intro hh; have := inB_iff.1 hh; omega
      simp (maxSteps := 1000000) (implicitDefEqProofs := false) only [Try.ntmps42, Try.results42, efc42, fc42, k15, n1, n2, h1, bne_self_eq_false, List.length_map, ss, sd, zI, qG, zG, zH, St.get, qE, qF, qB, zD, norm, look, zF, qA, qI, St.alloc, St.drop, zA, part, zC, depth, qD, ↓reduceIte, Nat.reduceBEq, Nat.reduceAdd, Nat.reduceSub, Nat.reduceMul, Nat.reduceEqDiff, Nat.reduceLeDiff, Nat.reduceLT, qJ, qK, qL, qM, qN, qO, qP, qQ, qR, zJ, qS, qC, qT, evSlice0, qV, qW, qX, qY, qZ, zK, fixed, zL, wit, Option.isSome_some, qH, evSliceP, evPre, St.with, zE, Array.size, te, einl, inls, efr]
    have h1 : inB c 0 (cs.length - 1) = true := inB_iff.2 (by omega)
    rw [h1] at h ⊢
    rcases h with h | h
    · cases h
    have n3 : ((cs.length : Int) == 1) = true := by rw [beq_iff_eq]; omega
    rw [if_neg (by decide), if_pos h]
    simp (maxSteps := 1000000) (implicitDefEqProofs := false) only [Try.ntmps42, Try.results42, efc42, fc42, k15, n1, n2, n3, bne_self_eq_false, List.length_map, ss, sd, zI, qG, zG, zH, St.get, qE, qF, qB, zD, norm, look, zF, qA, qI, St.alloc, St.drop, zA, part, zC, depth, qD, ↓reduceIte, Nat.reduceBEq, Nat.reduceAdd, Nat.reduceSub, Nat.reduceMul, Nat.reduceEqDiff, Nat.reduceLeDiff, Nat.reduceLT, qJ, qK, qL, qM, qN, qO, qP, qQ, qR, zJ, qS, qC, qT, evSlice0, qV, qW, qX, qY, qZ, zK, fixed, zL, wit, Option.isSome_some, qH, evSliceP, evPre, St.with, zE, Array.size, te, einl, inls, efr]
end Go.AM.E
end

section
/-
The law: a blend without a cement is never cheaper.
-/
namespace Go.AM.E
open Go Go.AM Go.RowKit Go.Proofs

noncomputable def XV : Ext := { call := fun g vs => if [17, 36, 37, 41, 42].contains g = true then (orcω E XS).call g (lowL vs) else XS.call g vs, inl := XS.inl }
theorem XV_ok : ExtOk Try.prog XV := ⟨(fun g vs r hr => by
  simp only [XV] at hr
  split at hr
  · exact (Orc.callOk E_ok XS_ok mixed hr).low
  · exact XS_ok.call _ _ _ hr), XS_ok.inl⟩
theorem cV {g : Nat} {vs us : List V} {r : V} (hg : [17, 36, 37, 41, 42].contains g = true) (h : (orcω E XS).call g us = some r) (hl : lowL vs = us) : (orcω E XV).call g vs = some r := by
  refine (orcω_le 0).call _ _ _ ?_
  simp only [orc, XV, hg, if_true, hl, h]
theorem lowEL_app : ∀ a b : List V, lowEL (a ++ b) = lowEL a ++ lowEL b
  | [], _ => rfl
  | v :: r, b => by simp only [List.cons_append, lowEL, lowEL_app r b]
theorem lowW_G (t : Bool) (l : List Cem) : lowEL (l.map fun x => V.agg [.int .i64 x.st, .int .i64 x.co, .sl t (x.ps.map vI)]) = l.map encCem := lowL_map (fun c => by unfold encCem; simp only [lowE, lowEL, lowW_vI]) l
theorem low_gap (t : Bool) (l : List Cem) (c : Nat) : lowEL (gapL t l c) = (l.eraseIdx c).map encCem := by
  unfold gapL
  rw [lowEL_app, lowW_C, lowW_G, ← List.map_append, List.eraseIdx_eq_take_drop_succ]
def encGap (t : Bool) (b : Blend) (c : Nat) : V := .agg [.int .i64 b.tot, .sl false (gapL t b.cs c), .sl false (b.lo.map vI), .sl false (b.hi.map vI)]
theorem low_encGap (t : Bool) (b : Blend) (c : Nat) : low (encGap t b c) = encBlend (withoutB b c) := by
  unfold encGap encBlend withoutB
  simp only [low, lowL, lowW_vI, low_gap]
set_option maxRecDepth 20000 in
set_option maxHeartbeats 8000000 in
theorem c13 (b : Blend) (c : Int) : (orcω E XV).call 13 [encBlend b, .int .i64 c] = some (.bool true) := by
  refine call_of rfl fn13 rfl ?_
  have k17 : (orcω E XV).call 17 [] = some (.bool true) := cV rfl c17 rfl
  by_cases h : errV b = 1 ∨ (Valid b ∧ (inB c 0 (b.cs.length - 1) = false ∨ b.cs.length = 1))
  · have k41 : (orcω E XV).call 41 [encBlend b, .int .i64 c] = _ := cV rfl (c41e b c h) (by simp only [lowL, lowW_blend]; rfl)
    have k42 : (orcω E XV).call 42 [encBlend b, .int .i64 c] = _ := cV rfl (c42e b c h) (by simp only [lowL, lowW_blend]; rfl)
    have k36 : (orcω E XV).call 36 [.agg [.int .i64 0, .sl false [], .sl false [], .sl false []], .agg [.int .i64 0, .sl false [], .sl false [], .sl false []]] = _ := cV rfl (c36 bNil (by decide) (by decide) (by decide) (by intro c hc; cases hc)) rfl
    have he := withoutE_err h
    generalize withoutE b c = e at *
    have q1 : (e != 0) = true := by simpa using he
    obtain ⟨tot, cs, lo, up⟩ := b
    simp only [encBlend] at k41 k42 k36 ⊢
    simp (maxSteps := 1000000) (implicitDefEqProofs := false) only [Try.ntmps13, Try.results13, efc13, k17, k41, k42, k36, q1, bne_self_eq_false, Bool.not_true, ss, sd, zI, qG, zG, zH, St.get, qE, qF, qB, zD, norm, look, zF, qA, qI, St.alloc, St.drop, zA, part, zC, depth, qD, ↓reduceIte, Nat.reduceBEq, Nat.reduceAdd, Nat.reduceSub, Nat.reduceMul, Nat.reduceEqDiff, Nat.reduceLeDiff, Nat.reduceLT, qJ, qK, qL, qM, qN, qO, qP, qQ, qR, zJ, qS, qC, qT, evSlice0, qV, qW, qX, qY, qZ, zK, fixed, zL, wit, Option.isSome_some, qH, evSliceP, evPre, St.with, zE, Array.size, te, einl, inls, efr]
  · have hv : Valid b := by
      rcases errV_cases b with h1 | h1
      · exact errV_zero h1
      · exact absurd (.inl h1) h
    have hm : ¬ b.cs.length = 1 := fun h1 => h (.inr ⟨hv, .inr h1⟩)
    have hp : inB c 0 (b.cs.length - 1) = true := by
      cases h1 : inB c 0 (b.cs.length - 1) with
      | true => rfl
      | false => exact absurd (.inr ⟨hv, .inl h1⟩) h
    have hp' := inB_iff.1 hp
    obtain ⟨n, rfl⟩ : ∃ n : Nat, c = n := ⟨c.toNat, by omega⟩
    have hn : n < b.cs.length := by omega
    have hw := without_valid hv hn hm
    have k41 : (orcω E XV).call 41 [encBlend b, .int .i64 (n : Nat)] = _ := cV rfl (c41 b hv n hn hm) (by simp only [lowL, lowW_blend]; rfl)
    have k42 : (orcω E XV).call 42 [encBlend b, .int .i64 (n : Nat)] = _ := cV rfl (c42 b hv n hn hm) (by simp only [lowL, lowW_blend]; rfl)
    have k36 : (orcω E XV).call 36 [encGap false b n, encGap true b n] = _ := cV rfl (c36 (withoutB b n) (by have := hw.2.2.1; omega) (by have := hw.2.2.1; have := hw.2.2.2.1; omega) (by have := hw.2.1; omega) (fun c hc => by have := (cemOk_iff.1 (hw.2.2.2.2.2.2.2 c hc)).2.2.1; have := hw.2.2.1; omega)) (by simp only [lowL, low_encGap])
    have k37 : (orcω E XV).call 37 [encBlend b, encGap false b n] = _ := cV rfl (c37 b (withoutB b n) hv hw (without_dearer hv hn)) (by simp only [lowL, low_encGap, lowW_blend])
    have f1 : refFreeL (gapL false b.cs n) = true := by unfold gapL; rw [refFreeL_app, refFreeL_map (fun _ => rfl), refFreeL_map (fun _ => rfl)]; rfl
    have f2 : refFreeL (gapL true b.cs n) = true := by unfold gapL; rw [refFreeL_app, refFreeL_map (fun _ => rfl), refFreeL_map (fun _ => rfl)]; rfl
    simp only [encGap] at k36 k37
    generalize gapL false b.cs n = g1 at *
    generalize gapL true b.cs n = g2 at *
    obtain ⟨tot, cs, lo, up⟩ := b
    simp only [encBlend] at k41 k42 k36 k37 ⊢
    simp (maxSteps := 1000000) (implicitDefEqProofs := false) only [Try.ntmps13, Try.results13, efc13, k17, k41, k42, k36, k37, f1, f2, bne_self_eq_false, Bool.not_true, ss, sd, zI, qG, zG, zH, St.get, qE, qF, qB, zD, norm, look, zF, qA, qI, St.alloc, St.drop, zA, part, zC, depth, qD, ↓reduceIte, Nat.reduceBEq, Nat.reduceAdd, Nat.reduceSub, Nat.reduceMul, Nat.reduceEqDiff, Nat.reduceLeDiff, Nat.reduceLT, qJ, qK, qL, qM, qN, qO, qP, qQ, qR, zJ, qS, qC, qT, evSlice0, qV, qW, qX, qY, qZ, zK, fixed, zL, wit, Option.isSome_some, qH, evSliceP, evPre, St.with, zE, Array.size, te, einl, inls, efr]
end Go.AM.E
end

