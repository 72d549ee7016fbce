/- A part of the proof: the texts CBandE, CBandF, CBandG, CBandT, CBandI, CBandH, CBandJ, CBandK, CBandL, CBandM, CBandN, one after another. No condition. -/
import Derived.Test.YtffbfhjcpgcdeaaCP
set_option linter.unusedVariables false
set_option linter.unusedSimpArgs false
set_option maxRecDepth 20000

section
namespace Go.AM.C
open Go Go.Proofs

theorem c39 (t : Bool) (rs : List Run) (hn : rs.length ≤ 1000000000) : (orcω E X0).call 39 [.sl t (rs.map encRun)] = some (encLen (lengthM rs)) := by
  refine call_of rfl fn39 rfl ?_
  have hc := c60 false rs hn
  have hf := c61 false rs hn
  by_cases h : validate rs = 0
  · have h' : (validate rs != 0) = false := by simp [h]
    have hr : lengthM rs = (ln rs, 0) := by unfold lengthM; rw [if_pos h]
    rw [hr]
    simp only [Try.ntmps39, Try.results39, efc39, hc, h', hf, encLen, so, sd, den_cond, evOps, zH, qG, zF, zG, wantedV, St.get, qE, qF, qB, onBool_true, onBool_false, zC, norm, look, zE, qA, qI, St.alloc, St.drop, zA, part, zB, depth, qD, ↓reduceIte, Nat.reduceBEq, Nat.reduceAdd, Nat.reduceSub, Nat.reduceMul, Nat.reduceEqDiff, Nat.reduceLeDiff, Nat.reduceLT, evRegion_still, evE, qJ, qK, qL, qM, qN, qO, evCall, qP, evAppend, qQ, qR, zI, qS, qC, qT, qU, qV, qW, qX, qY, qZ, zJ, zK, zL, wit, Option.isSome_some, qH, te, einl, inls, efr]
  · have h' : (validate rs != 0) = true := by simp [h]
    have hr : lengthM rs = (0, validate rs) := by unfold lengthM; rw [if_neg h]
    rw [hr]
    simp only [Try.ntmps39, Try.results39, efc39, hc, h', encLen, so, sd, den_cond, evOps, zH, qG, zF, zG, wantedV, St.get, qE, qF, qB, onBool_true, onBool_false, zC, norm, look, zE, qA, qI, St.alloc, St.drop, zA, part, zB, depth, qD, ↓reduceIte, Nat.reduceBEq, Nat.reduceAdd, Nat.reduceSub, Nat.reduceMul, Nat.reduceEqDiff, Nat.reduceLeDiff, Nat.reduceLT, evRegion_still, evE, qJ, qK, qL, qM, qN, qO, evCall, qP, evAppend, qQ, qR, zI, qS, qC, qT, qU, qV, qW, qX, qY, qZ, zJ, zK, zL, wit, Option.isSome_some, qH, te, einl, inls, efr]

theorem c71 (t : Bool) (rs : List Run) (hn : rs.length ≤ 1000000000) : (orcω E X0).call 71 [.sl t (rs.map encRun)] = some (encLen (lengthM rs)) := by
  refine call_of rfl fn71 rfl ?_
  have hc := c78 false rs hn
  have hf := c88 false rs hn
  by_cases h : validate rs = 0
  · have h' : (validate rs != 0) = false := by simp [h]
    have hr : lengthM rs = (ln rs, 0) := by unfold lengthM; rw [if_pos h]
    rw [hr]
    simp only [Try.ntmps71, Try.results71, efc71, hc, h', hf, encLen, so, sd, den_cond, evOps, zH, qG, zF, zG, wantedV, St.get, qE, qF, qB, onBool_true, onBool_false, zC, norm, look, zE, qA, qI, St.alloc, St.drop, zA, part, zB, depth, qD, ↓reduceIte, Nat.reduceBEq, Nat.reduceAdd, Nat.reduceSub, Nat.reduceMul, Nat.reduceEqDiff, Nat.reduceLeDiff, Nat.reduceLT, evRegion_still, evE, qJ, qK, qL, qM, qN, qO, evCall, qP, evAppend, qQ, qR, zI, qS, qC, qT, qU, qV, qW, qX, qY, qZ, zJ, zK, zL, wit, Option.isSome_some, qH, te, einl, inls, efr]
  · have h' : (validate rs != 0) = true := by simp [h]
    have hr : lengthM rs = (0, validate rs) := by unfold lengthM; rw [if_neg h]
    rw [hr]
    simp only [Try.ntmps71, Try.results71, efc71, hc, h', encLen, so, sd, den_cond, evOps, zH, qG, zF, zG, wantedV, St.get, qE, qF, qB, onBool_true, onBool_false, zC, norm, look, zE, qA, qI, St.alloc, St.drop, zA, part, zB, depth, qD, ↓reduceIte, Nat.reduceBEq, Nat.reduceAdd, Nat.reduceSub, Nat.reduceMul, Nat.reduceEqDiff, Nat.reduceLeDiff, Nat.reduceLT, evRegion_still, evE, qJ, qK, qL, qM, qN, qO, evCall, qP, evAppend, qQ, qR, zI, qS, qC, qT, qU, qV, qW, qX, qY, qZ, zJ, zK, zL, wit, Option.isSome_some, qH, te, einl, inls, efr]

theorem c46 (t : Bool) (rs : List Run) : (orcω E X0).call 46 [.sl t (rs.map encRun)] = some (.bool (decide ((100 : Int) < rs.length))) := by
  refine call_of rfl fn46 rfl ?_
  simp only [Try.ntmps46, Try.results46, efc46, so, sd, den_cond, evOps, zH, qG, zF, zG, wantedV, St.get, qE, qF, qB, onBool_true, onBool_false, zC, norm, look, zE, qA, qI, St.alloc, St.drop, zA, part, zB, depth, qD, ↓reduceIte, Nat.reduceBEq, Nat.reduceAdd, Nat.reduceSub, Nat.reduceMul, Nat.reduceEqDiff, Nat.reduceLeDiff, Nat.reduceLT, evRegion_still, evE, qJ, qK, qL, qM, qN, qO, evCall, qP, evAppend, qQ, qR, zI, qS, qC, qT, qU, qV, qW, qX, qY, qZ, zJ, zK, zL, wit, Option.isSome_some, qH, te, einl, inls, efr]

end Go.AM.C
end

section
namespace Go.AM.C
open Go Go.Proofs

end Go.AM.C
end

section
namespace Go.AM.C
open Go Go.Proofs

theorem valid_all {rs : List Run} (h : validate rs = 0) : rs.all wellB = true := by
  unfold validate at h
  split at h
  · omega
  · split at h
    · assumption
    · omega

end Go.AM.C
end

section
/-
Bands as lists of marks, place by place: what joining, cutting and comparing runs mean.
-/
namespace Go.AM.C
open Go Go.Proofs

structure Mk where
  thick : Int
  shade : Int
  flaw : Int
  deriving DecidableEq

def Run.mk' (r : Run) : Mk := ⟨r.thick, r.shade, r.flaw⟩
def expand (rs : List Run) : List Mk := rs.flatMap fun r => List.replicate r.len.toNat r.mk'

theorem expand_nil : expand [] = [] := rfl
theorem expand_cons (r : Run) (rs : List Run) : expand (r :: rs) = List.replicate r.len.toNat r.mk' ++ expand rs := rfl
theorem expand_app (rs qs : List Run) : expand (rs ++ qs) = expand rs ++ expand qs := by simp [expand]

def Lens (B : Int) (rs : List Run) : Prop := ∀ r ∈ rs, 1 ≤ r.len ∧ r.len ≤ B

theorem snoc_cases {α : Type} (l : List α) : l = [] ∨ ∃ i x, l = i ++ [x] := by
  rcases List.eq_nil_or_concat l with rfl | ⟨i, x, rfl⟩
  · exact .inl rfl
  · exact .inr ⟨i, x, by simp⟩

def Normal : List Run → Prop
  | [] => True
  | [_] => True
  | r :: s :: l => r.mk' ≠ s.mk' ∧ Normal (s :: l)

theorem snoc_ind {α : Type} {P : List α → Prop} (h0 : P []) (h1 : ∀ l x, P l → P (l ++ [x])) (l : List α) : P l := by
  have : ∀ (n : Nat) (l : List α), l.length = n → P l := by
    intro n
    induction n with
    | zero => intro l hl; rw [List.eq_nil_of_length_eq_zero hl]; exact h0
    | succ n ih =>
      intro l hl
      rcases snoc_cases l with rfl | ⟨i, x, rfl⟩
      · simp at hl
      · exact h1 i x (ih i (by simpa using hl))
  exact this l.length l rfl

def total (rs : List Run) : Int := (rs.map Run.len).sum

theorem total_cons (r : Run) (rs : List Run) : total (r :: rs) = r.len + total rs := by simp [total]
theorem total_app (rs qs : List Run) : total (rs ++ qs) = total rs + total qs := by simp [total]
theorem total_nil : total [] = 0 := rfl

theorem expand_length {B : Int} {rs : List Run} (h : Lens B rs) : ((expand rs).length : Int) = total rs := by
  induction rs with
  | nil => rfl
  | cons r rs ih =>
    have h1 := ih fun q hq => h q (List.mem_cons_of_mem _ hq)
    have h2 := h r List.mem_cons_self
    rw [expand_cons, List.length_append, List.length_replicate, total_cons]
    omega

def cpl : List Mk → List Mk → Nat
  | a :: x, b :: y => if a = b then cpl x y + 1 else 0
  | _, _ => 0

end Go.AM.C
end

section
namespace Go.AM.C
open Go Go.Proofs

def both (xs ys : List Run) : Int := if validate xs = 0 then validate ys else validate xs

end Go.AM.C
end

section
namespace Go.AM.C
open Go Go.Proofs

def isYes : Option V → Bool
  | some (.bool true) => true
  | _ => false

theorem isYes_eq {r : Option V} (h : isYes r = true) : r = some (.bool true) := by
  unfold isYes at h
  split at h
  · rfl
  · cases h

end Go.AM.C
end

section
namespace Go.AM.C
open Go Go.Proofs

end Go.AM.C
end

section
/-
Loops over band.each.
-/
namespace Go.AM.C
open Go Go.Proofs

def spansL : Int → List Run → List (Int × List Int)
  | _, [] => []
  | a, r :: rs => (a, [r.len, r.thick, r.shade, r.flaw]) :: spansL (IntKind.i64.wrap (a + r.len)) rs

theorem spansOf_runs : ∀ (rs : List Run) (a : Int), spansOf a (rs.map encRun) = some (spansL a rs)
  | [], _ => rfl
  | r :: rs, a => by
    rw [List.map_cons, encRun]
    simp only [spansOf, intsOf, spansOf_runs rs, spansL]

theorem eseq_each (t u : Bool) (rs : List Run) (hn : rs.length ≤ 1000000000) : E.seq 93 [.fp t [.sl u (rs.map encRun)] 0] = some (2, (spansL 0 rs).map yieldV) := by
  have h : E.seq 93 [.fp t [.sl u (rs.map encRun)] 0] = eachSeq 93 93 [.fp t [.sl u (rs.map encRun)] 0] := rfl
  rw [h]
  unfold eachSeq
  simp only [if_true, List.length_map, if_pos hn, spansOf_runs]

theorem rounds_runs {σ : Type} {K : Option (Ex × St) → Prop} {run : Code → St → Option (Ex × St)} {ps : List Nat} {assign body : Code} {s0 l0 : List V} {out : List (List V)} {objs : List (Nat × Ob)} (rs : List Run)
    (os : List Run → σ → List (Nat × Ob)) (I : List Run → σ → Prop) (c0 : σ) (h0 : tidy { slots := l0, outer := s0 :: out, objs := objs } = { slots := [], outer := s0 :: out, objs := os [] c0 }) (hI : I [] c0)
    (hend : ∀ c, I rs c → K (some (.normal, { slots := s0, outer := out, objs := os rs c })))
    (hstep : ∀ pre r post c, rs = pre ++ r :: post → I pre c → afterA (run assign { slots := setAll s0 ps [.int .i64 (ln pre), encRun r], outer := s0 :: out, objs := os pre c }) (fun s => afterR (run body s)
      (fun s' => ∃ c', tidy s' = { slots := [], outer := s0 :: out, objs := os (pre ++ [r]) c' } ∧ I (pre ++ [r]) c') K)) :
    ∀ x, popped (roundsIn run ps assign body ((spansL 0 rs).map yieldV) { slots := l0, outer := s0 :: out, objs := objs }) = x → K x := by
  rintro x rfl
  have key : ∀ (post pre : List Run) (c : σ) (st : St), rs = pre ++ post → tidy st = { slots := [], outer := s0 :: out, objs := os pre c } → I pre c → K (popped (roundsIn run ps assign body ((spansL (ln pre) post).map yieldV) st)) := by
    intro post
    induction post with
    | nil =>
      intro pre c st hp ht hi
      obtain rfl : rs = pre := by simpa using hp
      simp only [spansL, List.map_nil, roundsIn, ht]
      exact hend c hi
    | cons r post ih =>
      intro pre c st hp ht hi
      have hs := hstep pre r post c hp hi
      simp only [spansL, List.map_cons, roundsIn, ht, List.headD_cons]
      rw [show yieldV (ln pre, [r.len, r.thick, r.shade, r.flaw]) = [.int .i64 (ln pre), encRun r] from rfl]
      cases ha : run assign { slots := setAll s0 ps [.int .i64 (ln pre), encRun r], outer := s0 :: out, objs := os pre c } with
      | none => rw [ha] at hs; exact hs.elim
      | some p =>
        obtain ⟨e, s⟩ := p
        rw [ha] at hs
        cases e with
        | normal =>
          dsimp only
          rw [afterA_normal] at hs
          cases hb : run body s with
          | none => rw [hb] at hs; exact hs.elim
          | some p =>
            obtain ⟨e, s'⟩ := p
            rw [hb] at hs
            cases e with
            | normal =>
              obtain ⟨c', h1, h3⟩ := hs
              dsimp only
              have hln : ln (pre ++ [r]) = IntKind.i64.wrap (ln pre + r.len) := by simp [ln]
              rw [← hln]
              exact ih (pre ++ [r]) c' s' (by simpa using hp) h1 h3
            | exit i => exact hs
            | ret => exact hs
        | exit i => exact hs.elim
        | ret => exact hs.elim
  exact key rs [] c0 _ rfl h0 hI

theorem c77 (rs : List Run) : (orcω E X0).call 77 [.sl false (rs.map encRun)] = some (.clo 93 [] [.fp false [.sl false (rs.map encRun)] 0]) := by
  refine call_of rfl fn77 rfl ?_
  simp (maxSteps := 1000000) (implicitDefEqProofs := false) only [Try.ntmps77, Try.results77, efc77, ss, sd, zH, qG, zF, zG, St.get, qE, qF, qB, zC, norm, look, zE, qA, qI, St.alloc, St.drop, zA, part, zB, depth, qD, ↓reduceIte, Nat.reduceBEq, Nat.reduceAdd, Nat.reduceSub, Nat.reduceMul, Nat.reduceEqDiff, Nat.reduceLeDiff, Nat.reduceLT, qJ, qK, qL, qM, qN, qO, qP, qQ, qR, zI, qS, qC, qT, qU, qV, qW, qX, qY, qZ, zJ, zK, zL, wit, Option.isSome_some, qH, St.with, zD, Array.size, te, einl, inls, efr]

def Okay (rs : List Run) : Prop := (∀ r ∈ rs, 1 ≤ r.len) ∧ total rs ≤ 40000000

theorem okay_app {pre post : List Run} (h : Okay (pre ++ post)) : Okay pre ∧ Okay post := by
  obtain ⟨h1, h2⟩ := h
  rw [total_app] at h2
  have a1 : ∀ r ∈ pre, 1 ≤ r.len := fun r hr => h1 r (List.mem_append_left _ hr)
  have a2 : ∀ r ∈ post, 1 ≤ r.len := fun r hr => h1 r (List.mem_append_right _ hr)
  have nn : ∀ l : List Run, (∀ r ∈ l, 1 ≤ r.len) → 0 ≤ total l := by
    intro l
    induction l with
    | nil => intro _; exact Int.le_refl _
    | cons x l ih =>
      intro h
      have := ih fun r hr => h r (List.mem_cons_of_mem _ hr)
      have := h x List.mem_cons_self
      rw [total_cons]; omega
  have := nn pre a1
  have := nn post a2
  exact ⟨⟨a1, by omega⟩, ⟨a2, by omega⟩⟩

theorem okay_nonneg {rs : List Run} (h : Okay rs) : 0 ≤ total rs := by
  obtain ⟨h1, _⟩ := h
  induction rs with
  | nil => exact Int.le_refl _
  | cons x l ih =>
    have := ih fun r hr => h1 r (List.mem_cons_of_mem _ hr)
    have := h1 x List.mem_cons_self
    rw [total_cons]; omega

theorem okay_lens {rs : List Run} (h : Okay rs) : Lens 40000000 rs := by
  intro r hr
  obtain ⟨a, b, rfl⟩ := List.append_of_mem hr
  have h1 := (okay_app h).1
  have h2 := (okay_app (pre := [r]) (post := b) (okay_app h).2).2
  have h3 := h.2
  rw [total_app, total_cons] at h3
  have := okay_nonneg h1
  have := okay_nonneg h2
  exact ⟨h.1 r hr, by omega⟩

theorem ln_total : ∀ {rs : List Run}, Okay rs → ln rs = total rs := by
  intro rs
  induction rs using snoc_ind with
  | h0 => intro _; rfl
  | h1 l x ih =>
    intro h
    have h1 := (okay_app h).1
    have := okay_nonneg h1
    have h3 := h.2
    rw [total_app, total_cons, total_nil] at h3
    have h4 := h.1 x (by simp)
    have : ln (l ++ [x]) = IntKind.i64.wrap (ln l + x.len) := by simp [ln]
    rw [this, ih h1, total_app, total_cons, total_nil, wrap_in (by omega)]
    omega

theorem expand_len {rs : List Run} (h : Okay rs) : ((expand rs).length : Int) = total rs := expand_length (okay_lens h)

theorem valid_okay {rs : List Run} (h : validate rs = 0) : Okay rs ∧ rs.length ≤ 40 ∧ total rs ≤ 1000000 := by
  have h2 := valid_all h
  have h3 : rs.length ≤ 40 := by
    unfold validate at h
    split at h
    · omega
    · omega
  have h4 : ∀ r ∈ rs, 1 ≤ r.len ∧ r.len ≤ 1000000 := fun r hr => by
    have := List.all_eq_true.1 h2 r hr
    simp [wellB, inB] at this
    omega
  have h5 : total rs ≤ 1000000 * rs.length := by
    clear h h2 h3
    induction rs with
    | nil => exact Int.le_refl _
    | cons x l ih =>
      have := ih fun r hr => h4 r (List.mem_cons_of_mem _ hr)
      have := h4 x List.mem_cons_self
      rw [total_cons, List.length_cons]; omega
  have ho : Okay rs := ⟨fun r hr => (h4 r hr).1, by omega⟩
  refine ⟨ho, h3, ?_⟩
  unfold validate at h
  rw [if_neg (by omega), if_pos h2] at h
  by_cases h6 : 1000000 < ln rs
  · rw [if_pos h6] at h; cases h
  · rw [ln_total ho] at h6; omega
end Go.AM.C
end

section
namespace Go.AM.C
open Go Go.Proofs

def piece (a lo hi : Int) (r : Run) : List Run := if max lo a < min hi (a + r.len) then [{ r with len := min hi (a + r.len) - max lo a }] else []
end Go.AM.C
end

section
namespace Go.AM.C
open Go Go.Proofs

def encMk (m : Mk) : V := .agg [.int .i64 m.thick, .int .i64 m.shade, .int .i64 m.flaw]
end Go.AM.C
end

section
namespace Go.AM.C
open Go Go.Proofs

end Go.AM.C
end

