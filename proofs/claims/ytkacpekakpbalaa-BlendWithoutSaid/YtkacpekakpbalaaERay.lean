/-
Proofs that there are no amounts: the rays of a basis (blend).
-/
import Derived.Test.YtkacpekakpbalaaEBest
set_option linter.unusedVariables false
set_option linter.unusedSimpArgs false
set_option maxRecDepth 20000

namespace Go.AM.E
open Go Go.AM Go.Proofs

theorem sumI_neg (n : Nat) (f : Nat → Int) : sumI n (fun i => -f i) = -sumI n f := by
  induction n with
  | zero => rfl
  | succ n ih => show sumI n _ + -f n = -(sumI n f + f n); rw [ih]; omega
theorem sumI_step (n : Nat) (f : Nat → Int) : sumI (n + 1) f = sumI n f + f n := rfl
def onTo (x : Bs) (f : Nat → Int) (t r : Nat) : Int := sumI t fun t' => if x.row t' = r then f t' else 0
theorem onTo_zero (x : Bs) (f : Nat → Int) : onTo x f 0 = fun _ => 0 := rfl
theorem onTo_upd {x : Bs} {f : Nat → Int} {t : Nat} (ht : t < x.k) : updF (onTo x f t) (x.row t) (f t) = onTo x f (t + 1) := by
  funext r
  unfold updF onTo
  rw [sumI_step]
  by_cases h : r = x.row t
  · rw [if_pos h, if_pos h.symm, sumI_congr (g := fun _ => 0), sumI_zero]
    · omega
    · intro t' ht'
      refine if_neg fun e => ?_
      have e2 : x.row t' = x.row t := by rw [e, h]
      unfold Bs.row at e2
      rw [getD_in (show t' < x.R.length by unfold Bs.k at ht; omega), getD_in (show t < x.R.length from ht)] at e2
      have := memM_inj (show t' < x.R.length by unfold Bs.k at ht; omega) ht e2
      omega
  · rw [if_neg h, if_neg fun e => h e.symm]; omega
def rayAcc (b : Blend) (x : Bs) (r t s i : Nat) : Int := (if i = r then detB b x else 0) + accF x.k (fun t _ => x.row t) (fun t s => -(coefB b r (x.col s) * inv b x s t)) t s i
theorem rayAcc_zero (b : Blend) (x : Bs) (r : Nat) : rayAcc b x r 0 0 = updF (fun _ => 0) r (detB b x) := by
  funext i; unfold rayAcc updF; rw [acc_zero, Int.add_zero]
theorem rayAcc_next (b : Blend) (x : Bs) (r t : Nat) : rayAcc b x r t x.k = rayAcc b x r (t + 1) 0 := by funext i; unfold rayAcc; rw [acc_next]
theorem rayAcc_upd (b : Blend) (x : Bs) (r t s : Nat) : updF (rayAcc b x r t s) (x.row t) (rayAcc b x r t s (x.row t) - coefB b r (x.col s) * inv b x s t) = rayAcc b x r t (s + 1) := by
  funext i
  unfold updF rayAcc
  rw [acc_step]
  by_cases h : i = x.row t
  · rw [if_pos h, if_pos h, h]; omega
  · rw [if_neg h, if_neg h]
theorem rayAcc_all (b : Blend) (x : Bs) (r : Nat) : rayAcc b x r x.k 0 = rayR b x r := by
  funext i
  unfold rayAcc rayR accF onRows
  show _ + (_ + 0) = _
  rw [Int.add_zero]
  congr 1
  refine sumI_congr fun t _ => ?_
  rw [sum_ite]
  by_cases h : x.row t = i
  · rw [if_pos h, if_pos h, sumI_neg]
  · rw [if_neg h, if_neg h]
theorem rayAcc_in {b : Blend} (hb : Valid b) {x : Bs} (hx : IsBase b x) {r t s : Nat} (ht : t ≤ x.k) (hs : s ≤ x.k) (hts : t < x.k ∨ s = 0) (i : Nat) : -20000000 ≤ rayAcc b x r t s i ∧ rayAcc b x r t s i ≤ 20000000 := by
  have h1 := acc_in (p := fun t _ => x.row t) (g := fun t s => -(coefB b r (x.col s) * inv b x s t)) (B := 960000) (by decide) (k_le hb hx) (fun t s ht hs => by
    have := mul_both (coef_in hb (r := r) (col_lt' hx hs)) (inv_small hb hx hs ht)
    omega) ht hs hts i
  have hd := detB_small hb hx
  unfold rayAcc
  split <;> omega
def rayE (N : Nat) (ray : Nat → Int) : V := .sl true (fnL ray N)
def raysA (b : Blend) (x : Bs) (s : Nat) : List (Nat → Int) := (List.range s).map (rayS b x)
def raysB (b : Blend) (x : Bs) (r : Nat) : List (Nat → Int) := raysA b x x.k ++ ((List.range r).filter fun r => !bit x.rs r).map (rayR b x)
theorem raysA_succ (b : Blend) (x : Bs) (s : Nat) : raysA b x (s + 1) = raysA b x s ++ [rayS b x s] := by unfold raysA; rw [List.range_succ, List.map_append]; rfl
theorem raysB_zero (b : Blend) (x : Bs) : raysB b x 0 = raysA b x x.k := by unfold raysB; simp
theorem raysB_yes {b : Blend} {x : Bs} {r : Nat} (h : bit x.rs r = false) : raysB b x (r + 1) = raysB b x r ++ [rayR b x r] := by
  unfold raysB; rw [List.range_succ, List.filter_append, List.map_append, List.filter_cons, if_pos (by rw [h]; rfl), ← List.append_assoc]; rfl
theorem raysB_no {b : Blend} {x : Bs} {r : Nat} (h : bit x.rs r = true) : raysB b x (r + 1) = raysB b x r := by
  unfold raysB; rw [List.range_succ, List.filter_append, List.map_append, List.filter_cons, if_neg (by rw [h]; decide)]; simp
theorem raysB_all (b : Blend) (x : Bs) : raysB b x (b.lo.length + 1) = raysM b x := rfl
theorem raysA_len (b : Blend) (x : Bs) (s : Nat) : (raysA b x s).length = s := by unfold raysA; simp
theorem raysB_len (b : Blend) (x : Bs) (r : Nat) : (raysB b x r).length ≤ x.k + r := by
  unfold raysB
  rw [List.length_append, raysA_len, List.length_map]
  have := List.length_filter_le (fun r => !bit x.rs r) (List.range r)
  simp at this ⊢; omega
theorem sized_rays (N : Nat) : ∀ l : List (Nat → Int), sized 1 (l.map (rayE N)) = true
  | [] => rfl
  | r :: l => by
    show (true && sized 1 (l.map (rayE N))) = true
    rw [sized_rays N l]; rfl
def encPO (o : Option Pr) : V := match o with
  | some p => .tup [encPrT p, .bool true]
  | none => .tup [.agg [.int .i64 0, .int .i64 0, .sl true [], .sl true [], .sl true []], .bool false]
def sgv (i : Nat) : Int := if i = 0 then 1 else -1
def rayF (b : Blend) (ray : Nat → Int) : Option Pr := (tryM b ray).or (tryM b fun i => -ray i)
theorem proof_eq (b : Blend) (x : Bs) : proofM b x = (raysM b x).findSome? (rayF b) := rfl
theorem try_one (b : Blend) (ray : Nat → Int) : tryM b (fun i => sgv 0 * ray i) = tryM b ray := by congr 1; funext i; unfold sgv; rw [if_pos rfl, Int.one_mul]
theorem try_two (b : Blend) (ray : Nat → Int) : tryM b (fun i => sgv 1 * ray i) = tryM b fun i => -ray i := by congr 1; funext i; unfold sgv; rw [if_neg (by decide)]; omega
theorem sgv_get {i : Nat} (h : i < 2) : [V.int .i64 1, V.int .i64 (-1)][i]? = some (.int .i64 (sgv i)) := by
  have : i = 0 ∨ i = 1 := by omega
  rcases this with e | e <;> subst e <;> rfl
theorem sgv_in (i : Nat) : sgv i = 1 ∨ sgv i = -1 := by unfold sgv; split <;> simp
theorem fsl_none {α β : Type} {F : α → Option β} {l : List α} (h : ∀ x ∈ l, F x = none) : l.findSome? F = none := List.findSome?_eq_none_iff.2 h
theorem fsl_some {α β : Type} {F : α → Option β} {pre post : List α} {x : α} {y : β} (h : ∀ x ∈ pre, F x = none) (hx : F x = some y) : (pre ++ x :: post).findSome? F = some y := by
  rw [List.findSome?_append, fsl_none h, List.findSome?_cons, hx]; rfl
def rsTo (b : Blend) (x : Bs) (s : Nat) : Nat → Nat → Int := onTo x fun t => inv b x s t
def pr1 (b : Blend) (w : Nat → Int) : Pr := pricesM b w 1 false
def val1 (b : Blend) (w : Nat → Int) : Int := valueM b (pr1 b w)
theorem okT58 : okCode (Try.f58.body.getD .skip) = true := by decide +kernel
set_option maxRecDepth 20000 in
set_option maxHeartbeats 32000000 in
theorem c58 (b : Blend) (hb : Valid b) (x : Bs) (hx : IsBase b x) : (orcω E XS).call 58 [encBasisA b x] = some (encPO (proofM b x)) := by
  refine call_of rfl fn58 rfl ?_
  have hok := okT58
  simp only [Try.f58, Option.getD_some, okCode, Bool.and_eq_true, Bool.and_true, Bool.true_and] at hok
  have hm := hb.2.2.1
  have hn := hb.2.1.2
  have hp16 : 2 ^ (b.lo.length + 1) ≤ 2 ^ 4 := Nat.pow_le_pow_right (by decide) (by omega)
  have hrs : x.rs < 16 := by have := hx.1; omega
  have hk4 := k_le hb hx
  have hd2 := detB_small hb hx
  have k1 := fun s t hs ht => c89' hb hx (s := s) (t := t) hs ht
  have k87 := fun r c h1 h2 h3 => c87 b r c h1 h2 h3
  have k91 := c91 x.rs (by omega)
  have hR : ∀ t, t < x.k → (memI x.rs)[t]? = some ((x.row t : Nat) : Int) := fun t ht => memI_get ht
  have hCm : (memM x.cs).length = x.k := hx.2.2.1
  have hC : ∀ s, s < x.k → (memI x.cs)[s]? = some ((x.col s : Nat) : Int) := fun s hs => memI_get (by omega)
  have lR : (memI x.rs).length = x.k := memI_len _
  have lC : (memI x.cs).length = x.k := by rw [memI_len]; exact hx.2.2.1
  have hrow := fun t ht => row_lt hx (t := t) ht
  have hcol := fun s hs => col_lt' hx (s := s) hs
  have hbr : ∀ r, r < b.lo.length + 1 → bitsI .and .i64 (((x.rs : Nat) : Int).fdiv (2 ^ (min r (IntKind.bits .i64)))) 1 = if bit x.rs r = true then 1 else 0 := fun r hr => bit_and (by omega) (by omega)
  have ho0 : ∀ s, rsTo b x s 0 = fun _ => 0 := fun s => onTo_zero x fun t => inv b x s t
  have hou : ∀ s t, t < x.k → updF (rsTo b x s t) (x.row t) (inv b x s t) = rsTo b x s (t + 1) := fun s t ht => onTo_upd (x := x) (f := fun t => inv b x s t) (t := t) ht
  have hoa : ∀ s, rsTo b x s x.k = rayS b x s := fun _ => rfl
  have hr0 := rayAcc_zero b x
  have hrn := rayAcc_next b x
  have hru := rayAcc_upd b x
  have hra := rayAcc_all b x
  have hri := fun r t s i h1 h2 h3 => rayAcc_in hb hx (r := r) (t := t) (s := s) h1 h2 h3 i
  have hA0 : raysA b x 0 = [] := rfl
  have hAs := raysA_succ b x
  have hAl := raysA_len b x
  have hB0 := raysB_zero b x
  have hBy := fun r h => raysB_yes (b := b) (x := x) (r := r) h
  have hBn := fun r h => raysB_no (b := b) (x := x) (r := r) h
  have hBa := raysB_all b x
  have hBl := raysB_len b x
  have hsm := fun ray h => rays_small hb hx (ray := ray) h
  have hinv := fun s t hs ht => inv_small hb hx (s := s) (t := t) hs ht
  have hcoef := fun r c hc => coef_in hb (r := r) (c := c) hc
  have hps : ∀ c, c < b.cs.length → (psAt b c).length = b.lo.length := fun c h => (cem_at hb h).2.2.1
  have hpe := proof_eq b x
  have k90 : ∀ (w : Nat → Int), (∀ r, -4032000 ≤ w r ∧ w r ≤ 4032000) → (orcω E XS).call 90 [encBlend b, .sl false (fnL w (b.lo.length + 1)), .int .i64 1, .bool false] = some (encPrT (pr1 b w)) := fun w hw => c90 b hb w 1 false (by decide) (fun r => by have := hw r; omega)
  have k69 : ∀ (w : Nat → Int), (∀ r, -4032000 ≤ w r ∧ w r ≤ 4032000) → (∀ i, i < b.cs.length → dotI w b i ≤ 19200000) → (orcω E XS).call 69 [encBlend b, encPr (pr1 b w)] = some (.int .i64 (val1 b w)) := fun w hw hg =>
    c69 b (pricesM b w 1 false) hb (prices_right (b := b) (w := w) (den := 1) (c := false) (by decide) (fun r => by have := hw r; omega) (fun i hi => by have := hg i hi; rw [if_neg (by decide)]; omega)).fine
  have htry : ∀ w, tryM b w = if 0 < val1 b w then some (pr1 b w) else none := fun _ => rfl
  have hrF : ∀ ray, rayF b ray = (tryM b fun i => sgv 0 * ray i).or (tryM b fun i => sgv 1 * ray i) := fun ray => by rw [try_one, try_two]; rfl
  have hsr : ∀ ray ∈ raysM b x, ∀ i, (∀ r, -4032000 ≤ sgv i * ray r ∧ sgv i * ray r ≤ 4032000) ∧ ∀ c, c < b.cs.length → dotI (fun r => sgv i * ray r) b c ≤ 19200000 := by
    intro ray hray i
    obtain ⟨h1, h2⟩ := hsm ray hray
    have hdn : ∀ (z : Int) (c : Nat), dotI (fun r => z * ray r) b c = z * dotI ray b c := fun z c => by unfold dotI; grind
    constructor
    · intro r
      have := h1 r
      rcases sgv_in i with e | e <;> rw [e] <;> omega
    · intro c hc
      have := h2 c hc
      rw [hdn]
      rcases sgv_in i with e | e <;> rw [e] <;> omega
  rw [hpe]
  generalize inv b x = iv at *
  generalize rsTo b x = rs' at *
  generalize rayS b x = rS at *
  generalize rayAcc b x = ra at *
  generalize rayR b x = rR at *
  generalize raysA b x = rA at *
  generalize raysB b x = rB at *
  generalize raysM b x = rM at *
  generalize coefB b = cf at *
  generalize val1 b = vw at *
  generalize pr1 b = pw at *
  generalize tryM b = tw at *
  generalize rayF b = rF at *
  unfold encBasisA
  generalize matB b x = mt at *
  generalize detB b x = d at *
  generalize x.k = k at *
  generalize x.row = row at *
  generalize x.col = col at *
  generalize memI x.rs = Rs at *
  generalize memI x.cs = Cs at *
  generalize x.rs = sr at *
  clear hx hCm hsm hpe
  obtain ⟨tot, cs, lo, up⟩ := b
  simp only [encBlend, encPr, encPrT] at k87 k90 k69
  dsimp only at *
  have w0 : IntKind.i64.wrap ((lo.length : Int) + 1) = ((lo.length + 1 : Nat) : Int) := by rw [wrap_in (by omega)]; omega
  have hroom : roomy (lo.length + 1) 8 = true := by simp [roomy]; omega
  have p1 : ((lo.length + 1 : Nat) : Int) ≤ 4294967296 := by omega
  generalize hN : lo.length + 1 = N at *
  have lu : ∀ f, (fnL f N).length = N := fun f => fn_len f N
  have er : ∀ ray, rayE N ray = .sl true (fnL ray N) := fun _ => rfl
  simp (maxSteps := 1000000) (implicitDefEqProofs := false) only [Try.ntmps58, Try.results58, efc58, fc58, w0, Int.natCast_nonneg, Int.toNat_natCast, List.length_map, ss, sd, zI, qG, zG, zH, St.get, qE, qF, qB, zD, norm, look, zF, qA, qI, St.alloc, St.drop, zA, part, zC, depth, qD, ↓reduceIte, Nat.reduceBEq, Nat.reduceAdd, Nat.reduceSub, Nat.reduceMul, Nat.reduceEqDiff, Nat.reduceLeDiff, Nat.reduceLT, qJ, qK, qL, qM, qN, qO, qP, qQ, qR, zJ, qS, qC, qT, evSlice0, qV, qW, qX, qY, qZ, zK, fixed, zL, wit, Option.isSome_some, qH, evSliceP, evPre, St.with, zE, Array.size, te, einl, inls, efr]
  generalize hr : loopAt _ _ _ _ _ _ = r; revert r
  refine loop_nat k (fun s _ => [(5, .own 5 0 (rA s).length), (31, .int .i64 (s : Nat))]) (fun s _ => [(5, grow 1 ((rA s).map (rayE N)))]) (fun _ (_ : Unit) => True) () (by omega) (by simp (maxSteps := 1000000) (implicitDefEqProofs := false) only [hA0, grow, lC, List.map_nil, List.length_nil, Int.natCast_zero, ss, sd, zI, qG, zG, zH, St.get, qE, qF, qB, zD, norm, look, zF, qA, qI, St.alloc, St.drop, zA, part, zC, depth, qD, ↓reduceIte, Nat.reduceBEq, Nat.reduceAdd, Nat.reduceSub, Nat.reduceMul, Nat.reduceEqDiff, Nat.reduceLeDiff, Nat.reduceLT, qJ, qK, qL, qM, qN, qO, qP, qQ, qR, zJ, qS, qC, qT, evSlice0, qV, qW, qX, qY, qZ, zK, fixed, zL, wit, Option.isSome_some, qH, evSliceP, evPre, St.with, zE, Array.size, te, einl, inls, efr]) trivial (fun _ _ => ?_) (fun s _ _ b1 b2 b3 => ?_)
  rotate_left
  · simp (maxSteps := 1000000) (implicitDefEqProofs := false) only [b1, b2, hroom, p1, fn_zero, lR, lC, grow, Int.natCast_nonneg, Int.toNat_natCast, List.length_map, ss, sd, zI, qG, zG, zH, St.get, qE, qF, qB, zD, norm, look, zF, qA, qI, St.alloc, St.drop, zA, part, zC, depth, qD, ↓reduceIte, Nat.reduceBEq, Nat.reduceAdd, Nat.reduceSub, Nat.reduceMul, Nat.reduceEqDiff, Nat.reduceLeDiff, Nat.reduceLT, qJ, qK, qL, qM, qN, qO, qP, qQ, qR, zJ, qS, qC, qT, evSlice0, qV, qW, qX, qY, qZ, zK, fixed, zL, wit, Option.isSome_some, qH, evSliceP, evPre, St.with, zE, Array.size, te, einl, inls, efr]
    generalize hr : loopAt _ _ _ _ _ _ = r; revert r
    refine loop_nat k (fun t _ => [(39, .int .i64 (t : Nat))]) (fun t _ => [(7, arrO (rs' s t) N)]) (fun _ (_ : Unit) => True) () (by omega) (by simp (maxSteps := 1000000) (implicitDefEqProofs := false) only [ho0, arrO, Int.natCast_zero, ss, sd, zI, qG, zG, zH, St.get, qE, qF, qB, zD, norm, look, zF, qA, qI, St.alloc, St.drop, zA, part, zC, depth, qD, ↓reduceIte, Nat.reduceBEq, Nat.reduceAdd, Nat.reduceSub, Nat.reduceMul, Nat.reduceEqDiff, Nat.reduceLeDiff, Nat.reduceLT, qJ, qK, qL, qM, qN, qO, qP, qQ, qR, zJ, qS, qC, qT, evSlice0, qV, qW, qX, qY, qZ, zK, fixed, zL, wit, Option.isSome_some, qH, evSliceP, evPre, St.with, zE, Array.size, te, einl, inls, efr]) trivial (fun _ _ => ?_) (fun t _ _ d1 d2 d3 => ?_)
    · have e1 := hAs s
      have hl := hAl s
      have hro : roomy ((rA s).length + 1) 24 = true := by simp [roomy]; omega
      have hbi : (rA s).length + 1 ≤ 4294967296 := by omega
      have z1 := sized_rays N (rA s)
      have e3 : (rA s).map (rayE N) ++ [.sl true (fnL (rS s) N)] = (rA (s + 1)).map (rayE N) := by rw [e1]; simp [rayE]
      have e4 : (rA (s + 1)).length = (rA s).length + 1 := by rw [e1]; simp
      simp (maxSteps := 1000000) (implicitDefEqProofs := false) only [Int.lt_irrefl, b3, hoa, fn_take, lu, hro, hbi, z1, e3, e4, arrO, grow, List.length_map, ss, sd, zI, qG, zG, zH, St.get, qE, qF, qB, zD, norm, look, zF, qA, qI, St.alloc, St.drop, zA, part, zC, depth, qD, ↓reduceIte, Nat.reduceBEq, Nat.reduceAdd, Nat.reduceSub, Nat.reduceMul, Nat.reduceEqDiff, Nat.reduceLeDiff, Nat.reduceLT, qJ, qK, qL, qM, qN, qO, qP, qQ, qR, zJ, qS, qC, qT, evSlice0, qV, qW, qX, qY, qZ, zK, fixed, zL, wit, Option.isSome_some, qH, evSliceP, evPre, St.with, zE, Array.size, te, einl, inls, efr]
      (first | exact ⟨(), trivial⟩ | refine ⟨(), ?_, trivial⟩ | skip)
    · have gR := hR t d1
      have hrt : row t < N := by have := hrow t d1; omega
      have hrt' : ((row t : Nat) : Int) < (N : Int) := by omega
      have k89 := k1 s t b1 d1
      have e1 := hou s t d1
      have gw : (fnL (rs' s t) N)[row t]? = some (.int .i64 (rs' s t (row t))) := fn_get hrt
      have es : (fnL (rs' s t) N).set (row t) (.int .i64 (iv s t)) = fnL (rs' s (t + 1)) N := by rw [fn_set hrt, e1]
      simp (maxSteps := 1000000) (implicitDefEqProofs := false) only [b1, b2, d1, d2, d3, gR, hrt, hrt', k89, gw, es, lu, vI, arrO, Int.natCast_nonneg, Int.toNat_natCast, List.getElem?_map, List.length_map, ss, sd, zI, qG, zG, zH, St.get, qE, qF, qB, zD, norm, look, zF, qA, qI, St.alloc, St.drop, zA, part, zC, depth, qD, ↓reduceIte, Nat.reduceBEq, Nat.reduceAdd, Nat.reduceSub, Nat.reduceMul, Nat.reduceEqDiff, Nat.reduceLeDiff, Nat.reduceLT, qJ, qK, qL, qM, qN, qO, qP, qQ, qR, zJ, qS, qC, qT, evSlice0, qV, qW, qX, qY, qZ, zK, fixed, zL, wit, Option.isSome_some, qH, evSliceP, evPre, St.with, zE, Array.size, te, einl, inls, efr]
      (first | exact ⟨(), trivial⟩ | refine ⟨(), ?_, trivial⟩ | skip)
  simp (maxSteps := 1000000) (implicitDefEqProofs := false) only [Int.lt_irrefl, lC, grow, List.length_map, ss, sd, zI, qG, zG, zH, St.get, qE, qF, qB, zD, norm, look, zF, qA, qI, St.alloc, St.drop, zA, part, zC, depth, qD, ↓reduceIte, Nat.reduceBEq, Nat.reduceAdd, Nat.reduceSub, Nat.reduceMul, Nat.reduceEqDiff, Nat.reduceLeDiff, Nat.reduceLT, qJ, qK, qL, qM, qN, qO, qP, qQ, qR, zJ, qS, qC, qT, evSlice0, qV, qW, qX, qY, qZ, zK, fixed, zL, wit, Option.isSome_some, qH, evSliceP, evPre, St.with, zE, Array.size, te, einl, inls, efr]
  generalize hr : loopAt _ _ _ _ _ _ = r; revert r
  refine loop_nat N (fun r _ => [(5, .own 5 0 (rB r).length), (59, .int .i64 (r : Nat))]) (fun r _ => [(5, grow 1 ((rB r).map (rayE N)))]) (fun _ (_ : Unit) => True) () (by omega) (by simp (maxSteps := 1000000) (implicitDefEqProofs := false) only [hB0, grow, Int.natCast_zero, ss, sd, zI, qG, zG, zH, St.get, qE, qF, qB, zD, norm, look, zF, qA, qI, St.alloc, St.drop, zA, part, zC, depth, qD, ↓reduceIte, Nat.reduceBEq, Nat.reduceAdd, Nat.reduceSub, Nat.reduceMul, Nat.reduceEqDiff, Nat.reduceLeDiff, Nat.reduceLT, qJ, qK, qL, qM, qN, qO, qP, qQ, qR, zJ, qS, qC, qT, evSlice0, qV, qW, qX, qY, qZ, zK, fixed, zL, wit, Option.isSome_some, qH, evSliceP, evPre, St.with, zE, Array.size, te, einl, inls, efr]) trivial (fun _ _ => ?_) (fun r _ _ b1 b2 b3 => ?_)
  rotate_left
  · have hbr' := hbr r b1
    cases hbt : bit sr r with
    | true =>
      have e1 := hBn r hbt
      rw [hbt, if_pos rfl] at hbr'
      simp (maxSteps := 1000000) (implicitDefEqProofs := false) only [b1, b2, b3, k91, hbr', e1, grow, beq_self_eq_true, Int.natCast_nonneg, Int.toNat_natCast, List.length_map, ss, sd, zI, qG, zG, zH, St.get, qE, qF, qB, zD, norm, look, zF, qA, qI, St.alloc, St.drop, zA, part, zC, depth, qD, ↓reduceIte, Nat.reduceBEq, Nat.reduceAdd, Nat.reduceSub, Nat.reduceMul, Nat.reduceEqDiff, Nat.reduceLeDiff, Nat.reduceLT, qJ, qK, qL, qM, qN, qO, qP, qQ, qR, zJ, qS, qC, qT, evSlice0, qV, qW, qX, qY, qZ, zK, fixed, zL, wit, Option.isSome_some, qH, evSliceP, evPre, St.with, zE, Array.size, te, einl, inls, efr]
      (first | exact ⟨(), trivial⟩ | refine ⟨(), ?_, trivial⟩ | skip)
    | false =>
      have e1 := hBy r hbt
      rw [hbt, if_neg (by decide)] at hbr'
      have gz : (fnL (fun _ => 0) N)[r]? = some (.int .i64 0) := fn_get b1
      have ez : (fnL (fun _ => 0) N).set r (.int .i64 d) = fnL (ra r 0 0) N := by rw [fn_set b1, hr0]
      simp (maxSteps := 1000000) (implicitDefEqProofs := false) only [b1, b2, k91, hbr', hroom, p1, fn_zero, gz, ez, lu, lR, grow, show ((0 : Int) == 1) = false by decide, Int.natCast_nonneg, Int.toNat_natCast, List.length_map, ss, sd, zI, qG, zG, zH, St.get, qE, qF, qB, zD, norm, look, zF, qA, qI, St.alloc, St.drop, zA, part, zC, depth, qD, ↓reduceIte, Nat.reduceBEq, Nat.reduceAdd, Nat.reduceSub, Nat.reduceMul, Nat.reduceEqDiff, Nat.reduceLeDiff, Nat.reduceLT, qJ, qK, qL, qM, qN, qO, qP, qQ, qR, zJ, qS, qC, qT, evSlice0, qV, qW, qX, qY, qZ, zK, fixed, zL, wit, Option.isSome_some, qH, evSliceP, evPre, St.with, zE, Array.size, te, einl, inls, efr]
      generalize hr : loopAt _ _ _ _ _ _ = r; revert r
      refine loop_nat k (fun t _ => [(79, .int .i64 (t : Nat))]) (fun t _ => [(11, arrO (ra r t 0) N)]) (fun _ (_ : Unit) => True) () (by omega) (by simp (maxSteps := 1000000) (implicitDefEqProofs := false) only [arrO, Int.natCast_zero, ss, sd, zI, qG, zG, zH, St.get, qE, qF, qB, zD, norm, look, zF, qA, qI, St.alloc, St.drop, zA, part, zC, depth, qD, ↓reduceIte, Nat.reduceBEq, Nat.reduceAdd, Nat.reduceSub, Nat.reduceMul, Nat.reduceEqDiff, Nat.reduceLeDiff, Nat.reduceLT, qJ, qK, qL, qM, qN, qO, qP, qQ, qR, zJ, qS, qC, qT, evSlice0, qV, qW, qX, qY, qZ, zK, fixed, zL, wit, Option.isSome_some, qH, evSliceP, evPre, St.with, zE, Array.size, te, einl, inls, efr]) trivial (fun _ _ => ?_) (fun t _ _ d1 d2 d3 => ?_)
      · have hl := hBl r
        have hro : roomy ((rB r).length + 1) 24 = true := by simp [roomy]; omega
        have hbi : (rB r).length + 1 ≤ 4294967296 := by omega
        have z1 := sized_rays N (rB r)
        have e3 : (rB r).map (rayE N) ++ [.sl true (fnL (rR r) N)] = (rB (r + 1)).map (rayE N) := by rw [e1]; simp [rayE]
        have e4 : (rB (r + 1)).length = (rB r).length + 1 := by rw [e1]; simp
        simp (maxSteps := 1000000) (implicitDefEqProofs := false) only [Int.lt_irrefl, b3, hra, fn_take, lu, hro, hbi, z1, e3, e4, arrO, grow, List.length_map, ss, sd, zI, qG, zG, zH, St.get, qE, qF, qB, zD, norm, look, zF, qA, qI, St.alloc, St.drop, zA, part, zC, depth, qD, ↓reduceIte, Nat.reduceBEq, Nat.reduceAdd, Nat.reduceSub, Nat.reduceMul, Nat.reduceEqDiff, Nat.reduceLeDiff, Nat.reduceLT, qJ, qK, qL, qM, qN, qO, qP, qQ, qR, zJ, qS, qC, qT, evSlice0, qV, qW, qX, qY, qZ, zK, fixed, zL, wit, Option.isSome_some, qH, evSliceP, evPre, St.with, zE, Array.size, te, einl, inls, efr]
        (first | exact ⟨(), trivial⟩ | refine ⟨(), ?_, trivial⟩ | skip)
      · have gR := hR t d1
        have hrt : row t < N := by have := hrow t d1; omega
        have hrt' : ((row t : Nat) : Int) < (N : Int) := by omega
        simp (maxSteps := 1000000) (implicitDefEqProofs := false) only [d1, d2, gR, lR, lC, vI, arrO, Int.natCast_nonneg, Int.toNat_natCast, List.getElem?_map, List.length_map, ss, sd, zI, qG, zG, zH, St.get, qE, qF, qB, zD, norm, look, zF, qA, qI, St.alloc, St.drop, zA, part, zC, depth, qD, ↓reduceIte, Nat.reduceBEq, Nat.reduceAdd, Nat.reduceSub, Nat.reduceMul, Nat.reduceEqDiff, Nat.reduceLeDiff, Nat.reduceLT, qJ, qK, qL, qM, qN, qO, qP, qQ, qR, zJ, qS, qC, qT, evSlice0, qV, qW, qX, qY, qZ, zK, fixed, zL, wit, Option.isSome_some, qH, evSliceP, evPre, St.with, zE, Array.size, te, einl, inls, efr]
        generalize hr : loopAt _ _ _ _ _ _ = r; revert r
        refine loop_nat k (fun s _ => [(87, .int .i64 (s : Nat))]) (fun s _ => [(11, arrO (ra r t s) N)]) (fun _ (_ : Unit) => True) () (by omega) (by simp (maxSteps := 1000000) (implicitDefEqProofs := false) only [arrO, Int.natCast_zero, ss, sd, zI, qG, zG, zH, St.get, qE, qF, qB, zD, norm, look, zF, qA, qI, St.alloc, St.drop, zA, part, zC, depth, qD, ↓reduceIte, Nat.reduceBEq, Nat.reduceAdd, Nat.reduceSub, Nat.reduceMul, Nat.reduceEqDiff, Nat.reduceLeDiff, Nat.reduceLT, qJ, qK, qL, qM, qN, qO, qP, qQ, qR, zJ, qS, qC, qT, evSlice0, qV, qW, qX, qY, qZ, zK, fixed, zL, wit, Option.isSome_some, qH, evSliceP, evPre, St.with, zE, Array.size, te, einl, inls, efr]) trivial (fun _ _ => ?_) (fun s _ _ f1 f2 f3 => ?_)
        · have e5 := hrn r t
          simp (maxSteps := 1000000) (implicitDefEqProofs := false) only [Int.lt_irrefl, d3, arrO, e5, List.length_map, ss, sd, zI, qG, zG, zH, St.get, qE, qF, qB, zD, norm, look, zF, qA, qI, St.alloc, St.drop, zA, part, zC, depth, qD, ↓reduceIte, Nat.reduceBEq, Nat.reduceAdd, Nat.reduceSub, Nat.reduceMul, Nat.reduceEqDiff, Nat.reduceLeDiff, Nat.reduceLT, qJ, qK, qL, qM, qN, qO, qP, qQ, qR, zJ, qS, qC, qT, evSlice0, qV, qW, qX, qY, qZ, zK, fixed, zL, wit, Option.isSome_some, qH, evSliceP, evPre, St.with, zE, Array.size, te, einl, inls, efr]
          (first | exact ⟨(), trivial⟩ | refine ⟨(), ?_, trivial⟩ | skip)
        · have gC := hC s f1
          have hct := hcol s f1
          have k89 := k1 s t f1 d1
          have k9 := k87 r (col s) hct (by rw [hps _ hct]; omega) (by omega)
          have e5 := hru r t s
          have hi1 := hinv s t f1 d1
          have hc1 := hcoef r (col s) hct
          have hm1 := mul_both hc1 hi1
          have ha1 := hri r t s (row t) (by omega) (by omega) (.inl d1)
          have gw : (fnL (ra r t s) N)[row t]? = some (.int .i64 (ra r t s (row t))) := fn_get hrt
          have es : (fnL (ra r t s) N).set (row t) (.int .i64 (ra r t s (row t) - cf r (col s) * iv s t)) = fnL (ra r t (s + 1)) N := by rw [fn_set hrt, e5]
          have v1 : IntKind.i64.wrap (cf r (col s) * iv s t) = cf r (col s) * iv s t := wrap_in (by omega)
          have v2 : IntKind.i64.wrap (ra r t s (row t) - cf r (col s) * iv s t) = ra r t s (row t) - cf r (col s) * iv s t := wrap_in (by omega)
          simp (maxSteps := 1000000) (implicitDefEqProofs := false) only [f1, f2, f3, gC, hrt, hrt', k89, k9, gw, es, v1, v2, lu, vI, arrO, evRegion_st hok, Int.natCast_nonneg, Int.toNat_natCast, List.getElem?_map, List.length_map, ss, sd, zI, qG, zG, zH, St.get, qE, qF, qB, zD, norm, look, zF, qA, qI, St.alloc, St.drop, zA, part, zC, depth, qD, ↓reduceIte, Nat.reduceBEq, Nat.reduceAdd, Nat.reduceSub, Nat.reduceMul, Nat.reduceEqDiff, Nat.reduceLeDiff, Nat.reduceLT, qJ, qK, qL, qM, qN, qO, qP, qQ, qR, zJ, qS, qC, qT, evSlice0, qV, qW, qX, qY, qZ, zK, fixed, zL, wit, Option.isSome_some, qH, evSliceP, evPre, St.with, zE, Array.size, te, einl, inls, efr]
          (first | exact ⟨(), trivial⟩ | refine ⟨(), ?_, trivial⟩ | skip)
  have hrl := hBl N
  rw [hBa] at hrl
  simp (maxSteps := 1000000) (implicitDefEqProofs := false) only [Int.lt_irrefl, hBa, grow, List.length_map, ss, sd, zI, qG, zG, zH, St.get, qE, qF, qB, zD, norm, look, zF, qA, qI, St.alloc, St.drop, zA, part, zC, depth, qD, ↓reduceIte, Nat.reduceBEq, Nat.reduceAdd, Nat.reduceSub, Nat.reduceMul, Nat.reduceEqDiff, Nat.reduceLeDiff, Nat.reduceLT, qJ, qK, qL, qM, qN, qO, qP, qQ, qR, zJ, qS, qC, qT, evSlice0, qV, qW, qX, qY, qZ, zK, fixed, zL, wit, Option.isSome_some, qH, evSliceP, evPre, St.with, zE, Array.size, te, einl, inls, efr]
  generalize hr : loopAt _ _ _ _ _ _ = r; revert r
  refine loop_list rM (fun pre _ => [(118, .int .i64 pre.length)]) (fun _ _ => []) (fun pre (_ : Unit) => ∀ ray ∈ pre, rF ray = none) () (by omega) (by simp (maxSteps := 1000000) (implicitDefEqProofs := false) only [ss, sd, zI, qG, zG, zH, St.get, qE, qF, qB, zD, norm, look, zF, qA, qI, St.alloc, St.drop, zA, part, zC, depth, qD, ↓reduceIte, Nat.reduceBEq, Nat.reduceAdd, Nat.reduceSub, Nat.reduceMul, Nat.reduceEqDiff, Nat.reduceLeDiff, Nat.reduceLT, qJ, qK, qL, qM, qN, qO, qP, qQ, qR, zJ, qS, qC, qT, evSlice0, qV, qW, qX, qY, qZ, zK, fixed, zL, wit, Option.isSome_some, qH, evSliceP, evPre, St.with, zE, Array.size, te, einl, inls, efr]) (fun _ h => by cases h) (fun _ hI => ?_) (fun pre ray post _ hp hI g1 g2 g3 g4 => ?_)
  · rw [fsl_none hI]
    simp (maxSteps := 1000000) (implicitDefEqProofs := false) only [Int.lt_irrefl, encPO, List.length_map, Try.ntmps58, Try.results58, efc58, fc58, ss, sd, zI, qG, zG, zH, St.get, qE, qF, qB, zD, norm, look, zF, qA, qI, St.alloc, St.drop, zA, part, zC, depth, qD, ↓reduceIte, Nat.reduceBEq, Nat.reduceAdd, Nat.reduceSub, Nat.reduceMul, Nat.reduceEqDiff, Nat.reduceLeDiff, Nat.reduceLT, qJ, qK, qL, qM, qN, qO, qP, qQ, qR, zJ, qS, qC, qT, evSlice0, qV, qW, qX, qY, qZ, zK, fixed, zL, wit, Option.isSome_some, qH, evSliceP, evPre, St.with, zE, Array.size, te, einl, inls, efr]
  · have hs2 := hsr ray (by rw [hp]; simp)
    have hF := hrF ray
    simp (maxSteps := 1000000) (implicitDefEqProofs := false) only [g1, g2, g3, er, Int.natCast_nonneg, Int.toNat_natCast, List.getElem?_map, List.length_map, ss, sd, zI, qG, zG, zH, St.get, qE, qF, qB, zD, norm, look, zF, qA, qI, St.alloc, St.drop, zA, part, zC, depth, qD, ↓reduceIte, Nat.reduceBEq, Nat.reduceAdd, Nat.reduceSub, Nat.reduceMul, Nat.reduceEqDiff, Nat.reduceLeDiff, Nat.reduceLT, qJ, qK, qL, qM, qN, qO, qP, qQ, qR, zJ, qS, qC, qT, evSlice0, qV, qW, qX, qY, qZ, zK, fixed, zL, wit, Option.isSome_some, qH, evSliceP, evPre, St.with, zE, Array.size, te, einl, inls, efr]
    generalize hr : loopAt _ _ _ _ _ _ = r; revert r
    refine loop_nat 2 (fun i _ => [(124, .int .i64 (i : Nat))]) (fun _ _ => []) (fun i (_ : Unit) => ∀ j, j < i → tw (fun k => sgv j * ray k) = none) () (by omega) (by simp (maxSteps := 1000000) (implicitDefEqProofs := false) only [Int.natCast_zero, ss, sd, zI, qG, zG, zH, St.get, qE, qF, qB, zD, norm, look, zF, qA, qI, St.alloc, St.drop, zA, part, zC, depth, qD, ↓reduceIte, Nat.reduceBEq, Nat.reduceAdd, Nat.reduceSub, Nat.reduceMul, Nat.reduceEqDiff, Nat.reduceLeDiff, Nat.reduceLT, qJ, qK, qL, qM, qN, qO, qP, qQ, qR, zJ, qS, qC, qT, evSlice0, qV, qW, qX, qY, qZ, zK, fixed, zL, wit, Option.isSome_some, qH, evSliceP, evPre, St.with, zE, Array.size, te, einl, inls, efr]) (fun _ h => by omega) (fun _ hJ => ?_) (fun i _ hJ d1 d2 d3 => ?_)
    · have e0 := hJ 0 (by decide)
      have e1 := hJ 1 (by decide)
      rw [e0, e1] at hF
      simp (maxSteps := 1000000) (implicitDefEqProofs := false) only [Int.lt_irrefl, g4, List.length_map, ss, sd, zI, qG, zG, zH, St.get, qE, qF, qB, zD, norm, look, zF, qA, qI, St.alloc, St.drop, zA, part, zC, depth, qD, ↓reduceIte, Nat.reduceBEq, Nat.reduceAdd, Nat.reduceSub, Nat.reduceMul, Nat.reduceEqDiff, Nat.reduceLeDiff, Nat.reduceLT, qJ, qK, qL, qM, qN, qO, qP, qQ, qR, zJ, qS, qC, qT, evSlice0, qV, qW, qX, qY, qZ, zK, fixed, zL, wit, Option.isSome_some, qH, evSliceP, evPre, St.with, zE, Array.size, te, einl, inls, efr]
      refine ⟨(), fun r hr => ?_⟩
      rcases List.mem_append.1 hr with hr | hr
      · exact hI r hr
      · have : r = ray := by simpa using hr
        rw [this]; exact hF
    · have gs := sgv_get d1
      obtain ⟨hw1, hw2⟩ := hs2 i
      have k9 := k90 (fun k => sgv i * ray k) hw1
      have k6 := k69 (fun k => sgv i * ray k) hw1 hw2
      have ht := htry (fun k => sgv i * ray k)
      have d2' : (i : Int) < 2 := by omega
      have z0 := part_zero (fun k => sgv i * ray k)
      have a4 := part_all (fun k => sgv i * ray k) N
      have u3 : ∀ j, j < N → (fnL (part0 (fun k => sgv i * ray k) j) N).set j (.int .i64 (sgv i * ray j)) = fnL (part0 (fun k => sgv i * ray k) (j + 1)) N := fun j hj => by rw [fn_set hj, ← part_upd]
      have hw3 : ∀ j, IntKind.i64.wrap (sgv i * ray j) = sgv i * ray j := fun j => by have := hw1 j; exact wrap_in (by omega)
      generalize hpt : part0 (fun k => sgv i * ray k) = pt at *
      generalize hW : pw (fun k => sgv i * ray k) = W at *
      generalize hV : vw (fun k => sgv i * ray k) = vv at *
      simp (maxSteps := 1000000) (implicitDefEqProofs := false) only [d1, d2, d2', gs, hroom, p1, fn_zero, lu, Int.natCast_nonneg, Int.toNat_natCast, List.length_map, ss, sd, zI, qG, zG, zH, St.get, qE, qF, qB, zD, norm, look, zF, qA, qI, St.alloc, St.drop, zA, part, zC, depth, qD, ↓reduceIte, Nat.reduceBEq, Nat.reduceAdd, Nat.reduceSub, Nat.reduceMul, Nat.reduceEqDiff, Nat.reduceLeDiff, Nat.reduceLT, qJ, qK, qL, qM, qN, qO, qP, qQ, qR, zJ, qS, qC, qT, evSlice0, qV, qW, qX, qY, qZ, zK, fixed, zL, wit, Option.isSome_some, qH, evSliceP, evPre, St.with, zE, Array.size, te, einl, inls, efr]
      generalize hr : loopAt _ _ _ _ _ _ = r; revert r
      refine loop_nat N (fun j _ => [(132, .int .i64 (j : Nat))]) (fun j _ => [(20, arrO (pt j) N)]) (fun _ (_ : Unit) => True) () (by omega) (by simp (maxSteps := 1000000) (implicitDefEqProofs := false) only [z0, arrO, Int.natCast_zero, ss, sd, zI, qG, zG, zH, St.get, qE, qF, qB, zD, norm, look, zF, qA, qI, St.alloc, St.drop, zA, part, zC, depth, qD, ↓reduceIte, Nat.reduceBEq, Nat.reduceAdd, Nat.reduceSub, Nat.reduceMul, Nat.reduceEqDiff, Nat.reduceLeDiff, Nat.reduceLT, qJ, qK, qL, qM, qN, qO, qP, qQ, qR, zJ, qS, qC, qT, evSlice0, qV, qW, qX, qY, qZ, zK, fixed, zL, wit, Option.isSome_some, qH, evSliceP, evPre, St.with, zE, Array.size, te, einl, inls, efr]) trivial (fun _ _ => ?_) (fun j _ _ f1 f2 f3 => ?_)
      rotate_left
      · have gj : (fnL ray N)[j]? = some (.int .i64 (ray j)) := fn_get f1
        have gw : (fnL (pt j) N)[j]? = some (.int .i64 (pt j j)) := fn_get f1
        have e3 := u3 j f1
        have e4 := hw3 j
        simp (maxSteps := 1000000) (implicitDefEqProofs := false) only [f1, f2, f3, gj, gw, e3, e4, lu, arrO, Int.natCast_nonneg, Int.toNat_natCast, List.length_map, ss, sd, zI, qG, zG, zH, St.get, qE, qF, qB, zD, norm, look, zF, qA, qI, St.alloc, St.drop, zA, part, zC, depth, qD, ↓reduceIte, Nat.reduceBEq, Nat.reduceAdd, Nat.reduceSub, Nat.reduceMul, Nat.reduceEqDiff, Nat.reduceLeDiff, Nat.reduceLT, qJ, qK, qL, qM, qN, qO, qP, qQ, qR, zJ, qS, qC, qT, evSlice0, qV, qW, qX, qY, qZ, zK, fixed, zL, wit, Option.isSome_some, qH, evSliceP, evPre, St.with, zE, Array.size, te, einl, inls, efr]
        (first | exact ⟨(), trivial⟩ | refine ⟨(), ?_, trivial⟩ | skip)
      by_cases hv0 : 0 < vv
      · rw [if_pos hv0] at ht
        have hr : rF ray = some W := by
          rw [hF]
          have hi2 : i = 0 ∨ i = 1 := by omega
          rcases hi2 with e | e
          · subst e; rw [ht]; rfl
          · subst e; rw [hJ 0 (by decide), ht]; rfl
        rw [hp, fsl_some hI hr]
        simp (maxSteps := 1000000) (implicitDefEqProofs := false) only [Int.lt_irrefl, a4, fn_take, lu, k9, k6, hv0, encPO, encPrT, arrO, List.length_map, Try.ntmps58, Try.results58, efc58, fc58, ss, sd, zI, qG, zG, zH, St.get, qE, qF, qB, zD, norm, look, zF, qA, qI, St.alloc, St.drop, zA, part, zC, depth, qD, ↓reduceIte, Nat.reduceBEq, Nat.reduceAdd, Nat.reduceSub, Nat.reduceMul, Nat.reduceEqDiff, Nat.reduceLeDiff, Nat.reduceLT, qJ, qK, qL, qM, qN, qO, qP, qQ, qR, zJ, qS, qC, qT, evSlice0, qV, qW, qX, qY, qZ, zK, fixed, zL, wit, Option.isSome_some, qH, evSliceP, evPre, St.with, zE, Array.size, te, einl, inls, efr]
      · rw [if_neg hv0] at ht
        simp (maxSteps := 1000000) (implicitDefEqProofs := false) only [Int.lt_irrefl, d3, a4, fn_take, lu, k9, k6, hv0, encPrT, arrO, List.length_map, ss, sd, zI, qG, zG, zH, St.get, qE, qF, qB, zD, norm, look, zF, qA, qI, St.alloc, St.drop, zA, part, zC, depth, qD, ↓reduceIte, Nat.reduceBEq, Nat.reduceAdd, Nat.reduceSub, Nat.reduceMul, Nat.reduceEqDiff, Nat.reduceLeDiff, Nat.reduceLT, qJ, qK, qL, qM, qN, qO, qP, qQ, qR, zJ, qS, qC, qT, evSlice0, qV, qW, qX, qY, qZ, zK, fixed, zL, wit, Option.isSome_some, qH, evSliceP, evPre, St.with, zE, Array.size, te, einl, inls, efr]
        refine ⟨(), fun j hj => ?_⟩
        by_cases e : j = i
        · subst e; exact ht
        · exact hJ j (by omega)
end Go.AM.E

