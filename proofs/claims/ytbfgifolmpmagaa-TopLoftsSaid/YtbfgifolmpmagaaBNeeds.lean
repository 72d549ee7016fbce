/-
What goods need, and which windows are a proof.
-/
import Derived.Test.YtbfgifolmpmagaaBDays
set_option linter.unusedVariables false
set_option linter.unusedSimpArgs false

namespace Go.AM.B
open Go Go.AM Go.Proofs

theorem mul_in {a b A B : Int} (ha : 0 ≤ a ∧ a ≤ A) (hb : 0 ≤ b ∧ b ≤ B) : 0 ≤ a * b ∧ a * b ≤ A * B :=
  ⟨Int.mul_nonneg ha.1 hb.1, Int.le_trans (Int.mul_le_mul_of_nonneg_right ha.2 hb.1) (Int.mul_le_mul_of_nonneg_left hb.2 (by omega))⟩

theorem dstep_in {g : Goods} {f : Loft} {p : Int × Bool} (hf : loftOk f = true) (h : 0 ≤ p.1 ∧ p.1 ≤ 12) : 0 ≤ (dstep g p f).1 ∧ (dstep g p f).1 ≤ 12 := by
  unfold dstep
  split
  · rename_i l hl
    split
    · obtain ⟨_, q, _⟩ := prog_right hf 12 1 l (Nat.le_refl _) hl
      dsimp only; omega
    · exact h
  · exact h
theorem daysM_in (g : Goods) (l : List Loft) (hl : ∀ f ∈ l, loftOk f = true) : 0 ≤ (daysM g l).1 ∧ (daysM g l).1 ≤ 12 := by
  have : ∀ (l : List Loft) (p : Int × Bool), (∀ f ∈ l, loftOk f = true) → 0 ≤ p.1 ∧ p.1 ≤ 12 → 0 ≤ (l.foldl (dstep g) p).1 ∧ (l.foldl (dstep g) p).1 ≤ 12 := by
    intro l
    induction l with
    | nil => intro p _ h; exact h
    | cons f l ih => intro p hl h; exact ih _ (fun x hx => hl x (List.mem_cons_of_mem _ hx)) (dstep_in (hl f List.mem_cons_self) h)
  exact this l (0, false) hl (by decide)

def needP (l : List Loft) (g : Goods) : Int := g.poles * (daysM g l).1
def never (l : List Loft) (g : Goods) : Bool := !(daysM g l).2
def encN (l : List Loft) (g : Goods) : V := .agg [.int .i64 (needP l g), .bool (never l g)]
theorem needP_in {l : List Loft} {g : Goods} (hl : ∀ f ∈ l, loftOk f = true) (hg : goodsOk g = true) : 0 ≤ needP l g ∧ needP l g ≤ 480 := by
  have h1 := daysM_in g l hl
  have h2 := (goodsOk_iff.1 hg).1
  have := mul_in (a := g.poles) (A := 40) (by omega) h1
  exact ⟨this.1, by have := this.2; unfold needP; omega⟩

section
variable (l : List Loft) (gs : List Goods)

set_option maxHeartbeats 8000000 in
theorem c76 (hl : ∀ f ∈ l, loftOk f = true) (hn : l.length ≤ 1000) (hg : ∀ g ∈ gs, goodsOk g = true) (hm : gs.length ≤ 1000) : (orcω E X0).call 76 [.sl false (l.map encL), .sl false (gs.map encG)] = some (.sl true (gs.map (encN l))) := by
  refine call_of rfl fn76 rfl ?_
  simp (maxSteps := 1000000) (implicitDefEqProofs := false) only [Try.ntmps76, Try.results76, efc76, fc76, ss, List.replicate, zH, qG, zF, zG, St.eval, St.put, St.get, constV, List.set, lenV, qE, qF, qB, zC, norm, xQ, look, xP, xX, zO, zM, zE, zN, qA, qI, St.alloc, St.drop, killL, kill, xU, xV, zA, upd, cells?, part, retag, xT, putIn, refFree, xR, isNew, xS, Ty.isAgg, zB, idsL, ids, idsLL, reach, depth, St.dropL, qD, resultV, ↓reduceIte, Nat.reduceBEq, Nat.reduceAdd, Nat.reduceSub, Nat.reduceMul, Nat.reduceEqDiff, Nat.reduceLeDiff, Nat.reduceLT, qJ, qK, zV, zW, qL, qM, qN, qO, Eff.ap, qP, qQ, xW, qR, zI, onto, dropO, xA, sized, zP, eqT, eqG, minV, evUn, qS, zQ, zR, zS, qC, qT, upO, evSlice0, optInt, xC, qV, xD, del, xB, plain, plainL, zY, zZ, zT, qW, zU, zX, xY, qX, qY, qZ, xE, zJ, zK, zL, xF, xG, wit, xH, Option.isSome_some, xI, qH, xJ, evPre, St.with, xK, xL, zD, xM, xN, xO, Array.size, te, einl, inls, efr]
  generalize hr : loopAt _ _ _ _ _ _ = r; revert r
  refine loop_list gs (fun pre _ => [(5, .own 5 0 pre.length), (12, .int .i64 pre.length)]) (fun pre _ => [(5, { es := 2, flat := true, t := true, app := true, elems := pre.map (encN l) })]) (fun _ (_ : Unit) => True) () (by omega) (by simp (maxSteps := 1000000) (implicitDefEqProofs := false) only [List.map_nil, ss, List.replicate, zH, qG, zF, zG, St.eval, St.put, St.get, constV, List.set, lenV, qE, qF, qB, zC, norm, xQ, look, xP, xX, zO, zM, zE, zN, qA, qI, St.alloc, St.drop, killL, kill, xU, xV, zA, upd, cells?, part, retag, xT, putIn, refFree, xR, isNew, xS, Ty.isAgg, zB, idsL, ids, idsLL, reach, depth, St.dropL, qD, resultV, ↓reduceIte, Nat.reduceBEq, Nat.reduceAdd, Nat.reduceSub, Nat.reduceMul, Nat.reduceEqDiff, Nat.reduceLeDiff, Nat.reduceLT, qJ, qK, zV, zW, qL, qM, qN, qO, Eff.ap, qP, qQ, xW, qR, zI, onto, dropO, xA, sized, zP, eqT, eqG, minV, evUn, qS, zQ, zR, zS, qC, qT, upO, evSlice0, optInt, xC, qV, xD, del, xB, plain, plainL, zY, zZ, zT, qW, zU, zX, xY, qX, qY, qZ, xE, zJ, zK, zL, xF, xG, wit, xH, Option.isSome_some, xI, qH, xJ, evPre, St.with, xK, xL, zD, xM, xN, xO, Array.size, te, einl, inls, efr]) trivial (fun _ hi => ?_) (fun pre x post _ hp hi g1 g2 g3 g4 => ?_)
  · have tk : (gs.map (encN l)).take gs.length = gs.map (encN l) := List.take_of_length_le (by simp)
    simp (maxSteps := 1000000) (implicitDefEqProofs := false) only [Int.lt_irrefl, Try.ntmps76, Try.results76, efc76, fc76, List.length_map, tk, ss, List.replicate, zH, qG, zF, zG, St.eval, St.put, St.get, constV, List.set, lenV, qE, qF, qB, zC, norm, xQ, look, xP, xX, zO, zM, zE, zN, qA, qI, St.alloc, St.drop, killL, kill, xU, xV, zA, upd, cells?, part, retag, xT, putIn, refFree, xR, isNew, xS, Ty.isAgg, zB, idsL, ids, idsLL, reach, depth, St.dropL, qD, resultV, ↓reduceIte, Nat.reduceBEq, Nat.reduceAdd, Nat.reduceSub, Nat.reduceMul, Nat.reduceEqDiff, Nat.reduceLeDiff, Nat.reduceLT, qJ, qK, zV, zW, qL, qM, qN, qO, Eff.ap, qP, qQ, xW, qR, zI, onto, dropO, xA, sized, zP, eqT, eqG, minV, evUn, qS, zQ, zR, zS, qC, qT, upO, evSlice0, optInt, xC, qV, xD, del, xB, plain, plainL, zY, zZ, zT, qW, zU, zX, xY, qX, qY, qZ, xE, zJ, zK, zL, xF, xG, wit, xH, Option.isSome_some, xI, qH, xJ, evPre, St.with, xK, xL, zD, xM, xN, xO, Array.size, te, einl, inls, efr]
  · have hx := hg x (List.mem_of_getElem? g3)
    have k1 := c68 l x hl hx hn
    have q1 := needP_in hl hx
    unfold needP at q1
    have w1 : IntKind.i64.wrap (x.poles * (daysM x l).1) = x.poles * (daysM x l).1 := wrap_in (by omega)
    have hroom : roomy (pre.length + 1) 16 = true := by simp [roomy]; omega
    have hbig : pre.length + 1 ≤ 4294967296 := by omega
    have e1 : pre.map (encN l) ++ [.agg [.int .i64 (x.poles * (daysM x l).1), .bool (!(daysM x l).2)]] = (pre ++ [x]).map (encN l) := by rw [List.map_append]; rfl
    have e2 : (pre ++ [x]).length = pre.length + 1 := by simp
    unfold encD at k1
    unfold encG at k1 ⊢
    simp (maxSteps := 1000000) (implicitDefEqProofs := false) only [g1, g2, g3, g4, k1, w1, hroom, hbig, e1, Int.natCast_nonneg, Int.toNat_natCast, List.getElem?_map, List.length_map, ss, List.replicate, zH, qG, zF, zG, St.eval, St.put, St.get, constV, List.set, lenV, qE, qF, qB, zC, norm, xQ, look, xP, xX, zO, zM, zE, zN, qA, qI, St.alloc, St.drop, killL, kill, xU, xV, zA, upd, cells?, part, retag, xT, putIn, refFree, xR, isNew, xS, Ty.isAgg, zB, idsL, ids, idsLL, reach, depth, St.dropL, qD, resultV, ↓reduceIte, Nat.reduceBEq, Nat.reduceAdd, Nat.reduceSub, Nat.reduceMul, Nat.reduceEqDiff, Nat.reduceLeDiff, Nat.reduceLT, qJ, qK, zV, zW, qL, qM, qN, qO, Eff.ap, qP, qQ, xW, qR, zI, onto, dropO, xA, sized, zP, eqT, eqG, minV, evUn, qS, zQ, zR, zS, qC, qT, upO, evSlice0, optInt, xC, qV, xD, del, xB, plain, plainL, zY, zZ, zT, qW, zU, zX, xY, qX, qY, qZ, xE, zJ, zK, zL, xF, xG, wit, xH, Option.isSome_some, xI, qH, xJ, evPre, St.with, xK, xL, zD, xM, xN, xO, Array.size, te, einl, inls, efr]
    exact ⟨(), by rw [e2]⟩

end

def inW (a b : Int) (g : Goods) : Bool := !(decide (g.ready < a) || decide (b < g.due))
def sumW (l : List Loft) (a b : Int) (gs : List Goods) : Int := ((gs.filter (inW a b)).map (needP l)).sum
def roomM (l : List Loft) (a b : Int) : Int := (l.map fun f => f.poles * (b - a)).sum
def provM (l : List Loft) (gs : List Goods) (a b : Int) : Bool := (gs.any fun g => inW a b g && never l g) || decide (roomM l a b < sumW l a b gs)

theorem sumW_snoc (l : List Loft) (a b : Int) (gs : List Goods) (x : Goods) : sumW l a b (gs ++ [x]) = sumW l a b gs + if inW a b x = true then needP l x else 0 := by
  unfold sumW
  rw [List.filter_append, List.map_append, List.sum_append]
  cases h : inW a b x <;> simp [h]
theorem sumW_in {l : List Loft} (hl : ∀ f ∈ l, loftOk f = true) (a b : Int) : ∀ {gs : List Goods}, (∀ g ∈ gs, goodsOk g = true) → 0 ≤ sumW l a b gs ∧ sumW l a b gs ≤ 480 * gs.length
  | [], _ => by simp [sumW]
  | x :: gs, h => by
    have h1 := sumW_in hl a b (gs := gs) fun g hg => h g (List.mem_cons_of_mem _ hg)
    have h2 := needP_in hl (h x List.mem_cons_self)
    have h3 : sumW l a b (x :: gs) = (if inW a b x = true then needP l x else 0) + sumW l a b gs := by
      unfold sumW
      cases hw : inW a b x <;> simp [hw]
    rw [h3, List.length_cons]
    split <;> omega
theorem roomM_snoc (l : List Loft) (a b : Int) (f : Loft) : roomM (l ++ [f]) a b = roomM l a b + f.poles * (b - a) := by simp [roomM]
theorem roomM_in {a b : Int} (hab : 0 ≤ a ∧ a ≤ b ∧ b ≤ 60) : ∀ {l : List Loft}, (∀ f ∈ l, loftOk f = true) → 0 ≤ roomM l a b ∧ roomM l a b ≤ 2400 * l.length
  | [], _ => by simp [roomM]
  | f :: l, h => by
    have h1 := roomM_in hab (l := l) fun g hg => h g (List.mem_cons_of_mem _ hg)
    have h2 := (loftOk_iff.1 (h f List.mem_cons_self)).1
    have h3 := mul_in (a := f.poles) (A := 40) (b := b - a) (B := 60) (by omega) (by omega)
    have h4 : roomM (f :: l) a b = f.poles * (b - a) + roomM l a b := by simp [roomM]
    rw [h4, List.length_cons]
    omega

section
variable (l : List Loft) (gs : List Goods) (a b : Int)

set_option maxHeartbeats 8000000 in
theorem c75 (hl : ∀ f ∈ l, loftOk f = true) (hn : l.length ≤ 1000) (hg : ∀ g ∈ gs, goodsOk g = true) (hm : gs.length ≤ 1000) : (orcω E X0).call 75 [.sl false (l.map encL), .sl false (gs.map encG), .sl false (gs.map (encN l)), .agg [.int .i64 a, .int .i64 b]] = some (.bool (inB a 0 b && decide (b ≤ 60) && provM l gs a b)) := by
  refine call_of rfl fn75 rfl ?_
  have k1 := c58 a 0 b
  cases h1 : inB a 0 b with
  | false => simp (maxSteps := 1000000) (implicitDefEqProofs := false) only [Try.ntmps75, Try.results75, efc75, fc75, k1, h1, Bool.false_and, ss, List.replicate, zH, qG, zF, zG, St.eval, St.put, St.get, constV, List.set, lenV, qE, qF, qB, zC, norm, xQ, look, xP, xX, zO, zM, zE, zN, qA, qI, St.alloc, St.drop, killL, kill, xU, xV, zA, upd, cells?, part, retag, xT, putIn, refFree, xR, isNew, xS, Ty.isAgg, zB, idsL, ids, idsLL, reach, depth, St.dropL, qD, resultV, ↓reduceIte, Nat.reduceBEq, Nat.reduceAdd, Nat.reduceSub, Nat.reduceMul, Nat.reduceEqDiff, Nat.reduceLeDiff, Nat.reduceLT, qJ, qK, zV, zW, qL, qM, qN, qO, Eff.ap, qP, qQ, xW, qR, zI, onto, dropO, xA, sized, zP, eqT, eqG, minV, evUn, qS, zQ, zR, zS, qC, qT, upO, evSlice0, optInt, xC, qV, xD, del, xB, plain, plainL, zY, zZ, zT, qW, zU, zX, xY, qX, qY, qZ, xE, zJ, zK, zL, xF, xG, wit, xH, Option.isSome_some, xI, qH, xJ, evPre, St.with, xK, xL, zD, xM, xN, xO, Array.size, te, einl, inls, efr]
  | true =>
  by_cases h2 : 60 < b
  · have e : decide (b ≤ 60) = false := by simpa using h2
    simp (maxSteps := 1000000) (implicitDefEqProofs := false) only [Try.ntmps75, Try.results75, efc75, fc75, k1, h1, h2, e, Bool.and_false, Bool.false_and, ss, List.replicate, zH, qG, zF, zG, St.eval, St.put, St.get, constV, List.set, lenV, qE, qF, qB, zC, norm, xQ, look, xP, xX, zO, zM, zE, zN, qA, qI, St.alloc, St.drop, killL, kill, xU, xV, zA, upd, cells?, part, retag, xT, putIn, refFree, xR, isNew, xS, Ty.isAgg, zB, idsL, ids, idsLL, reach, depth, St.dropL, qD, resultV, ↓reduceIte, Nat.reduceBEq, Nat.reduceAdd, Nat.reduceSub, Nat.reduceMul, Nat.reduceEqDiff, Nat.reduceLeDiff, Nat.reduceLT, qJ, qK, zV, zW, qL, qM, qN, qO, Eff.ap, qP, qQ, xW, qR, zI, onto, dropO, xA, sized, zP, eqT, eqG, minV, evUn, qS, zQ, zR, zS, qC, qT, upO, evSlice0, optInt, xC, qV, xD, del, xB, plain, plainL, zY, zZ, zT, qW, zU, zX, xY, qX, qY, qZ, xE, zJ, zK, zL, xF, xG, wit, xH, Option.isSome_some, xI, qH, xJ, evPre, St.with, xK, xL, zD, xM, xN, xO, Array.size, te, einl, inls, efr]
  have e : decide (b ≤ 60) = true := by simp; omega
  have g0 := inB_iff.1 h1
  rw [e]
  simp (maxSteps := 1000000) (implicitDefEqProofs := false) only [Try.ntmps75, Try.results75, efc75, fc75, k1, h1, h2, Bool.true_and, ss, List.replicate, zH, qG, zF, zG, St.eval, St.put, St.get, constV, List.set, lenV, qE, qF, qB, zC, norm, xQ, look, xP, xX, zO, zM, zE, zN, qA, qI, St.alloc, St.drop, killL, kill, xU, xV, zA, upd, cells?, part, retag, xT, putIn, refFree, xR, isNew, xS, Ty.isAgg, zB, idsL, ids, idsLL, reach, depth, St.dropL, qD, resultV, ↓reduceIte, Nat.reduceBEq, Nat.reduceAdd, Nat.reduceSub, Nat.reduceMul, Nat.reduceEqDiff, Nat.reduceLeDiff, Nat.reduceLT, qJ, qK, zV, zW, qL, qM, qN, qO, Eff.ap, qP, qQ, xW, qR, zI, onto, dropO, xA, sized, zP, eqT, eqG, minV, evUn, qS, zQ, zR, zS, qC, qT, upO, evSlice0, optInt, xC, qV, xD, del, xB, plain, plainL, zY, zZ, zT, qW, zU, zX, xY, qX, qY, qZ, xE, zJ, zK, zL, xF, xG, wit, xH, Option.isSome_some, xI, qH, xJ, evPre, St.with, xK, xL, zD, xM, xN, xO, Array.size, te, einl, inls, efr]
  generalize hr : loopAt _ _ _ _ _ _ = r; revert r
  refine loop_list gs (fun pre _ => [(9, .int .i64 (sumW l a b pre)), (28, .int .i64 pre.length)]) (fun _ _ => []) (fun pre (_ : Unit) => (pre.any fun g => inW a b g && never l g) = false) () (by omega) (by simp (maxSteps := 1000000) (implicitDefEqProofs := false) only [sumW, List.filter_nil, List.map_nil, List.sum_nil, ss, List.replicate, zH, qG, zF, zG, St.eval, St.put, St.get, constV, List.set, lenV, qE, qF, qB, zC, norm, xQ, look, xP, xX, zO, zM, zE, zN, qA, qI, St.alloc, St.drop, killL, kill, xU, xV, zA, upd, cells?, part, retag, xT, putIn, refFree, xR, isNew, xS, Ty.isAgg, zB, idsL, ids, idsLL, reach, depth, St.dropL, qD, resultV, ↓reduceIte, Nat.reduceBEq, Nat.reduceAdd, Nat.reduceSub, Nat.reduceMul, Nat.reduceEqDiff, Nat.reduceLeDiff, Nat.reduceLT, qJ, qK, zV, zW, qL, qM, qN, qO, Eff.ap, qP, qQ, xW, qR, zI, onto, dropO, xA, sized, zP, eqT, eqG, minV, evUn, qS, zQ, zR, zS, qC, qT, upO, evSlice0, optInt, xC, qV, xD, del, xB, plain, plainL, zY, zZ, zT, qW, zU, zX, xY, qX, qY, qZ, xE, zJ, zK, zL, xF, xG, wit, xH, Option.isSome_some, xI, qH, xJ, evPre, St.with, xK, xL, zD, xM, xN, xO, Array.size, te, einl, inls, efr]) rfl (fun _ hi => ?_) (fun pre x post _ hp hi g1 g2 g3 g4 => ?_)
  · have s1 := sumW_in hl a b hg
    simp (maxSteps := 1000000) (implicitDefEqProofs := false) only [Int.lt_irrefl, List.length_map, ss, List.replicate, zH, qG, zF, zG, St.eval, St.put, St.get, constV, List.set, lenV, qE, qF, qB, zC, norm, xQ, look, xP, xX, zO, zM, zE, zN, qA, qI, St.alloc, St.drop, killL, kill, xU, xV, zA, upd, cells?, part, retag, xT, putIn, refFree, xR, isNew, xS, Ty.isAgg, zB, idsL, ids, idsLL, reach, depth, St.dropL, qD, resultV, ↓reduceIte, Nat.reduceBEq, Nat.reduceAdd, Nat.reduceSub, Nat.reduceMul, Nat.reduceEqDiff, Nat.reduceLeDiff, Nat.reduceLT, qJ, qK, zV, zW, qL, qM, qN, qO, Eff.ap, qP, qQ, xW, qR, zI, onto, dropO, xA, sized, zP, eqT, eqG, minV, evUn, qS, zQ, zR, zS, qC, qT, upO, evSlice0, optInt, xC, qV, xD, del, xB, plain, plainL, zY, zZ, zT, qW, zU, zX, xY, qX, qY, qZ, xE, zJ, zK, zL, xF, xG, wit, xH, Option.isSome_some, xI, qH, xJ, evPre, St.with, xK, xL, zD, xM, xN, xO, Array.size, te, einl, inls, efr]
    generalize hr : loopAt _ _ _ _ _ _ = r; revert r
    refine loop_list l (fun pre _ => [(12, .int .i64 (roomM pre a b)), (60, .int .i64 pre.length)]) (fun _ _ => []) (fun _ (_ : Unit) => True) () (by omega) (by simp (maxSteps := 1000000) (implicitDefEqProofs := false) only [roomM, List.map_nil, List.sum_nil, ss, List.replicate, zH, qG, zF, zG, St.eval, St.put, St.get, constV, List.set, lenV, qE, qF, qB, zC, norm, xQ, look, xP, xX, zO, zM, zE, zN, qA, qI, St.alloc, St.drop, killL, kill, xU, xV, zA, upd, cells?, part, retag, xT, putIn, refFree, xR, isNew, xS, Ty.isAgg, zB, idsL, ids, idsLL, reach, depth, St.dropL, qD, resultV, ↓reduceIte, Nat.reduceBEq, Nat.reduceAdd, Nat.reduceSub, Nat.reduceMul, Nat.reduceEqDiff, Nat.reduceLeDiff, Nat.reduceLT, qJ, qK, zV, zW, qL, qM, qN, qO, Eff.ap, qP, qQ, xW, qR, zI, onto, dropO, xA, sized, zP, eqT, eqG, minV, evUn, qS, zQ, zR, zS, qC, qT, upO, evSlice0, optInt, xC, qV, xD, del, xB, plain, plainL, zY, zZ, zT, qW, zU, zX, xY, qX, qY, qZ, xE, zJ, zK, zL, xF, xG, wit, xH, Option.isSome_some, xI, qH, xJ, evPre, St.with, xK, xL, zD, xM, xN, xO, Array.size, te, einl, inls, efr]) trivial (fun _ _ => ?_) (fun pre f post _ hp _ q1 q2 q3 q4 => ?_)
    · have e2 : provM l gs a b = decide (roomM l a b < sumW l a b gs) := by unfold provM; rw [hi, Bool.false_or]
      simp (maxSteps := 1000000) (implicitDefEqProofs := false) only [Int.lt_irrefl, e2, Try.ntmps75, Try.results75, efc75, fc75, List.length_map, ss, List.replicate, zH, qG, zF, zG, St.eval, St.put, St.get, constV, List.set, lenV, qE, qF, qB, zC, norm, xQ, look, xP, xX, zO, zM, zE, zN, qA, qI, St.alloc, St.drop, killL, kill, xU, xV, zA, upd, cells?, part, retag, xT, putIn, refFree, xR, isNew, xS, Ty.isAgg, zB, idsL, ids, idsLL, reach, depth, St.dropL, qD, resultV, ↓reduceIte, Nat.reduceBEq, Nat.reduceAdd, Nat.reduceSub, Nat.reduceMul, Nat.reduceEqDiff, Nat.reduceLeDiff, Nat.reduceLT, qJ, qK, zV, zW, qL, qM, qN, qO, Eff.ap, qP, qQ, xW, qR, zI, onto, dropO, xA, sized, zP, eqT, eqG, minV, evUn, qS, zQ, zR, zS, qC, qT, upO, evSlice0, optInt, xC, qV, xD, del, xB, plain, plainL, zY, zZ, zT, qW, zU, zX, xY, qX, qY, qZ, xE, zJ, zK, zL, xF, xG, wit, xH, Option.isSome_some, xI, qH, xJ, evPre, St.with, xK, xL, zD, xM, xN, xO, Array.size, te, einl, inls, efr]
    · have hf := (loftOk_iff.1 (hl f (List.mem_of_getElem? q3))).1
      have h3 := mul_in (a := f.poles) (A := 40) (b := b - a) (B := 60) (by omega) (by omega)
      have h4 := roomM_in (a := a) (b := b) (by omega) (l := pre) fun g hg => hl g (by rw [hp]; simp [hg])
      have h5 : pre.length ≤ 1000 := by omega
      have w1 : IntKind.i64.wrap (b - a) = b - a := wrap_in (by omega)
      have w2 : IntKind.i64.wrap (f.poles * (b - a)) = f.poles * (b - a) := wrap_in (by omega)
      have w3 : IntKind.i64.wrap (roomM pre a b + f.poles * (b - a)) = roomM (pre ++ [f]) a b := by rw [wrap_in (by omega), roomM_snoc]
      simp (maxSteps := 1000000) (implicitDefEqProofs := false) only [q1, q2, q3, q4, w1, w2, w3, encL, Int.natCast_nonneg, Int.toNat_natCast, List.getElem?_map, List.length_map, ss, List.replicate, zH, qG, zF, zG, St.eval, St.put, St.get, constV, List.set, lenV, qE, qF, qB, zC, norm, xQ, look, xP, xX, zO, zM, zE, zN, qA, qI, St.alloc, St.drop, killL, kill, xU, xV, zA, upd, cells?, part, retag, xT, putIn, refFree, xR, isNew, xS, Ty.isAgg, zB, idsL, ids, idsLL, reach, depth, St.dropL, qD, resultV, ↓reduceIte, Nat.reduceBEq, Nat.reduceAdd, Nat.reduceSub, Nat.reduceMul, Nat.reduceEqDiff, Nat.reduceLeDiff, Nat.reduceLT, qJ, qK, zV, zW, qL, qM, qN, qO, Eff.ap, qP, qQ, xW, qR, zI, onto, dropO, xA, sized, zP, eqT, eqG, minV, evUn, qS, zQ, zR, zS, qC, qT, upO, evSlice0, optInt, xC, qV, xD, del, xB, plain, plainL, zY, zZ, zT, qW, zU, zX, xY, qX, qY, qZ, xE, zJ, zK, zL, xF, xG, wit, xH, Option.isSome_some, xI, qH, xJ, evPre, St.with, xK, xL, zD, xM, xN, xO, Array.size, te, einl, inls, efr]
      exact ⟨(), trivial⟩
  · have hx := hg x (List.mem_of_getElem? g3)
    have p1 := needP_in hl hx
    have p2 := sumW_in hl a b (gs := pre) fun g hg' => hg g (by rw [hp]; simp [hg'])
    have p3 : pre.length ≤ 1000 := by omega
    have e1 := sumW_snoc l a b pre x
    have e2 : ((pre ++ [x]).any fun g => inW a b g && never l g) = (inW a b x && never l x) := by rw [List.any_append, hi]; simp
    have e3 : inW a b x = true → never l x = true → provM l gs a b = true := fun u v => by
      unfold provM
      rw [Bool.or_eq_true, List.any_eq_true]
      exact .inl ⟨x, List.mem_of_getElem? g3, by rw [u, v]; rfl⟩
    have w1 : IntKind.i64.wrap (sumW l a b pre + needP l x) = sumW l a b pre + needP l x := wrap_in (by omega)
    unfold inW at e1 e2 e3
    by_cases c1 : x.ready < a
    · simp only [c1, decide_true, Bool.true_or, Bool.not_true, Bool.false_and, Bool.false_eq_true, if_false, Int.add_zero] at e1 e2
      simp (maxSteps := 1000000) (implicitDefEqProofs := false) only [g1, g2, g3, g4, c1, e1, encG, Int.natCast_nonneg, Int.toNat_natCast, List.getElem?_map, List.length_map, ss, List.replicate, zH, qG, zF, zG, St.eval, St.put, St.get, constV, List.set, lenV, qE, qF, qB, zC, norm, xQ, look, xP, xX, zO, zM, zE, zN, qA, qI, St.alloc, St.drop, killL, kill, xU, xV, zA, upd, cells?, part, retag, xT, putIn, refFree, xR, isNew, xS, Ty.isAgg, zB, idsL, ids, idsLL, reach, depth, St.dropL, qD, resultV, ↓reduceIte, Nat.reduceBEq, Nat.reduceAdd, Nat.reduceSub, Nat.reduceMul, Nat.reduceEqDiff, Nat.reduceLeDiff, Nat.reduceLT, qJ, qK, zV, zW, qL, qM, qN, qO, Eff.ap, qP, qQ, xW, qR, zI, onto, dropO, xA, sized, zP, eqT, eqG, minV, evUn, qS, zQ, zR, zS, qC, qT, upO, evSlice0, optInt, xC, qV, xD, del, xB, plain, plainL, zY, zZ, zT, qW, zU, zX, xY, qX, qY, qZ, xE, zJ, zK, zL, xF, xG, wit, xH, Option.isSome_some, xI, qH, xJ, evPre, St.with, xK, xL, zD, xM, xN, xO, Array.size, te, einl, inls, efr]
      exact ⟨(), e2⟩
    by_cases c2 : b < x.due
    · simp only [c1, c2, decide_true, decide_false, Bool.false_or, Bool.not_true, Bool.false_and, Bool.false_eq_true, if_false, Int.add_zero] at e1 e2
      simp (maxSteps := 1000000) (implicitDefEqProofs := false) only [g1, g2, g3, g4, c1, c2, e1, encG, Int.natCast_nonneg, Int.toNat_natCast, List.getElem?_map, List.length_map, ss, List.replicate, zH, qG, zF, zG, St.eval, St.put, St.get, constV, List.set, lenV, qE, qF, qB, zC, norm, xQ, look, xP, xX, zO, zM, zE, zN, qA, qI, St.alloc, St.drop, killL, kill, xU, xV, zA, upd, cells?, part, retag, xT, putIn, refFree, xR, isNew, xS, Ty.isAgg, zB, idsL, ids, idsLL, reach, depth, St.dropL, qD, resultV, ↓reduceIte, Nat.reduceBEq, Nat.reduceAdd, Nat.reduceSub, Nat.reduceMul, Nat.reduceEqDiff, Nat.reduceLeDiff, Nat.reduceLT, qJ, qK, zV, zW, qL, qM, qN, qO, Eff.ap, qP, qQ, xW, qR, zI, onto, dropO, xA, sized, zP, eqT, eqG, minV, evUn, qS, zQ, zR, zS, qC, qT, upO, evSlice0, optInt, xC, qV, xD, del, xB, plain, plainL, zY, zZ, zT, qW, zU, zX, xY, qX, qY, qZ, xE, zJ, zK, zL, xF, xG, wit, xH, Option.isSome_some, xI, qH, xJ, evPre, St.with, xK, xL, zD, xM, xN, xO, Array.size, te, einl, inls, efr]
      exact ⟨(), e2⟩
    simp only [c1, c2, decide_false, Bool.false_or, Bool.not_false, Bool.true_and, if_true, forall_const] at e1 e2 e3
    cases hv : never l x with
    | true =>
      have e4 := e3 hv
      simp (maxSteps := 1000000) (implicitDefEqProofs := false) only [g1, g2, g3, g4, c1, c2, hv, e4, encG, encN, Try.ntmps75, Try.results75, efc75, fc75, Int.natCast_nonneg, Int.toNat_natCast, List.getElem?_map, List.length_map, ss, List.replicate, zH, qG, zF, zG, St.eval, St.put, St.get, constV, List.set, lenV, qE, qF, qB, zC, norm, xQ, look, xP, xX, zO, zM, zE, zN, qA, qI, St.alloc, St.drop, killL, kill, xU, xV, zA, upd, cells?, part, retag, xT, putIn, refFree, xR, isNew, xS, Ty.isAgg, zB, idsL, ids, idsLL, reach, depth, St.dropL, qD, resultV, ↓reduceIte, Nat.reduceBEq, Nat.reduceAdd, Nat.reduceSub, Nat.reduceMul, Nat.reduceEqDiff, Nat.reduceLeDiff, Nat.reduceLT, qJ, qK, zV, zW, qL, qM, qN, qO, Eff.ap, qP, qQ, xW, qR, zI, onto, dropO, xA, sized, zP, eqT, eqG, minV, evUn, qS, zQ, zR, zS, qC, qT, upO, evSlice0, optInt, xC, qV, xD, del, xB, plain, plainL, zY, zZ, zT, qW, zU, zX, xY, qX, qY, qZ, xE, zJ, zK, zL, xF, xG, wit, xH, Option.isSome_some, xI, qH, xJ, evPre, St.with, xK, xL, zD, xM, xN, xO, Array.size, te, einl, inls, efr]
    | false =>
      rw [hv] at e2
      simp (maxSteps := 1000000) (implicitDefEqProofs := false) only [g1, g2, g3, g4, c1, c2, hv, w1, e1, encG, encN, Int.natCast_nonneg, Int.toNat_natCast, List.getElem?_map, List.length_map, ss, List.replicate, zH, qG, zF, zG, St.eval, St.put, St.get, constV, List.set, lenV, qE, qF, qB, zC, norm, xQ, look, xP, xX, zO, zM, zE, zN, qA, qI, St.alloc, St.drop, killL, kill, xU, xV, zA, upd, cells?, part, retag, xT, putIn, refFree, xR, isNew, xS, Ty.isAgg, zB, idsL, ids, idsLL, reach, depth, St.dropL, qD, resultV, ↓reduceIte, Nat.reduceBEq, Nat.reduceAdd, Nat.reduceSub, Nat.reduceMul, Nat.reduceEqDiff, Nat.reduceLeDiff, Nat.reduceLT, qJ, qK, zV, zW, qL, qM, qN, qO, Eff.ap, qP, qQ, xW, qR, zI, onto, dropO, xA, sized, zP, eqT, eqG, minV, evUn, qS, zQ, zR, zS, qC, qT, upO, evSlice0, optInt, xC, qV, xD, del, xB, plain, plainL, zY, zZ, zT, qW, zU, zX, xY, qX, qY, qZ, xE, zJ, zK, zL, xF, xG, wit, xH, Option.isSome_some, xI, qH, xJ, evPre, St.with, xK, xL, zD, xM, xN, xO, Array.size, te, einl, inls, efr]
      exact ⟨(), e2⟩

end
end Go.AM.B

