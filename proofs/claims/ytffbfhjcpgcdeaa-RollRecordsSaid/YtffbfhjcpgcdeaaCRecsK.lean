/-
The rolls of a cutting, each with runs of its own, on their caller's objects.
-/
import Derived.Test.YtffbfhjcpgcdeaaCRecsB
import Derived.Test.YtffbfhjcpgcdeaaAmQ
set_option linter.unusedVariables false
set_option linter.unusedSimpArgs false
set_option maxRecDepth 20000

namespace Go.AM.C
open Go Go.AM Go.Proofs

section
variable {E : Env} {X : Ext} {fc : FC} {base : Nat} {b : Code}
theorem loop_st {ι : Type} {K : Option (Ex × St) → Prop} {s0 : St} (S : ι → St) (m : ι → Nat) (i0 : ι) (h0 : s0 = S i0)
    (h : ∀ i, after fc b (den E X fc base b (S i)) (fun s => ∃ i', s = S i' ∧ m i' < m i) (fun q => K (some q))) : ∀ r, loopAt E X fc base b s0 = r → K r := by
  rintro r rfl
  have key : ∀ (n : Nat) (i : ι), m i < n → K (loopAt E X fc base b (S i)) := by
    intro n
    induction n with
    | zero => intro i hm; omega
    | succ n ih =>
      intro i hm
      have ha := h i
      unfold loopAt
      cases hd : den E X fc base b (S i) with
      | none => rw [hd] at ha; exact ha.elim
      | some p =>
        obtain ⟨e, s⟩ := p
        rw [hd] at ha
        cases e with
        | normal =>
          obtain ⟨i', h1, h3⟩ := ha
          rw [andThen_normal, den_loopAt, h1]
          exact ih i' (by omega)
        | exit i => exact ha
        | ret => exact ha
  have := key (m i0 + 1) i0 (Nat.lt_succ_self _)
  rwa [← h0] at this
theorem loop_o {ι : Type} {K : Option (Ex × St) → Prop} {s0 : St} (vs : ι → List (Nat × V)) (O : ι → List (Nat × Ob)) (m : ι → Nat) (i0 : ι) (h0 : s0 = { s0.with (vs i0) [] with objs := O i0 })
    (h : ∀ i, after fc b (den E X fc base b { s0.with (vs i) [] with objs := O i }) (fun s => ∃ i', s = { s0.with (vs i') [] with objs := O i' } ∧ m i' < m i) (fun q => K (some q))) : ∀ r, loopAt E X fc base b s0 = r → K r :=
  loop_st (fun i => { s0.with (vs i) [] with objs := O i }) m i0 h0 h
end

def recK (ms : List Mk) (l : List Art) (ph rp : Int) (k : Nat) (p : Int × Int) : V := .agg [.int .i64 p.2, .int .i64 ((ph + p.1).tmod rp), .own (10000 + k) 0 (pieceL ms l p).length]
def recsK (ms : List Mk) (l : List Art) (ph rp : Int) : Nat → List (Int × Int) → List V
  | _, [] => []
  | k, p :: ps => recK ms l ph rp k p :: recsK ms l ph rp (k + 1) ps
def pOb (ms : List Mk) (l : List Art) (p : Int × Int) : Ob := { es := 4, flat := true, t := true, app := false, elems := (pieceL ms l p).map encRun }
theorem recsK_len (ms : List Mk) (l : List Art) (ph rp : Int) : ∀ (ps : List (Int × Int)) (k : Nat), (recsK ms l ph rp k ps).length = ps.length
  | [], _ => rfl
  | p :: ps, k => by rw [recsK, List.length_cons, recsK_len ms l ph rp ps, List.length_cons]
theorem recsK_snoc (ms : List Mk) (l : List Art) (ph rp : Int) (p : Int × Int) : ∀ (ps : List (Int × Int)) (k : Nat), recsK ms l ph rp k (ps ++ [p]) = recsK ms l ph rp k ps ++ [recK ms l ph rp (k + ps.length) p]
  | [], k => rfl
  | q :: ps, k => by
    rw [List.cons_append, recsK, recsK_snoc ms l ph rp p ps, recsK, List.cons_append, List.length_cons, show k + 1 + ps.length = k + (ps.length + 1) by omega]
theorem recsK_get (ms : List Mk) (l : List Art) (ph rp : Int) : ∀ (ps : List (Int × Int)) (k i : Nat) (p : Int × Int), ps[i]? = some p → (recsK ms l ph rp k ps)[i]? = some (recK ms l ph rp (k + i) p)
  | [], _, _, _, h => by simp at h
  | q :: ps, k, 0, p, h => by
    simp only [List.getElem?_cons_zero, Option.some.injEq] at h
    subst h
    rfl
  | q :: ps, k, i + 1, p, h => by
    rw [recsK, List.getElem?_cons_succ, recsK_get ms l ph rp ps (k + 1) i p (by simpa using h), show k + 1 + i = k + (i + 1) by omega]
theorem kill_recs (ms : List Mk) (l : List Art) (ph rp : Int) (id : Nat) : ∀ (ps : List (Int × Int)) (k : Nat), (id < 10000 + k ∨ 10000 + k + ps.length ≤ id) → killL id (recsK ms l ph rp k ps) = recsK ms l ph rp k ps
  | [], _, _ => rfl
  | p :: ps, k, h => by
    rw [List.length_cons] at h
    rw [recsK, killL, kill_recs ms l ph rp id ps (k + 1) (by omega)]
    have hne : ¬ (10000 + k = id) := by omega
    simp only [recK, kill, killL, hne, if_false]
theorem sized_recsK (ms : List Mk) (l : List Art) (ph rp : Int) : ∀ (ps : List (Int × Int)) (k : Nat), sized 3 (recsK ms l ph rp k ps) = true
  | [], _ => rfl
  | p :: ps, k => by
    rw [recsK, sized, sized_recsK ms l ph rp ps]
    rfl

structure Made (bx : Ob) (ms : List Mk) (l : List Art) (ph rp : Int) (pre : List (Int × Int)) (O : List (Nat × Ob)) : Prop where
  five : look O 5 = some bx
  recs : look O 1014 = some { es := 3, flat := pre.isEmpty, t := true, app := true, elems := recsK ms l ph rp 0 pre }
  each : ∀ (j : Nat) p, pre[j]? = some p → look O (10000 + j) = some (pOb ms l p)
def grow (ms : List Mk) (l : List Art) (ph rp : Int) (pre : List (Int × Int)) (p : Int × Int) (O : List (Nat × Ob)) : List (Nat × Ob) :=
  upd (xV 1014 (upd (xV 1079 (upd (xV (10000 + pre.length) (upd (upd (xV 1016 O) 1016 { es := 2, flat := true, t := true, app := false, elems := [.agg [.int .i64 0, .int .i64 0]] }) 1016 { es := 2, flat := true, t := true, app := false, elems := [.agg [.int .i64 p.1, .int .i64 p.2]] })) (10000 + pre.length)
    { es := 4, flat := true, t := true, app := false, elems := (pieceL ms l p).map encRun })) 1079 { es := 3, flat := false, t := true, app := true, elems := [.agg [.int .i64 p.2, .int .i64 ((ph + p.1).tmod rp), .own (10000 + pre.length) 0 (pieceL ms l p).length]] })) 1014 { es := 3, flat := false, t := true, app := true, elems := recsK ms l ph rp 0 (pre ++ [p]) }
theorem look_grow {ms : List Mk} {l : List Art} {ph rp : Int} {pre : List (Int × Int)} {p : Int × Int} {O : List (Nat × Ob)} {j : Nat} {ob : Ob} (h : look O j = some ob) (hf : ob.flat = true) (h1 : j ≠ 1016) (h2 : j ≠ 10000 + pre.length) (h3 : j ≠ 1079) (h4 : j ≠ 1014) : look (grow ms l ph rp pre p O) j = some ob := by
  unfold grow
  simp only [look_upd, look_killObs, h1, h2, h3, h4, if_false, h, Option.map_some, zA, hf, if_true]
theorem made_grow {bx : Ob} {ms : List Mk} {l : List Art} {ph rp : Int} {pre : List (Int × Int)} {p : Int × Int} {O : List (Nat × Ob)} (hbx : bx.flat = true) (hm : Made bx ms l ph rp pre O) : Made bx ms l ph rp (pre ++ [p]) (grow ms l ph rp pre p O) := by
  refine ⟨look_grow hm.five hbx (by decide) (by omega) (by decide) (by decide), ?_, fun j q hj => ?_⟩
  · unfold grow
    rw [look_upd, if_pos rfl]
    simp
  · by_cases e : j = pre.length
    · subst e
      rw [List.getElem?_append_right (Nat.le_refl _), Nat.sub_self] at hj
      simp only [List.getElem?_cons_zero, Option.some.injEq] at hj
      subst hj
      have a1 : ¬ (10000 + pre.length = 1014) := by omega
      have a2 : ¬ (10000 + pre.length = 1079) := by omega
      unfold grow
      simp only [look_upd, look_killObs, a1, a2, if_false, if_true, Option.map_some, zA]
      rfl
    · have hlt := (List.getElem?_eq_some_iff.1 hj).1
      rw [List.length_append, List.length_singleton] at hlt
      rw [List.getElem?_append_left (by omega)] at hj
      exact look_grow (hm.each j q hj) rfl (by omega) (by omega) (by omega) (by omega)

theorem inf41 : (drawn (Try.f41.body.getD .skip)).map infosL = [[([], true), ([], false), ([], false), ([], false), ([], false), ([], false), ([], false), ([], false), ([], false), ([], false), ([], false), ([], false), ([], false), ([], false), ([], true), ([], true), ([], false), ([], false), ([], false), ([], true)], [([], true), ([], false), ([], false), ([], false), ([], false), ([], false), ([], false), ([], false), ([], false), ([], false), ([], true), ([], true), ([], true), ([], true)]] := by decide +kernel
theorem okD41 : (drawn (Try.f41.body.getD .skip)).all okBadL = true := by decide +kernel

def tabOb (xs : List Run) (l : List Art) : Ob := { es := 3, flat := true, t := false, app := false, elems := [.agg [.sl false (xs.map encRun), .int .i64 ((expand xs).length : Nat), .sl false (offs (expand xs) 0 l)]] }

set_option maxRecDepth 20000 in
set_option maxHeartbeats 16000000 in
theorem c41k (bx : Ob) (hbx : bx.flat = true) (sl : List V) (hsl : ∀ id, 1000 ≤ id → killL id sl = sl) (xs : List Run) (l : List Art) (ps : List (Int × Int)) (ph rp : Int) (t : Bool) (hx : xs.length ≤ 100000) (hl : l.length ≤ 100000) (hn : ps.length ≤ 100000) (hacc : accE xs l ps = 0) (hph : badPh ph rp = false) :
    ∃ sl' O, (orcω E X0).inl 1000 41 [.sl t (xs.map encRun), .sl false (l.map encArt), .sl false (ps.map encPc), .int .i64 ph, .int .i64 rp] { slots := [], outer := [sl], objs := [(5, bx)] } = some (.tup [.own 1014 0 ps.length, .int .i64 0], { slots := sl', outer := [sl], objs := O }) ∧ Made bx (expand xs) l ph rp ps O := by
  refine (fun h : ∃ (sl' : List V) (O : List (Nat × Ob)), _ = some (V.tup [.own 1014 0 ps.length, .int .i64 0], ({ slots := sl', outer := [sl], objs := O } : St)) ∧ Made bx (expand xs) l ph rp ps O => h.elim fun sl' h => h.elim fun O h => ⟨sl', O, inl_of rfl fn41 rfl h.1, h.2⟩) ?_
  have hi := inf41
  have ho := okD41
  simp only [Try.f41, Option.getD_some, drawn, List.map_cons, List.map_nil, List.nil_append, List.append_nil, List.cons_append, List.cons.injEq, and_true] at hi
  simp only [Try.f41, Option.getD_some, drawn, List.nil_append, List.append_nil, List.cons_append, List.all_cons, List.all_nil, Bool.and_true, Bool.and_eq_true] at ho
  obtain ⟨hi1, hi2⟩ := hi
  obtain ⟨ho1, ho2⟩ := ho
  have q12 := hsl 1012 (by decide)
  have q14 := hsl 1014 (by decide)
  have q16 := hsl 1016 (by decide)
  have q79 := hsl 1079 (by decide)
  have q80 := fun n : Nat => hsl (10000 + n) (by omega)
  have k1 := c58 xs l ps hx hl hn
  unfold accV at k1
  unfold accE at hacc
  have he : errM xs l = 0 := by
    by_cases he : errM xs l = 0
    · exact he
    · rw [if_neg he] at hacc; exact absurd hacc he
  rw [if_pos he] at k1 hacc
  rw [hacc] at k1
  have hc := hacc
  unfold badPh at hph
  simp only [Bool.or_eq_false_iff, decide_eq_false_iff_not] at hph
  have b1 : (rp < 1) = False := eq_false (by omega)
  have b2 : (144 < rp) = False := eq_false (by omega)
  have b3 : (ph < 0) = False := eq_false (by omega)
  have b4 : (rp ≤ ph) = False := eq_false (by omega)
  have hfit := check_fits hc
  have g5 := offs_len (expand xs) l 0
  have hN := err_len he
  simp (maxSteps := 1000000) (implicitDefEqProofs := false) only [Try.ntmps41, Try.results41, efc41, fc41, k1, bne_self_eq_false, b1, b2, b3, b4, decide_false, hbx, q12, q14, ss, sd, zH, qG, zF, zG, St.get, qE, qF, qB, zC, norm, look, zE, qA, qI, St.alloc, St.drop, zA, part, zB, depth, qD, ↓reduceIte, Nat.reduceBEq, Nat.reduceAdd, Nat.reduceSub, Nat.reduceMul, Nat.reduceEqDiff, Nat.reduceLeDiff, Nat.reduceLT, qJ, qK, qL, qM, qN, qO, qP, qQ, qR, zI, qS, qC, qT, evSlice0, qV, qW, qX, qY, qZ, zJ, zK, zL, wit, Option.isSome_some, qH, xJ, evPre, St.with, zD, Array.size, evLitX, evAppX, evCold, nameT, te, einl, inls, efr]
  generalize hr : loopAt _ _ _ _ _ _ = r; revert r
  refine loop_o (ι := { i : List (Int × Int) × List (Int × Int) × List (Nat × Ob) // ps = i.1 ++ i.2.1 ∧ Made bx (expand xs) l ph rp i.1 i.2.2 ∧ look i.2.2 1012 = some (tabOb xs l) }) (fun i => [(14, .own 1014 0 i.1.1.length), (46, .int .i64 i.1.1.length)]) (fun i => i.1.2.2) (fun i => i.1.2.1.length)
    ⟨([], ps, [(5, bx), (1012, tabOb xs l), (1014, { es := 3, flat := true, t := true, app := true, elems := [] })]), rfl, ⟨rfl, rfl, fun j p h => by simp at h⟩, rfl⟩ (by simp (maxSteps := 1000000) (implicitDefEqProofs := false) only [tabOb, List.length_nil, Int.natCast_zero, ss, sd, zH, qG, zF, zG, St.get, qE, qF, qB, zC, norm, look, zE, qA, qI, St.alloc, St.drop, zA, part, zB, depth, qD, ↓reduceIte, Nat.reduceBEq, Nat.reduceAdd, Nat.reduceSub, Nat.reduceMul, Nat.reduceEqDiff, Nat.reduceLeDiff, Nat.reduceLT, qJ, qK, qL, qM, qN, qO, qP, qQ, qR, zI, qS, qC, qT, evSlice0, qV, qW, qX, qY, qZ, zJ, zK, zL, wit, Option.isSome_some, qH, xJ, evPre, St.with, zD, Array.size, evLitX, evAppX, evCold, nameT, te, einl, inls, efr]) ?_
  rintro ⟨⟨pre, post, O⟩, hp, hm, ht⟩
  dsimp only at hp hm ht ⊢
  cases post with
  | nil =>
    rw [List.append_nil] at hp
    subst hp
    simp (maxSteps := 1000000) (implicitDefEqProofs := false) only [Int.lt_irrefl, List.length_map, Try.ntmps41, Try.results41, efc41, fc41, ss, sd, zH, qG, zF, zG, St.get, qE, qF, qB, zC, norm, look, zE, qA, qI, St.alloc, St.drop, zA, part, zB, depth, qD, ↓reduceIte, Nat.reduceBEq, Nat.reduceAdd, Nat.reduceSub, Nat.reduceMul, Nat.reduceEqDiff, Nat.reduceLeDiff, Nat.reduceLT, qJ, qK, qL, qM, qN, qO, qP, qQ, qR, zI, qS, qC, qT, evSlice0, qV, qW, qX, qY, qZ, zJ, zK, zL, wit, Option.isSome_some, qH, xJ, evPre, St.with, zD, Array.size, evLitX, evAppX, evCold, nameT, te, einl, inls, efr]
    exact ⟨_, _, rfl, hm⟩
  | cons p post =>
    have g2 : pre.length < ps.length := by rw [hp]; simp
    have g1 : (pre.length : Int) < ps.length := by omega
    have g3 : ps[pre.length]? = some p := by rw [hp]; simp
    have g4 : IntKind.i64.wrap ((pre.length : Int) + 1) = ((pre ++ [p]).length : Int) := by rw [wrap_in (by omega)]; simp
    have hf := hfit p (by rw [hp]; simp)
    obtain ⟨q1, q2⟩ := rec_slice he hf
    obtain ⟨a, f1, f2, f3, f4, f5, f6, f7, _⟩ := fits_in hf
    have a2 := (validA_len (errM_zero he).2.2).2 a (List.mem_of_getElem? f1)
    have g6 := offs_get (expand xs) l 0 p.2.toNat
    rw [f1, Option.map_some, Nat.zero_add] at g6
    have k2 := c40 xs p.1 (p.1 + lenAt l p.2) hx
    rw [q2] at k2
    simp only [encRes] at k2
    rw [f6] at k2
    have hroom : roomy (pre.length + 1) 40 = true := by simp [roomy]; omega
    have hbig : pre.length + 1 ≤ 4294967296 := by omega
    have w1 : IntKind.i64.wrap (p.1 + a.len) = p.1 + a.len := wrap_in (by omega)
    have w2 : IntKind.i64.wrap (ph + p.1) = ph + p.1 := wrap_in (by omega)
    have r0 : (rp = 0) = False := eq_false (by omega)
    have z1 : xR ((pieceL (expand xs) l p).map encRun) = true := refFreeL_map (fun _ => rfl) _
    have z2 : plainL ((pieceL (expand xs) l p).map encRun) = true := plainL_map (fun _ => rfl) _
    have z3 : sized 4 ((pieceL (expand xs) l p).map encRun) = true := sized_map (fun r => ⟨[.int .i64 r.len, .int .i64 r.thick, .int .i64 r.shade, .int .i64 r.flaw], rfl, rfl⟩) _
    have z4 := sized_recsK (expand xs) l ph rp pre 0
    have rl := recsK_len (expand xs) l ph rp pre 0
    have kr16 := kill_recs (expand xs) l ph rp 1016 pre 0 (by omega)
    have kr79 := kill_recs (expand xs) l ph rp 1079 pre 0 (by omega)
    have kr14 := kill_recs (expand xs) l ph rp 1014 pre 0 (by omega)
    have krF := kill_recs (expand xs) l ph rp (10000 + pre.length) pre 0 (by omega)
    have snoc := recsK_snoc (expand xs) l ph rp p pre 0
    rw [Nat.zero_add] at snoc
    have kapp : killL 1014 (recsK (expand xs) l ph rp 0 pre ++ [.agg [.int .i64 p.2, .int .i64 ((ph + p.1).tmod rp), .own (10000 + pre.length) 0 (pieceL (expand xs) l p).length]]) = recsK (expand xs) l ph rp 0 (pre ++ [p]) := by
      rw [show (V.agg [.int .i64 p.2, .int .i64 ((ph + p.1).tmod rp), .own (10000 + pre.length) 0 (pieceL (expand xs) l p).length]) = recK (expand xs) l ph rp pre.length p from rfl, ← snoc]
      exact kill_recs _ _ _ _ 1014 _ 0 (by omega)
    have n5 : (10000 + pre.length = 5) = False := eq_false (by omega)
    have n12 : (10000 + pre.length = 1012) = False := eq_false (by omega)
    have n14 : (10000 + pre.length = 1014) = False := eq_false (by omega)
    have n16 : (10000 + pre.length = 1016) = False := eq_false (by omega)
    have n79 : (10000 + pre.length = 1079) = False := eq_false (by omega)
    have m5 : (5 = 10000 + pre.length) = False := eq_false (by omega)
    have m12 : (1012 = 10000 + pre.length) = False := eq_false (by omega)
    have m14 : (1014 = 10000 + pre.length) = False := eq_false (by omega)
    have m16 : (1016 = 10000 + pre.length) = False := eq_false (by omega)
    have m79 : (1079 = 10000 + pre.length) = False := eq_false (by omega)
    have h5 := hm.five
    have h14 := hm.recs
    have ht0 := ht
    unfold tabOb at ht
    generalize hR : pieceL (expand xs) l p = R at *
    simp (maxSteps := 1000000) (implicitDefEqProofs := false) only [g1, g2, g3, g4, g5, g6, f2, f3, w1, w2, r0, k2, hroom, hbig, encPc, encOffer, ne_eq, not_false_eq_true, h5, h14, ht, look_upd, look_killObs, q16, q79, q14, q80, z1, z2, z3, z4, rl, kr16, kr79, kr14, krF, kapp, n5, n12, n14, n16, n79, m5, m12, m14, m16, m79, ite_self, evLitK, evAppK, Int.natCast_nonneg, Int.toNat_natCast, List.getElem?_map, List.length_map, thawCall, reduceCtorEq, if_false, if_true, and_false, Option.isSome_some, Bool.or_true, Bool.false_or, regLT ho1 hi1, firstL_cons, firstV_some, List.tail_cons, evBT_nil, evBT_cons, effT_true, effT_false, effT2_some, effT2_none, calmT, free, Eff.writes, supp, isBarL, isBar, Option.toList_some, Option.toList_none, regLT ho2 hi2, firstL_cons, firstV_some, List.tail_cons, evBT_nil, evBT_cons, effT_true, effT_false, effT2_some, effT2_none, calmT, free, Eff.writes, supp, isBarL, isBar, Option.toList_some, Option.toList_none, ss, sd, zH, qG, zF, zG, St.get, qE, qF, qB, zC, norm, look, zE, qA, qI, St.alloc, St.drop, zA, part, zB, depth, qD, ↓reduceIte, Nat.reduceBEq, Nat.reduceAdd, Nat.reduceSub, Nat.reduceMul, Nat.reduceEqDiff, Nat.reduceLeDiff, Nat.reduceLT, qJ, qK, qL, qM, qN, qO, qP, qQ, qR, zI, qS, qC, qT, evSlice0, qV, qW, qX, qY, qZ, zJ, zK, zL, wit, Option.isSome_some, qH, xJ, evPre, St.with, zD, Array.size, evLitX, evAppX, evCold, nameT, te, einl, inls, efr]
    subst hR
    have e7 : pre.length + 1 = (pre ++ [p]).length := by simp
    rw [e7]
    exact ⟨⟨(pre ++ [p], post, grow (expand xs) l ph rp pre p O), by rw [hp]; simp, made_grow hbx hm, look_grow ht0 rfl (by decide) (by omega) (by decide) (by decide)⟩, rfl, Nat.lt_succ_self _⟩

set_option maxRecDepth 20000 in
set_option maxHeartbeats 16000000 in
theorem c41bad (bx : Ob) (hbx : bx.flat = true) (sl : List V) (hsl : ∀ id, 1000 ≤ id → killL id sl = sl) (xs : List Run) (l : List Art) (ps : List (Int × Int)) (ph rp : Int) (t : Bool) (hx : xs.length ≤ 100000) (hl : l.length ≤ 100000) (hn : ps.length ≤ 100000) (h : ¬ (accE xs l ps = 0 ∧ badPh ph rp = false)) :
    ∃ sl' rest, (orcω E X0).inl 1000 41 [.sl t (xs.map encRun), .sl false (l.map encArt), .sl false (ps.map encPc), .int .i64 ph, .int .i64 rp] { slots := [], outer := [sl], objs := [(5, bx)] } = some (.tup [.emp, .int .i64 (if accE xs l ps = 0 then 1 else accE xs l ps)], { slots := sl', outer := [sl], objs := (5, bx) :: rest }) := by
  refine (fun h : ∃ (sl' : List V) (rest : List (Nat × Ob)), _ = some (V.tup [.emp, .int .i64 (if accE xs l ps = 0 then 1 else accE xs l ps)], ({ slots := sl', outer := [sl], objs := (5, bx) :: rest } : St)) => h.elim fun sl' h => h.elim fun O h => ⟨sl', O, inl_of rfl fn41 rfl h⟩) ?_
  have q12 := hsl 1012 (by decide)
  have k1 := c58 xs l ps hx hl hn
  unfold accV at k1
  unfold accE at h ⊢
  by_cases he : errM xs l = 0
  · rw [if_pos he] at k1 h ⊢
    by_cases hc : checkL (expand xs) l 0 ps = 0
    · rw [hc] at k1 h ⊢
      rw [if_pos rfl]
      have hb : badPh ph rp = true := by simpa using h
      unfold badPh at hb
      simp only [Bool.or_eq_true, decide_eq_true_eq] at hb
      by_cases b1 : rp < 1
      · simp (maxSteps := 1000000) (implicitDefEqProofs := false) only [Try.ntmps41, Try.results41, efc41, fc41, k1, hbx, q12, bne_self_eq_false, b1, List.map_nil, ss, sd, zH, qG, zF, zG, St.get, qE, qF, qB, zC, norm, look, zE, qA, qI, St.alloc, St.drop, zA, part, zB, depth, qD, ↓reduceIte, Nat.reduceBEq, Nat.reduceAdd, Nat.reduceSub, Nat.reduceMul, Nat.reduceEqDiff, Nat.reduceLeDiff, Nat.reduceLT, qJ, qK, qL, qM, qN, qO, qP, qQ, qR, zI, qS, qC, qT, evSlice0, qV, qW, qX, qY, qZ, zJ, zK, zL, wit, Option.isSome_some, qH, xJ, evPre, St.with, zD, Array.size, evLitX, evAppX, evCold, nameT, te, einl, inls, efr]
        exact ⟨_, _, rfl⟩
      · by_cases b2 : 144 < rp
        · simp (maxSteps := 1000000) (implicitDefEqProofs := false) only [Try.ntmps41, Try.results41, efc41, fc41, k1, hbx, q12, bne_self_eq_false, b1, b2, List.map_nil, ss, sd, zH, qG, zF, zG, St.get, qE, qF, qB, zC, norm, look, zE, qA, qI, St.alloc, St.drop, zA, part, zB, depth, qD, ↓reduceIte, Nat.reduceBEq, Nat.reduceAdd, Nat.reduceSub, Nat.reduceMul, Nat.reduceEqDiff, Nat.reduceLeDiff, Nat.reduceLT, qJ, qK, qL, qM, qN, qO, qP, qQ, qR, zI, qS, qC, qT, evSlice0, qV, qW, qX, qY, qZ, zJ, zK, zL, wit, Option.isSome_some, qH, xJ, evPre, St.with, zD, Array.size, evLitX, evAppX, evCold, nameT, te, einl, inls, efr]
          exact ⟨_, _, rfl⟩
        · by_cases b3 : ph < 0
          · simp (maxSteps := 1000000) (implicitDefEqProofs := false) only [Try.ntmps41, Try.results41, efc41, fc41, k1, hbx, q12, bne_self_eq_false, b1, b2, b3, List.map_nil, ss, sd, zH, qG, zF, zG, St.get, qE, qF, qB, zC, norm, look, zE, qA, qI, St.alloc, St.drop, zA, part, zB, depth, qD, ↓reduceIte, Nat.reduceBEq, Nat.reduceAdd, Nat.reduceSub, Nat.reduceMul, Nat.reduceEqDiff, Nat.reduceLeDiff, Nat.reduceLT, qJ, qK, qL, qM, qN, qO, qP, qQ, qR, zI, qS, qC, qT, evSlice0, qV, qW, qX, qY, qZ, zJ, zK, zL, wit, Option.isSome_some, qH, xJ, evPre, St.with, zD, Array.size, evLitX, evAppX, evCold, nameT, te, einl, inls, efr]
            exact ⟨_, _, rfl⟩
          · have b4 : rp ≤ ph := by omega
            simp (maxSteps := 1000000) (implicitDefEqProofs := false) only [Try.ntmps41, Try.results41, efc41, fc41, k1, hbx, q12, bne_self_eq_false, b1, b2, b3, b4, List.map_nil, ss, sd, zH, qG, zF, zG, St.get, qE, qF, qB, zC, norm, look, zE, qA, qI, St.alloc, St.drop, zA, part, zB, depth, qD, ↓reduceIte, Nat.reduceBEq, Nat.reduceAdd, Nat.reduceSub, Nat.reduceMul, Nat.reduceEqDiff, Nat.reduceLeDiff, Nat.reduceLT, qJ, qK, qL, qM, qN, qO, qP, qQ, qR, zI, qS, qC, qT, evSlice0, qV, qW, qX, qY, qZ, zJ, zK, zL, wit, Option.isSome_some, qH, xJ, evPre, St.with, zD, Array.size, evLitX, evAppX, evCold, nameT, te, einl, inls, efr]
            exact ⟨_, _, rfl⟩
    · rw [if_neg hc]
      have hc' : (checkL (expand xs) l 0 ps != 0) = true := by simpa using hc
      simp (maxSteps := 1000000) (implicitDefEqProofs := false) only [Try.ntmps41, Try.results41, efc41, fc41, k1, hbx, q12, hc', List.map_nil, ss, sd, zH, qG, zF, zG, St.get, qE, qF, qB, zC, norm, look, zE, qA, qI, St.alloc, St.drop, zA, part, zB, depth, qD, ↓reduceIte, Nat.reduceBEq, Nat.reduceAdd, Nat.reduceSub, Nat.reduceMul, Nat.reduceEqDiff, Nat.reduceLeDiff, Nat.reduceLT, qJ, qK, qL, qM, qN, qO, qP, qQ, qR, zI, qS, qC, qT, evSlice0, qV, qW, qX, qY, qZ, zJ, zK, zL, wit, Option.isSome_some, qH, xJ, evPre, St.with, zD, Array.size, evLitX, evAppX, evCold, nameT, te, einl, inls, efr]
      exact ⟨_, _, rfl⟩
  · rw [if_neg he] at k1 ⊢
    rw [if_neg he]
    have he' : (errM xs l != 0) = true := by simpa using he
    simp (maxSteps := 1000000) (implicitDefEqProofs := false) only [Try.ntmps41, Try.results41, efc41, fc41, k1, hbx, q12, bench0, he', List.map_nil, ss, sd, zH, qG, zF, zG, St.get, qE, qF, qB, zC, norm, look, zE, qA, qI, St.alloc, St.drop, zA, part, zB, depth, qD, ↓reduceIte, Nat.reduceBEq, Nat.reduceAdd, Nat.reduceSub, Nat.reduceMul, Nat.reduceEqDiff, Nat.reduceLeDiff, Nat.reduceLT, qJ, qK, qL, qM, qN, qO, qP, qQ, qR, zI, qS, qC, qT, evSlice0, qV, qW, qX, qY, qZ, zJ, zK, zL, wit, Option.isSome_some, qH, xJ, evPre, St.with, zD, Array.size, evLitX, evAppX, evCold, nameT, te, einl, inls, efr]
    exact ⟨_, _, rfl⟩
end Go.AM.C

