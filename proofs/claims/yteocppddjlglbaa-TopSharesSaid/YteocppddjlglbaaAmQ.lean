/- A part of the proof: the texts AmOpsG, AmFrame, AmRun, AmDrawA, AmDrawB, AmDrawC, AmDraw, AmBar, AmLead, AmMono, AmRange, AmEv, AmFn, one after another. No condition. -/
import Derived.Test.YteocppddjlglbaaAmP
import Derived.Laws.StructEq
import Derived.ChangeKeysEq
import Derived.MapKept
import Derived.LoopNIn
import Derived.RangeFuncOwn
import Derived.OrdersIn
import Derived.RangeFuncLeaves
set_option linter.unusedVariables false
set_option linter.unusedSimpArgs false

section
/-
The operations, seventh part: addresses, parts, numbers; and all of them together.
-/
namespace Go.AM
open Go Go.RowKit

section
variable {P : Program} {E : Env} {C : Cx} {D : List Deferred} {outs : List (List Value)} {st st' : St} {a : Act} {w : World} {σ : Places}

theorem evFieldAddr_ok (hT : TyOk P E) {t f : Nat} {fs : List (Nat × Nat)} (hfs : qB E t = some fs) {x v : V} {cx : Value} (hx : Rep C w σ none x cx) (he : qA E fs f x = some v) :
    ∃ cv, (Instr.fieldAt t cx f).run P w = .ok cv w ∧ Rep C w σ none v cv := by
  obtain ⟨gs, hu, hgs⟩ := fieldsOf_ok hT hfs
  unfold qA at he
  split at he
  case h_2 => cases he
  rename_i off ft hf
  split at he
  case h_2 => cases he
  rename_i fi hfi
  split at he
  case isFalse => cases he
  rename_i hpos
  obtain ⟨d2, i2, z2, _, _, hi2, hsz2, _⟩ := hT _ fi hfi
  obtain ⟨g, hg, hgo⟩ : ∃ g, gs[f]? = some g ∧ (g.offset, g.type) = (off, ft) := by
    rw [← hgs, List.getElem?_map, Array.getElem?_toList] at hf
    exact Option.map_eq_some_iff.1 hf
  cases hgo
  have hsz : ∀ ad : Addr, (fieldPlace ad g).run P w = .ok (ad.add g.offset) w := fun ad => by
    unfold fieldPlace
    simp only [Sem.run_bind, run_sizeOf hi2, Result.andThen_ok]
    rw [if_neg (by omega)]
    rfl
  have hrun : ∀ ad : Addr, (Instr.fieldAt t (.pointer (some ad)) f).run P w = .ok (.pointer (some (ad.add g.offset))) w := fun ad => by
    unfold Instr.fieldAt
    simp [run_underlying hu, hg, Instr.sureAddr, hsz]
  split at he
  · cases he
    simp only [Rep] at hx
    split at hx
    · exact hx.elim
    · exact hx.elim
    · subst hx
      rename_i b bo es cap app hloc
      refine ⟨_, hrun _, ?_⟩
      simp [Rep, hloc, Addr.add_lit, Nat.add_assoc]
    · exact hx.elim
  · cases he
    obtain ⟨hf', b, off0, ds, rfl, hb, hl, h1, hlie⟩ := hx
    exact ⟨_, hrun _, hf', b, off0, ds, by simp [Addr.add_lit, Nat.add_assoc], hb, hl, h1, hlie⟩
  · cases he

theorem part_ok {m : Option Bool} {t : TypeId} {ti : TI} {d : TypeDesc} {i : TypeInfo} (hd : P.underlying t = some d) (ht : tyIs ti.ty d = true) (hi : P.info? t = some i) (hsz : i.size = ti.size)
    {c : Nat} {cs : List V} {ds : List Value} (hl : RepL C w σ m cs ds) (h1 : ∀ u ∈ ds, u.oneCell' = true) {v : V} (hp : part ti.ty.isAgg ti.size cs c = some v) :
    ∃ cv, (Go.part t ds.toArray c).run P w = .ok cv w ∧ Rep C w σ m v cv := by
  unfold Go.part
  simp only [Sem.run_bind, isAgg_run hd ht, Result.andThen_ok]
  unfold AM.part at hp
  split at hp
  · rename_i hagg
    split at hp
    case isFalse => cases hp
    rename_i hle
    cases hp
    refine ⟨.agg ((ds.drop c).take ti.size).toArray, ?_, ⟨_, rfl, (hl.drop c).take ti.size, fun u hu => h1 u (List.mem_of_mem_drop (List.mem_of_mem_take hu))⟩⟩
    simp only [hagg, if_true, Sem.run_bind, run_sizeOf hi, hsz, Result.andThen_ok, Sem.run_pure]
    congr 2
    apply Array.toList_inj.1
    simp
  · rename_i hagg
    obtain ⟨u, hu, hr⟩ := hl.get c hp
    exact ⟨u, by simp [hagg, hu], hr⟩

theorem evField_ok (hT : TyOk P E) {t f : Nat} {fs : List (Nat × Nat)} (hfs : qB E t = some fs) {x v : V} {cx : Value} (hx : Rep C w σ none x cx) (he : qS E fs f x = some v) :
    ∃ cv, (Instr.field t cx f).run P w = .ok cv w ∧ Rep C w σ none v cv := by
  obtain ⟨gs, hu, hgs⟩ := fieldsOf_ok hT hfs
  unfold qS at he
  split at he
  case h_2 => cases he
  rename_i off ft cs hf
  split at he
  case h_2 => cases he
  rename_i fi hfi
  obtain ⟨d2, i2, z2, hd2, ht2, hi2, hsz2, _⟩ := hT _ fi hfi
  obtain ⟨g, hg, hgo⟩ : ∃ g, gs[f]? = some g ∧ (g.offset, g.type) = (off, ft) := by
    rw [← hgs, List.getElem?_map, Array.getElem?_toList] at hf
    exact Option.map_eq_some_iff.1 hf
  cases hgo
  obtain ⟨ds, rfl, hl, h1⟩ := hx
  obtain ⟨cv, hr, hrep⟩ := part_ok (P := P) hd2 ht2 hi2 hsz2 hl h1 he
  refine ⟨cv, ?_, hrep⟩
  unfold Instr.field
  simp [run_underlying hu, hg, asAgg, hr]

theorem evIndexS_ok (hT : TyOk P E) (h : Sim C D outs st a w σ) {t : Nat} {ei : TI} (hs : qE E t = some ei) {x v : V} {cx : Value} (hx : Rep C w σ none x cx) {k : IntKind} {i : Int}
    (he : zP ei x i st = some v) : ∃ cv, (Instr.indexAt t cx (.int k i)).run P w = .ok cv w ∧ Rep C w σ none v cv := by
  obtain ⟨e, hu, hte⟩ := sliceOf_ok hT hs
  obtain ⟨d', i', z, hd, ht, hi', hsz, hby, hz, hzv, hzs, hz1, _⟩ := hT e ei hte
  have hrun : ∀ (ad : Addr) (n cap : Nat), 0 ≤ i → i < n → (Instr.indexAt t (.slice (some ad) n cap) (.int k i)).run P w = .ok (.pointer (some (ad.add (i.toNat * ei.size)))) w := fun ad n cap h0 h1 => by
    unfold Instr.indexAt
    simp [asIntOf, run_underlying hu, h0, h1, run_sizeOf hi', hsz]
  unfold zP at he
  split at he
  · rename_i t' vs
    split at he
    case isFalse => cases he
    rename_i h0
    split at he
    case h_2 => cases he
    rename_i y hy
    split at he
    case h_2 => cases he
    rename_i cs hcs
    split at he
    case isFalse => cases he
    rename_i hlen
    cases he
    obtain ⟨hf, p, cap, rfl, hle, hv⟩ := hx
    have hlt : i.toNat < vs.length := (List.getElem?_eq_some_iff.1 hy).1
    rcases hv with rfl | ⟨b, off, es, ds, rfl, hb, hl, hw, hes, hlie⟩
    · simp at hlt
    · obtain ⟨dv, hdv, hrv⟩ := hl.get i.toNat hy
      obtain ⟨hcl, hcone, hclen, hcof⟩ := cells?_ok hrv hcs
      have hese : es = ei.size := by rw [← hlen, ← hclen]; exact ((hw dv (List.mem_of_getElem? hdv)).1).symm
      subst hese
      exact ⟨_, hrun _ _ _ h0 (by omega), refFreeL_cells hcs (refFree_mem hf hy), b, off + i.toNat * ei.size, dv.cells.toList, by simp [Addr.add_lit], hb, hcl, hcone, hlie.one hdv⟩
  · rename_i id off len
    split at he
    case h_2 => cases he
    rename_i ob hob
    split at he
    case isFalse => cases he
    rename_i hc
    obtain ⟨h0, h1, hobes⟩ := hc
    cases he
    obtain ⟨loc, hloc, hrep, hfl⟩ := h.objs id ob hob
    simp only [Rep, hloc] at hx ⊢
    cases loc with
    | virt app => obtain ⟨_, hl0, _⟩ := hx; omega
    | mp b => exact hx.elim
    | blk b bo es cap app =>
      obtain ⟨p, cp, rfl, hlc, ha⟩ := hx
      have hese : es = ei.size := by rw [← hobes]; exact hrep.1.symm
      rcases ha with ⟨h2, _⟩ | ⟨ha, _⟩
      · omega
      · subst ha
        refine ⟨_, hrun _ _ _ h0 h1, ?_⟩
        simp only [Addr.add_lit, hese, Nat.add_mul, Nat.add_assoc, Nat.add_zero]
  · cases he

theorem evIndexA_ok (hT : TyOk P E) {t n : Nat} {ei : TI} (hs : qF E t = some (n, ei)) {x v : V} {cx : Value} (hx : Rep C w σ none x cx) {k : IntKind} {i : Int}
    (he : zS n ei x i = some v) : ∃ cv, (Instr.indexAt t cx (.int k i)).run P w = .ok cv w ∧ Rep C w σ none v cv := by
  obtain ⟨e, hu, hte⟩ := arrayOf_ok hT hs
  obtain ⟨d', i', z, hd, ht, hi', hsz, hby, hz, hzv, hzs, hz1, _⟩ := hT e ei hte
  unfold zS at he
  split at he
  case isFalse => cases he
  rename_i hc
  have hrun : ∀ (ad : Addr), (Instr.indexAt t (.pointer (some ad)) (.int k i)).run P w = .ok (.pointer (some (ad.add (i.toNat * ei.size)))) w := fun ad => by
    unfold Instr.indexAt
    simp [asIntOf, run_underlying hu, Instr.sureAddr, hc.1, hc.2, run_sizeOf hi', hsz]
  split at he
  · cases he
    simp only [Rep] at hx
    split at hx
    · exact hx.elim
    · exact hx.elim
    · subst hx
      rename_i b bo es cap app hloc
      refine ⟨_, hrun _, ?_⟩
      simp [Rep, hloc, Addr.add_lit, Nat.add_assoc]
    · exact hx.elim
  · cases he
    obtain ⟨hf', b, off0, ds, rfl, hb, hl, h1, hlie⟩ := hx
    exact ⟨_, hrun _, hf', b, off0, ds, by simp [Addr.add_lit, Nat.add_assoc], hb, hl, h1, hlie⟩
  · cases he

theorem evIndexV_ok (hT : TyOk P E) {t n : Nat} {ei : TI} (hs : qF E t = some (n, ei)) {x v : V} {cx : Value} (hx : Rep C w σ none x cx) {k : IntKind} {i : Int}
    (he : zT n ei x i = some v) : ∃ cv, (Instr.index t cx (.int k i)).run P w = .ok cv w ∧ Rep C w σ none v cv := by
  obtain ⟨e, hu, hte⟩ := arrayOf_ok hT hs
  obtain ⟨d', i', z, hd, ht, hi', hsz, hby, hz, hzv, hzs, hz1, _⟩ := hT e ei hte
  unfold zT at he
  split at he
  case h_2 => cases he
  rename_i cs
  split at he
  case isFalse => cases he
  rename_i hc
  obtain ⟨ds, rfl, hl, h1⟩ := hx
  obtain ⟨cv, hr, hrep⟩ := part_ok (P := P) hd ht hi' hsz hl h1 he
  refine ⟨cv, ?_, hrep⟩
  unfold Instr.index
  simp [asIntOf, run_underlying hu, hc.1, hc.2, run_sizeOf hi', hsz, hr]

theorem evIndexT_ok (hT : TyOk P E) {t : TypeId} {ti : TI} (hti : E.ty t = some ti) {x v : V} {cx : Value} (hx : Rep C w σ none x cx) {k : IntKind} {i : Int}
    (he : qC ti x i = some v) : ∃ cv, (Instr.index t cx (.int k i)).run P w = .ok cv w ∧ Rep C w σ none v cv := by
  obtain ⟨d, ii, z, hd, ht, _⟩ := hT t ti hti
  unfold qC at he
  split at he
  case h_2 => cases he
  rename_i s hty
  split at he
  case isFalse => cases he
  rename_i h0
  obtain ⟨b, hb, rfl⟩ := Option.map_eq_some_iff.1 he
  rw [hty] at ht
  cases d <;> simp [tyIs] at ht
  simp only [Rep] at hx
  obtain ⟨rfl, _⟩ := hx
  refine ⟨.int .u8 b.toNat, ?_, rfl⟩
  unfold Instr.index
  simp [asIntOf, run_underlying hd, h0, hb]

theorem evExtract_ok {x v : V} {cx : Value} {i : Nat} (hx : Rep C w σ none x cx) (he : zR x i = some v) : ∃ cv, (Instr.extract cx i).run P w = .ok cv w ∧ Rep C w σ none v cv := by
  unfold zR at he
  split at he
  case h_2 => cases he
  obtain ⟨ds, rfl, hl⟩ := hx
  obtain ⟨d, hd, hr⟩ := hl.get i he
  exact ⟨d, by simp [Instr.extract, hd], hr⟩

theorem evBin_ok {op : BinOp} {t : TypeId} {x y : Operand} {u v r : V} {cu cv : Value} (hu : Rep C w σ none u cu) (hv : Rep C w σ none v cv) (he : xY op u v = some r) :
    ∃ c, (do eqGuard op t x y cu cv; binOp op t cu cv : Sem Value).run P w = .ok c w ∧ Rep C w σ none r c := by
  unfold xY at he
  split at he
  all_goals first
    | cases he
      done
    | (split at he
       case isFalse => cases he
       rename_i hc
       cases he
       simp only [Rep] at hu hv
       subst hu hv
       first
         | (obtain ⟨hk, hb⟩ := hc
            subst hk
            refine ⟨_, ?_, rfl⟩
            simp [eqGuard, binOp, Op.intDiv, hb])
         | (subst hc
            refine ⟨_, ?_, rfl⟩
            simp [eqGuard, binOp, Op.intArith, Op.intBits, Op.intCmp, bitsI])
         | (refine ⟨_, ?_, rfl⟩
            have hb : ¬ (_ : Int) < 0 := Int.not_lt.2 hc
            simp [eqGuard, binOp, Op.shift, hb]))

theorem eqCells_ok {e : TypeId} {k0 : IntKind} (he : P.underlying e = some (.int k0)) (N : Nat) (xs ys : Array Value) : ∀ (cs ds : List V) (off : Nat) (b : Bool),
    RepL C w σ none cs (xs.toList.drop off) → RepL C w σ none ds (ys.toList.drop off) → eqCells cs ds = some b → (Op.eqItems (N + 1) e 1 xs ys (List.range' off cs.length)).run P w = .ok b w
  | [], [], _, b, _, _, hb => by simp only [eqCells] at hb; cases hb; simp [Op.eqItems]
  | [], _ :: _, _, _, _, _, hb => by simp [eqCells] at hb
  | u :: r, [], _, _, _, _, hb => by cases u <;> simp [eqCells] at hb
  | u :: r, v :: s, off, b, hx, hy, hb => by
    cases u <;> try (simp [eqCells] at hb; done)
    cases v <;> try (simp [eqCells] at hb; done)
    rename_i k a k' a'
    simp only [eqCells] at hb
    split at hb
    case isFalse => cases hb
    rename_i hk
    subst hk
    split at hb
    case h_2 => cases hb
    rename_i c hc
    cases hb
    simp only [RepL] at hx hy
    obtain ⟨d, q, hdx, hd, hq⟩ := hx
    obtain ⟨d', q', hdy, hd', hq'⟩ := hy
    simp only [Rep] at hd hd'
    subst hd hd'
    have hp : P.plainKey e = true := by simp [Program.plainKey, he]
    have gx : xs[off]? = some (.int k a) := by
      have := congrArg (·[0]?) hdx
      simpa using this
    have gy : ys[off]? = some (.int k a') := by
      have := congrArg (·[0]?) hdy
      simpa using this
    have tx : xs.toList.drop (off + 1) = q := by rw [← List.drop_drop, hdx]; rfl
    have ty : ys.toList.drop (off + 1) = q' := by rw [← List.drop_drop, hdy]; rfl
    have ih := eqCells_ok he N xs ys r s (off + 1) c (by rw [tx]; exact hq) (by rw [ty]; exact hq') hc
    simp only [List.length_cons, List.range'_succ, Op.eqItems, Sem.run_bind, Nat.mul_one, run_part_plain w hp gx, run_part_plain w hp gy, Result.andThen_ok, run_equalIn_int w N e k k0 a a' he]
    cases h : (a == a')
    · simp
    · simpa using ih

theorem eqT_ok (hT : TyOk P E) : ∀ (n : Nat), (∀ (t : Nat) (x y : V) (cx cy : Value) (b : Bool) (w : World) (σ : Places), Rep C w σ none x cx → Rep C w σ none y cy → eqT E n t x y = some b → ∀ N, n ≤ N → (Op.equalIn N t cx cy).run P w = .ok b w) ∧
    (∀ (gs : List Field) (cs ds : List V) (us vs : List Value) (b : Bool) (w : World) (σ : Places), RepL C w σ none cs us → RepL C w σ none ds vs → (∀ u ∈ us, u.oneCell' = true) → (∀ u ∈ vs, u.oneCell' = true) → gs.all (fun g => g.name != "_") = true →
      eqF E n (gs.map fun g => (g.offset, g.type)) cs ds = some b → ∀ N, n ≤ N → (Op.eqFields N us.toArray vs.toArray gs).run P w = .ok b w) := by
  have fields : ∀ n, (∀ (t : Nat) (x y : V) (cx cy : Value) (b : Bool) (w : World) (σ : Places), Rep C w σ none x cx → Rep C w σ none y cy → eqT E n t x y = some b → ∀ N, n ≤ N → (Op.equalIn N t cx cy).run P w = .ok b w) →
      (∀ (gs : List Field) (cs ds : List V) (us vs : List Value) (b : Bool) (w : World) (σ : Places), RepL C w σ none cs us → RepL C w σ none ds vs → (∀ u ∈ us, u.oneCell' = true) → (∀ u ∈ vs, u.oneCell' = true) → gs.all (fun g => g.name != "_") = true →
      eqF E n (gs.map fun g => (g.offset, g.type)) cs ds = some b → ∀ N, n ≤ N → (Op.eqFields N us.toArray vs.toArray gs).run P w = .ok b w) := by
    intro n hn gs
    induction gs with
    | nil => intro cs ds us vs b w σ _ _ _ _ _ he N _; simp only [List.map_nil, eqF, eqG] at he; cases he; simp [Op.eqFields]
    | cons g gs ih =>
      intro cs ds us vs b w σ h1 h2 h3 h4 hg he N hN
      simp only [List.map_cons, eqF, eqG] at he
      split at he
      case h_2 => cases he
      rename_i fi hfi
      split at he
      case h_2 => cases he
      rename_i x y hx hy
      split at he
      case h_2 => cases he
      rename_i bb c hb hc
      cases he
      obtain ⟨d2, i2, z2, hd2, ht2, hi2, hsz2, _⟩ := hT _ fi hfi
      obtain ⟨ux, hrx, hpx⟩ := part_ok (P := P) (w := w) hd2 ht2 hi2 hsz2 h1 h3 hx
      obtain ⟨uy, hry, hpy⟩ := part_ok (P := P) (w := w) hd2 ht2 hi2 hsz2 h2 h4 hy
      simp only [List.all_cons, Bool.and_eq_true, bne_iff_ne] at hg
      have e1 := hn g.type x y ux uy bb w σ hpx hpy hb N hN
      have e2 := ih cs ds us vs c w σ h1 h2 h3 h4 hg.2 hc N hN
      simp only [Op.eqFields, hg.1, ne_eq, not_false_eq_true, if_true, Sem.run_bind, hrx, hry, Result.andThen_ok, e1]
      cases bb
      · simp
      · simpa using e2
  intro n
  induction n with
  | zero => exact ⟨fun t x y cx cy b w σ _ _ he => by simp [eqT] at he, fields 0 fun t x y cx cy b w σ _ _ he => by simp [eqT] at he⟩
  | succ n ih =>
    have main : ∀ (t : Nat) (x y : V) (cx cy : Value) (b : Bool) (w : World) (σ : Places), Rep C w σ none x cx → Rep C w σ none y cy → eqT E (n + 1) t x y = some b → ∀ N, n + 1 ≤ N → (Op.equalIn N t cx cy).run P w = .ok b w := by
      intro t x y cx cy b w σ hx hy he N hN
      obtain ⟨N, rfl⟩ : ∃ M, N = M + 1 := ⟨N - 1, by omega⟩
      simp only [eqT] at he
      split at he
      case h_2 => cases he
      rename_i ti hti
      obtain ⟨d, i, z, hd, ht, hi, hsz, hby, hz, hzv, hzs, hz1, heq⟩ := hT t ti hti
      split at he
      · rename_i k0 k a' k' b' hty
        split at he
        case isFalse => cases he
        rename_i hk
        cases he
        subst hk
        simp only [Rep] at hx hy
        subst hx hy
        rw [hty] at ht
        cases d <;> simp [tyIs] at ht
        exact run_equalIn_int w N t k _ a' b' hd
      · rename_i a' b' hty
        cases he
        simp only [Rep] at hx hy
        subst hx hy
        rw [hty] at ht
        cases d <;> simp [tyIs] at ht
        exact run_equalIn_bool w N t a' b' hd
      · rename_i fs cs ds hty
        split at he
        case isFalse => cases he
        rename_i hq
        obtain ⟨us, rfl, hl, h1⟩ := hx
        obtain ⟨vs, rfl, hl', h1'⟩ := hy
        rw [hty] at ht
        cases d <;> simp [tyIs] at ht
        rename_i gs
        obtain ⟨hp, _, hall⟩ := heq hq
        have hft : P.fieldsOf t = gs := by simp [Program.fieldsOf, hd]
        rw [run_equalIn_struct w N t _ _ (by rw [hft]; exact hd) hp, hft]
        refine ih.2 gs.toList cs ds us vs b w σ hl hl' h1 h1' hall ?_ N (by omega)
        rw [ht]; exact he
      · cases he
    exact ⟨main, fields (n + 1) main⟩

theorem eqA_ok (hT : TyOk P E) {t : Nat} {x y : V} {cx cy : Value} {b : Bool} (hx : Rep C w σ none x cx) (hy : Rep C w σ none y cy) (he : eqA E t x y = some b) :
    (Op.equalIn 10000 t cx cy).run P w = .ok b w ∧ ∃ xs ys, cx = .agg xs ∧ cy = .agg ys ∧ P.eqGuardType P.depth t = false := by
  unfold eqA at he
  split at he
  case h_2 => cases he
  rename_i ti hti
  obtain ⟨d, i, z, hd, ht, hi, hsz, hby, hz, hzv, hzs, hz1, heq⟩ := hT t ti hti
  split at he
  case h_2 => cases he
  rename_i m et cs ds hty
  split at he
  case isFalse => cases he
  rename_i hq
  obtain ⟨hq1, hq2, hq3, hq4⟩ := hq
  obtain ⟨us, rfl, hl, h1⟩ := hx
  obtain ⟨vs, rfl, hl', h1'⟩ := hy
  rw [hty] at ht
  cases d <;> simp [tyIs] at ht
  obtain ⟨rfl, rfl⟩ := ht
  unfold plainInt at hq2
  split at hq2
  case h_2 => cases hq2
  rename_i ei hei
  rw [Bool.and_eq_true] at hq2
  obtain ⟨q1, q2⟩ := hq2
  split at q1
  case h_2 => cases q1
  rename_i k0 hk0
  obtain ⟨d2, i2, z2, hd2, ht2, hi2, hsz2, _⟩ := hT _ ei hei
  rw [hk0] at ht2
  cases d2 <;> simp [tyIs] at ht2
  refine ⟨?_, _, _, rfl, rfl, (heq hq1).2.1⟩
  rw [run_equalIn_array w 9999 _ _ hd hi2]
  have hc1 : P.cellsOf et = 1 := by
    simp only [Program.cellsOf, hi2, Option.map_some, Option.getD_some, hsz2]
    simpa using q2
  rw [hc1, List.range_eq_range', ← hq3]
  exact eqCells_ok hd2 9998 _ _ cs ds 0 b (by simpa using hl) (by simpa using hl') he

theorem orArr_cases {a b : Option Bool} {r : Bool} (h : orArr a b = some r) : a = some r ∨ b = some r := by
  cases a with
  | some x => exact .inl h
  | none => exact .inr h

theorem evCmp_ok (hT : TyOk P E) {op : BinOp} {t : Nat} {x y : Operand} {u v r : V} {cu cv : Value} (hu : Rep C w σ none u cu) (hv : Rep C w σ none v cv) (he : zQ E op t u v = some r) (hnint : ∀ k n, u ≠ .int k n) :
    ∃ c, (do eqGuard op t x y cu cv; binOp op t cu cv : Sem Value).run P w = .ok c w ∧ Rep C w σ none r c := by
  have keyA : ∀ b, eqA E t u v = some b → (op = .eql ∨ op = .neq) → (eqGuard op t x y cu cv).run P w = .ok () w ∧ (binOp .eql t cu cv).run P w = .ok (.bool b) w ∧ (binOp .neq t cu cv).run P w = .ok (.bool (!b)) w := by
    intro b hb hop
    obtain ⟨h1, xs, ys, rfl, rfl, hg⟩ := eqA_ok (C := C) hT hu hv hb
    exact ⟨run_eqGuard_agg w op t x y _ _ hg, by rw [run_eql_struct, h1]; rfl, by rw [run_neq_struct, h1]; rfl⟩
  have key : ∀ b, eqT E 8 t u v = some b → (op = .eql ∨ op = .neq) → (eqGuard op t x y cu cv).run P w = .ok () w ∧ (binOp .eql t cu cv).run P w = .ok (.bool b) w ∧ (binOp .neq t cu cv).run P w = .ok (.bool (!b)) w := by
    intro b hb hop
    have h1 := (eqT_ok (C := C) hT 8).1 t u v cu cv b w σ hu hv hb 10000 (by omega)
    simp only [eqT] at hb
    split at hb
    case h_2 => cases hb
    rename_i ti hti
    obtain ⟨d, i, z, hd, ht, hi, hsz, hby, hz, hzv, hzs, hz1, heq⟩ := hT t ti hti
    split at hb
    · rename_i k a' k' b' _; exact absurd rfl (hnint k a')
    · simp only [Rep] at hu hv
      subst hu hv
      refine ⟨by rcases hop with rfl | rfl <;> simp [eqGuard], ?_, ?_⟩ <;> simp [binOp, Op.equal, Op.maxDepth, h1]
    · split at hb
      case isFalse => cases hb
      rename_i hq
      obtain ⟨us, rfl, _, _⟩ := hu
      obtain ⟨vs, rfl, _, _⟩ := hv
      exact ⟨run_eqGuard_agg w op t x y _ _ (heq hq).2.1, by rw [run_eql_struct, h1]; rfl, by rw [run_neq_struct, h1]; rfl⟩
    · cases hb
  unfold zQ at he
  split at he
  · obtain ⟨b, hb, rfl⟩ := Option.map_eq_some_iff.1 he
    obtain ⟨h1, h2, _⟩ := (orArr_cases hb).elim (fun hb => key b hb (.inl rfl)) fun hb => keyA b hb (.inl rfl)
    exact ⟨.bool b, by simp only [Sem.run_bind, h1, Result.andThen_ok, h2], rfl⟩
  · obtain ⟨b, hb, rfl⟩ := Option.map_eq_some_iff.1 he
    obtain ⟨h1, _, h2⟩ := (orArr_cases hb).elim (fun hb => key b hb (.inr rfl)) fun hb => keyA b hb (.inr rfl)
    exact ⟨.bool (!b), by simp only [Sem.run_bind, h1, Result.andThen_ok, h2], rfl⟩
  · cases he

theorem orNil_ok (hT : TyOk P E) {op : BinOp} {t : Nat} {x y : Operand} {u v r : V} {cu cv : Value} (hu : Rep C w σ none u cu) (hv : Rep C w σ none v cv) (hn : xC y = true → cv = .slice none 0 0) (he : qT E op t u y (zQ E op t u v) = some r) (hnint : ∀ k n, u ≠ .int k n) :
    ∃ c, (do eqGuard op t x y cu cv; binOp op t cu cv : Sem Value).run P w = .ok c w ∧ Rep C w σ none r c := by
  unfold qT at he
  split at he
  · rename_i r' hc
    cases he
    exact evCmp_ok hT (x := x) (y := y) hu hv hc hnint
  · rename_i hcmp
    clear hcmp
    cases op <;> try (cases he; done)
    cases hti : E.ty t with
    | none => rw [hti] at he; cases he
    | some ti =>
    rw [hti] at he
    dsimp only at he
    split at he
    case h_2 => cases he
    rename_i e hty
    split at he
    case isFalse => cases he
    rename_i hy
    have hcv := hn hy
    subst hcv
    obtain ⟨b, hb, rfl⟩ := Option.map_eq_some_iff.1 he
    obtain ⟨d, i, z, hd, ht, _⟩ := hT t ti hti
    rw [hty] at ht
    cases d <;> simp [tyIs] at ht
    have key0 : ∀ N, (Op.equalIn (N + 1) t cu (.slice none 0 0)).run P w = .ok b w := by
      intro N
      unfold nilTest at hb
      split at hb
      · cases hb
        simp only [Rep] at hu
        obtain ⟨rfl, _⟩ := hu
        simp [Op.equalIn, run_underlying hd]
      · cases hb
        simp only [Rep] at hu
        obtain ⟨rfl, _⟩ := hu
        simp [Op.equalIn, run_underlying hd]
      · cases hb
        simp only [Rep] at hu
        obtain ⟨_, a, cap, rfl, _, hor⟩ := hu
        rcases hor with h | ⟨b', off, es, ds, rfl, _⟩
        · cases h
        · simp [Op.equalIn, run_underlying hd]
      · cases hb
    have key : (Op.equalIn 10000 t cu (.slice none 0 0)).run P w = .ok b w := key0 9999
    refine ⟨.bool b, ?_, rfl⟩
    have hg : (eqGuard .eql t x y cu (.slice none 0 0)).run P w = .ok () w := by
      simp [eqGuard]
    simp only [Sem.run_bind, hg, Result.andThen_ok]
    simp [binOp, Op.equal, Op.maxDepth, key]

theorem mapOf_ok (hT : TyOk P E) {t k e : Nat} (h : qX E t = some (k, e)) : P.underlying t = some (.map k e) := by
  unfold qX at h
  split at h
  case h_2 => cases h
  rename_i ti hti
  split at h
  case h_2 => cases h
  rename_i k' e' hte
  cases h
  obtain ⟨d, i, z, hd, ht, _⟩ := hT t ti hti
  rw [hte] at ht
  cases d <;> simp [tyIs] at ht
  obtain ⟨rfl, rfl⟩ := ht
  exact hd

theorem checkKey_ok (hT : TyOk P E) (em : Bool) : ∀ (n : Nat), (∀ (t : Nat) (x y : V) (cx : Value) (b : Bool) (w : World) (σ : Places), Rep C w σ none x cx → eqT E n t x y = some b → ∀ N, n ≤ N → (Instr.checkKey em N t cx).run P w = .ok () w) := by
  intro n
  induction n with
  | zero => intro t x y cx b w σ _ he; simp [eqT] at he
  | succ n ih =>
    intro t x y cx b w σ hx he N hN
    obtain ⟨N, rfl⟩ : ∃ M, N = M + 1 := ⟨N - 1, by omega⟩
    simp only [eqT] at he
    split at he
    case h_2 => cases he
    rename_i ti hti
    obtain ⟨d, i, z, hd, ht, hi, hsz, hby, hz, hzv, hzs, hz1, heq⟩ := hT t ti hti
    split at he
    · rename_i k0 k a' k' b' hty
      simp only [Rep] at hx
      subst hx
      rw [hty] at ht
      cases d <;> simp [tyIs] at ht
      rw [Instr.checkKey]
      simp [run_underlying hd, Result.andThen]
    · rename_i a' b' hty
      simp only [Rep] at hx
      subst hx
      rw [hty] at ht
      cases d <;> simp [tyIs] at ht
      rw [Instr.checkKey]
      simp [run_underlying hd, Result.andThen]
    · rename_i fs cs ds hty
      split at he
      case isFalse => cases he
      rename_i hq
      obtain ⟨us, rfl, hl, h1⟩ := hx
      rw [hty] at ht
      cases d <;> simp [tyIs] at ht
      rename_i gs
      obtain ⟨hp, _, hall⟩ := heq hq
      simp only at hall
      rw [Instr.checkKey]
      simp only [Sem.run_bind, run_underlying hd, Result.andThen_ok]
      rw [← Array.forIn_toList]
      rw [← ht] at he
      clear ht hd heq
      generalize gs.toList = L at hall he
      induction L generalizing b with
      | nil => simp
      | cons g L ihL =>
        simp only [List.map_cons, eqG] at he
        split at he
        case h_2 => cases he
        rename_i fi hfi
        split at he
        case h_2 => cases he
        rename_i x y hx hy
        split at he
        case h_2 => cases he
        rename_i bb c hb hc
        obtain ⟨d2, i2, z2, hd2, ht2, hi2, hsz2, _⟩ := hT _ fi hfi
        obtain ⟨ux, hrx, hpx⟩ := part_ok (P := P) (w := w) hd2 ht2 hi2 hsz2 hl h1 hx
        simp only [List.all_cons, Bool.and_eq_true, bne_iff_ne] at hall
        have e1 := ih g.type x y ux bb w σ hpx hb N (by omega)
        simp only [List.forIn_cons, Sem.run_bind, hall.1, ne_eq, not_false_eq_true, if_true, Result.andThen_ok, hrx, e1, Sem.run_pure]
        exact ihL c hall.2 hc
    · cases he

theorem findV_ok (hT : TyOk P E) {kt : Nat} {k : V} {ck : Value} (hk : Rep C w σ none k ck) : ∀ (vs : List V) (es : List MapEntry) (r : Option V) (j : Nat), RepL C w σ none vs (es.map fun e => .tuple #[e.key, e.val]) → xZ E kt k vs = some r →
    match r with
    | none => (Instr.findAsking kt ck es j).run P w = .ok none w
    | some v => ∃ i c, (Instr.findAsking kt ck es j).run P w = .ok (some (i, c)) w ∧ Rep C w σ none v c
  | [], es, r, j, hl, he => by
    simp only [xZ] at he
    cases he
    have : es = [] := by cases es <;> simp_all [RepL]
    subst this
    simp [Instr.findAsking]
  | x :: vs, es, r, j, hl, he => by
    obtain ⟨d, q, hes, hd, hq⟩ := hl
    cases es with
    | nil => cases hes
    | cons e es =>
      simp only [List.map_cons, List.cons.injEq] at hes
      obtain ⟨rfl, rfl⟩ := hes
      cases x with
      | tup ws =>
        obtain ⟨ds, hds, hw⟩ := hd
        have hds' : [e.key, e.val] = ds := by
          have h0 := congrArg (fun v => match v with | Value.tuple a => a.toList | _ => []) hds
          simpa using h0
        subst hds'
        match ws, hw with
        | [k', v], ⟨_, _, e1, hk', _, _, e2, hv, _⟩ =>
          cases e1
          cases e2
          simp only [xZ] at he
          split at he
          case h_2 => cases he
          rename_i b hb
          have hr' : (Op.equal kt ck e.key).run P w = .ok b w := (eqT_ok (C := C) hT 8).1 kt k k' ck e.key b w σ hk hk' hb 10000 (by omega)
          cases b with
          | true =>
            simp only [ask] at he
            cases he
            exact ⟨j, e.val, by simp [Instr.findAsking, hr', Result.andThen], hv⟩
          | false =>
            simp only [ask] at he
            have h1 := findV_ok hT hk vs es r (j + 1) hq he
            simp only [Instr.findAsking, Sem.run_bind, hr', Result.andThen_ok, Bool.false_eq_true, if_false]
            exact h1
        | [], hw => simp [xZ] at he
        | [_], hw => simp [xZ] at he
        | _ :: _ :: _ :: _, hw => simp [xZ] at he
      | _ => simp [xZ] at he

theorem findNow_ok {kt : Nat} {q kk : IntKind} {n : Int} {ti : TI} (hti : E.ty kt = some ti) (hty : ti.ty = .int q) : ∀ (vs : List V) (es : List MapEntry) (r : Option V) (j : Nat), RepL C w σ none vs (es.map fun e => .tuple #[e.key, e.val]) → xZ E kt (.int kk n) vs = some r →
    match r with
    | none => Instr.findNow (.int q) (.int kk n) es j = some none
    | some v => ∃ i c, Instr.findNow (.int q) (.int kk n) es j = some (some (i, c)) ∧ Rep C w σ none v c
  | [], es, r, j, hl, he => by
    simp only [xZ] at he
    cases he
    have : es = [] := by cases es <;> simp_all [RepL]
    subst this
    simp [Instr.findNow]
  | x :: vs, es, r, j, hl, he => by
    obtain ⟨d, p, hes, hd, hq⟩ := hl
    cases es with
    | nil => cases hes
    | cons e es =>
      simp only [List.map_cons, List.cons.injEq] at hes
      obtain ⟨rfl, rfl⟩ := hes
      cases x with
      | tup ws =>
        obtain ⟨ds, hds, hw⟩ := hd
        have hds' : [e.key, e.val] = ds := by
          have h0 := congrArg (fun v => match v with | Value.tuple a => a.toList | _ => []) hds
          simpa using h0
        subst hds'
        match ws, hw with
        | [k', v], ⟨_, _, e1, hk', _, _, e2, hv, _⟩ =>
          cases e1
          cases e2
          simp only [xZ] at he
          split at he
          case h_2 => cases he
          rename_i b hb
          simp only [eqT, hti, hty] at hb
          cases k' with
          | int k2 a =>
            simp only at hb
            split at hb
            case isFalse => cases hb
            rename_i hkk
            cases hb
            simp only [Rep] at hk'
            have hs : Instr.sameNow (.int q) (.int kk n) e.key = some (n == a) := by rw [hk']; simp only [Instr.sameNow, if_pos hkk]
            cases hna : (n == a) with
            | true =>
              rw [hna] at he hs
              simp only [ask] at he
              cases he
              exact ⟨j, e.val, by simp only [Instr.findNow, hs], hv⟩
            | false =>
              rw [hna] at he hs
              simp only [ask] at he
              have h1 := findNow_ok hti hty vs es r (j + 1) hq he
              simp only [Instr.findNow, hs]
              exact h1
          | _ => simp at hb
        | [], hw => simp [xZ] at he
        | [_], hw => simp [xZ] at he
        | _ :: _ :: _ :: _, hw => simp [xZ] at he
      | _ => simp [xZ] at he

theorem findKey_ok (hT : TyOk P E) {kt : Nat} {k : V} {ck : Value} (hk : Rep C w σ none k ck) (hok : qY E kt k = true) {vs : List V} {es : List MapEntry} {r : Option V} (hl : RepL C w σ none vs (es.map fun e => .tuple #[e.key, e.val]))
    (he : xZ E kt k vs = some r) : (∀ em, (Instr.checkKey em 10000 kt ck).run P w = .ok () w) ∧ match r with
    | none => (Instr.findKey kt ck es).run P w = .ok none w
    | some v => ∃ i c, (Instr.findKey kt ck es).run P w = .ok (some (i, c)) w ∧ Rep C w σ none v c := by
  simp only [qY, Bool.and_eq_true, Bool.or_eq_true, Option.isSome_iff_exists] at hok
  obtain ⟨hor, b, hb⟩ := hok
  refine ⟨fun em => checkKey_ok (C := C) hT em 8 kt k k ck b w σ hk hb 10000 (by omega), ?_⟩
  rcases hor with ⟨fs, hfs⟩ | hint
  · obtain ⟨gs, hu, _⟩ := fieldsOf_ok hT hfs
    have h := findV_ok hT hk vs es r 0 hl he
    have hrun : (Instr.findKey kt ck es).run P w = (Instr.findAsking kt ck es 0).run P w := by
      unfold Instr.findKey
      simp only [Sem.run_bind, run_underlying hu, Result.andThen_ok]
      cases es with
      | nil => simp [Instr.findNow, Instr.findAsking]
      | cons e es => simp [Instr.findNow, Instr.sameNow]
    cases r <;> (simp only [hrun]; exact h)
  · cases k with
    | int kk n =>
      simp only [Rep] at hk
      subst hk
      unfold eqT at hb
      split at hb
      case h_2 => cases hb
      rename_i ti hti
      split at hb
      · rename_i q _ _ _ _ hty _ _
        obtain ⟨d, i, z, hd, ht, _⟩ := hT kt ti hti
        rw [hty] at ht
        cases d <;> simp [tyIs] at ht
        subst ht
        have h := findNow_ok (q := q) hti hty vs es r 0 hl he
        cases r with
        | none => simp only at h ⊢; unfold Instr.findKey; simp [run_underlying hd, h, Result.andThen]
        | some v =>
          obtain ⟨i, c, h1, h2⟩ := h
          exact ⟨i, c, by unfold Instr.findKey; simp [run_underlying hd, h1, Result.andThen], h2⟩
      all_goals (first | (rename_i h1 h2; cases h2; done) | cases hb)
    | _ => cases hint

theorem evLook_ok (hT : TyOk P E) (h : Sim C D outs st a w σ) {t kt et : Nat} {ei : TI} (hm : qX E t = some (kt, et)) (hei : E.ty et = some ei) {m k v : V} {cm ck : Value} (hx : Rep C w σ none m cm) (hk : Rep C w σ none k ck)
    (ok : Bool) (he : zU E kt ei ok m k st = some v) : ∃ cv, (Instr.lookup t cm ck ok).run P w = .ok cv w ∧ Rep C w σ none v cv := by
  have hu := mapOf_ok hT hm
  obtain ⟨d, i, z, hd, ht, hi, hsz, hby, hz, hzv, hzs, hz1, heq⟩ := hT et ei hei
  unfold zU at he
  split at he
  case h_2 => cases he
  rename_i id
  split at he
  case h_2 => cases he
  rename_i ob hob
  split at he
  case isFalse => cases he
  rename_i hok
  obtain ⟨loc, hloc, hrep, hfl⟩ := h.objs id ob hob
  simp only [Rep, hloc] at hx
  cases loc with
  | virt app => exact hx.elim
  | blk b bo es cap app => exact hx.elim
  | mp b =>
    simp only at hx
    subst hx
    obtain ⟨_, _, _, es, clk, hg, hl⟩ := hrep
    unfold Instr.lookup
    split at he
    · rename_i v' hf
      cases he
      obtain ⟨hck, j, c, hr, hrv⟩ := findKey_ok hT hk hok hl hf
      refine ⟨if ok = true then .tuple #[c, .bool true] else c, by cases ok <;> simp [run_underlying hu, MapKept.run_getObj_map hg, hck, hr, Result.andThen], ?_⟩
      cases ok with
      | false => exact hrv
      | true => exact ⟨[c, .bool true], rfl, c, [.bool true], rfl, hrv, .bool true, [], rfl, rfl, rfl⟩
    · rename_i hf
      cases he
      obtain ⟨hck, hr⟩ := findKey_ok hT hk hok hl hf
      refine ⟨if ok = true then .tuple #[z, .bool false] else z, by cases ok <;> simp [run_underlying hu, MapKept.run_getObj_map hg, hck, hr, Result.andThen, zeroValue, typeInfo, hi, hz], ?_⟩
      cases ok with
      | false => show Rep C w σ none ei.zero z; rw [hzv]; exact zero_rep z hz1
      | true => exact ⟨[z, .bool false], rfl, z, [.bool false], rfl, by rw [hzv]; exact zero_rep z hz1, .bool false, [], rfl, rfl, rfl⟩
    · cases he

theorem evMap_ok (h : Sim C D outs st a w σ) {t id d : Nat} (he : qW id d st = some st') : ∃ cv w' σ', (Instr.makeMap t none).run P w = .ok cv w' ∧ Sim C D outs st' (a.put (some d) cv) w' σ' := by
  unfold qW at he
  cases he
  refine ⟨.map (some w.heap.size), w.alloc (.map #[] 0), setP σ id (.mp w.heap.size), by simp [Instr.makeMap, Result.andThen], (h.alloc id (.mp w.heap.size) (below_alloc w _) (fun b e => ?_) _ ?_ (fun _ => rfl)).put ?_⟩
  · cases e; simp
  · exact ⟨rfl, rfl, rfl, #[], 0, heap_alloc_new w _, rfl⟩
  · simp only [Rep, setP_same]

theorem evEnter_ok (hT : TyOk P E) (h : Sim C D outs st a w σ) {t kt et : Nat} (hm : qX E t = some (kt, et)) {m k v : V} {cm ck cv : Value} (hx : Rep C w σ none m cm) (hk : Rep C w σ none k ck) (hv : Rep C w σ none v cv)
    (he : zV E kt m k v st = some st') : ∃ w', (Instr.mapUpdate t cm ck cv).run P w = .ok () w' ∧ Sim C D outs st' a w' σ := by
  have hu := mapOf_ok hT hm
  unfold zV at he
  split at he
  case h_2 => cases he
  rename_i id
  split at he
  case h_2 => cases he
  rename_i ob hob
  split at he
  case h_2 => cases he
  rename_i hf
  split at he
  case isFalse => cases he
  rename_i hc
  cases he
  obtain ⟨hok, hkf, hvf, hes⟩ := hc
  obtain ⟨loc, hloc, hrep, hfl⟩ := h.objs id ob hob
  simp only [Rep, hloc] at hx
  cases loc with
  | virt app => exact hx.elim
  | blk b bo es cap app => exact hx.elim
  | mp b =>
    simp only at hx
    subst hx
    obtain ⟨h1, h2, h3, es, clk, hg, hl⟩ := hrep
    obtain ⟨hck, hr⟩ := findKey_ok hT hk hok hl hf
    have hheld : Held σ b := .of hloc
    have hoth : ∀ q, q ≠ b → (w.putObj b (.map (es.push { key := ck, val := cv, born := clk }) (clk + 1))).heap[q]? = w.heap[q]? := fun q hq => World.putObj_heap_other hq
    have hokb : ∀ t q, okB C w σ t q → okB C (w.putObj b (.map (es.push { key := ck, val := cv, born := clk }) (clk + 1))) σ t q := fun t q hq =>
      ⟨hq.1, by rw [World.putObj_size]; exact hq.2.1, hq.2.2.1, fun e => by rw [hoth q (fun e => hq.1 (e ▸ hheld))]; exact hq.2.2.2 e⟩
    have hcl : ∀ (t : Bool) (q o : Nat), okB C w σ t q → (w.putObj b (.map (es.push { key := ck, val := cv, born := clk }) (clk + 1))).cell? ⟨q, o, none⟩ = w.cell? ⟨q, o, none⟩ := fun t q o hq => cell_of_heap (hoth q (fun e => hq.1 (e ▸ hheld))) o
    have hlt : b < w.heap.size := (h.held b hheld).2
    refine ⟨_, ?_, h.turnMap (es := es.push { key := ck, val := cv, born := clk }) (ck := clk + 1) hob hloc ?_ ?_⟩
    · unfold Instr.mapUpdate
      simp only [Sem.run_bind, run_underlying hu, Result.andThen_ok, MapKept.run_getObj_map hg, hck, hr, MapKept.run_setObj_map _ hg]
      rfl
    · refine ⟨h1, h2, h3, _, _, World.putObj_heap_same hlt, ?_⟩
      have hnew : RepL C w σ none [.tup [k, v]] [.tuple #[ck, cv]] := ⟨_, _, rfl, ⟨[ck, cv], rfl, ck, _, rfl, hk, cv, _, rfl, hv, rfl⟩, rfl⟩
      simpa using RepL.mono hokb hcl (fun _ => rfl) _ (hl.app hnew)
    · intro _
      simp only [refFreeL_app, hfl h2, xS, refFree, hkf, hvf, Bool.and_true, Bool.true_and]

theorem evUn_ok {op : UnOp} {u r : V} {cu : Value} (hu : Rep C w σ none u cu) (he : evUn op u = some r) : ∃ c, (Op.unary op cu).run P w = .ok c w ∧ Rep C w σ none r c := by
  unfold evUn at he
  split at he
  · cases he; simp only [Rep] at hu; subst hu; exact ⟨_, by simp [Op.unary, Op.intArith], rfl⟩
  · cases he; simp only [Rep] at hu; subst hu; exact ⟨_, by simp [Op.unary], rfl⟩
  · cases he; simp only [Rep] at hu; subst hu; exact ⟨_, by simp [Op.unary, Op.intBits, bitsI], rfl⟩
  · cases he

theorem minV_ok (big : Bool) : ∀ (vs : List V) (ds : List Value) (u r : V) (cu : Value), RepL C w σ none vs ds → Rep C w σ none u cu → minV big u vs = some r →
    ∃ c, (ds.foldlM (if big then Builtin.max2 else Builtin.min2) cu).run P w = .ok c w ∧ Rep C w σ none r c
  | [], ds, u, r, cu, hl, hu, he => by
    simp only [RepL] at hl; subst hl
    simp only [minV] at he; cases he
    exact ⟨cu, by simp, hu⟩
  | v :: vs, ds, u, r, cu, hl, hu, he => by
    simp only [RepL] at hl
    obtain ⟨d, q, rfl, hd, hq⟩ := hl
    cases u <;> cases v <;> simp only [minV] at he <;> try (cases he; done)
    rename_i k x k' y
    split at he
    case isFalse => cases he
    rename_i hk
    subst hk
    simp only [Rep] at hu hd
    subst hu hd
    have hstep : ((if big then Builtin.max2 else Builtin.min2) (.int k x) (.int k y)).run P w = .ok (.int k (if big then (if x < y then y else x) else (if y < x then y else x))) w := by
      cases big <;> simp [Builtin.max2, Builtin.min2]
    obtain ⟨c, hr, hrep⟩ := minV_ok big vs q (.int k (if big then (if x < y then y else x) else (if y < x then y else x))) r (.int k (if big then (if x < y then y else x) else (if y < x then y else x))) hq rfl he
    exact ⟨c, by simp only [List.foldlM_cons, Sem.run_bind, hstep, Result.andThen_ok, hr], hrep⟩

theorem evNilCheck_ok {o : Oper} {x : Operand} (ho : o.op = .nilCheck x) {v r : V} (h : Sim C D outs st a w σ) (hv : v = st.eval x) (he : xJ v = some r) :
    ∃ c, (execOp a.eval o).run P w = .ok (.value c) w ∧ Rep C w σ none r c := by
  have hx := h.eval x
  rw [← hv] at hx
  unfold execOp
  rw [ho]
  unfold xJ at he
  split at he
  · cases he
    have hx' := hx
    simp only [Rep] at hx
    split at hx
    · exact hx.elim
    · exact hx.elim
    · exact ⟨_, by simp [hx], hx'⟩
    · exact hx.elim
  · cases he
    have hx' := hx
    obtain ⟨hf', b, off0, ds, hc, _⟩ := hx
    exact ⟨a.eval x, by simp [hc], hx'⟩
  · cases he
    have hx' := hx
    obtain ⟨fa, fb, hc, _⟩ := hx
    exact ⟨a.eval x, by simp [hc], hx'⟩
  · cases he

theorem repL_eval (h : Sim C D outs st a w σ) : ∀ (l : List Operand), RepL C w σ none (l.map st.eval) (l.map a.eval)
  | [] => rfl
  | x :: l => ⟨_, _, rfl, h.eval x, repL_eval h l⟩

theorem optInt_ok (h : Sim C D outs st a w σ) (x : Option Operand) : optOk (optInt st x) (x.map a.eval) := by
  cases x with
  | none => exact .inr (.inl ⟨rfl, rfl⟩)
  | some y =>
    have hy := h.eval y
    simp only [optOk, optInt, Option.map_some]
    cases hv : st.eval y with
    | int k n => rw [hv] at hy; simp only [Rep] at hy; exact .inr (.inr ⟨n, k, rfl, by rw [hy]⟩)
    | _ => exact .inl rfl

theorem isNilSlice_eval {x : Operand} (h : xC x = true) : a.eval x = .slice none 0 0 := by
  unfold xC at h
  split at h
  · rfl
  · cases h

theorem evVar_alloc (hT : TyOk P E) (h : Sim C D outs st a w σ) {e id d : Nat} {ti : TI} (hti : E.ty e = some ti) (he : zE id d ti ti.zero st = some st') :
    ∃ cv w' σ', (Instr.alloc e true (.tuple #[])).run P w = .ok cv w' ∧ Sim C D outs st' (a.put (some d) cv) w' σ' := by
  obtain ⟨d', i, z, hd, ht, hi, hsz, hby, hz, hzv, hzs, hz1, _⟩ := hT e ti hti
  have hx : Rep C w σ none ti.zero z := by rw [hzv]; exact zero_rep z hz1
  obtain ⟨hsim, _⟩ := evVar_ok h hx he e
  refine ⟨_, _, _, ?_, hsim⟩
  simp [Instr.alloc, zeroValue, typeInfo, hi, hz, newVar, newRow]

theorem run_builtin {o : Oper} {c : Call} {b : Builtin} (ho : o.op = .call c) (hc : c.callee = .builtin b) {cv : Value} {w' : World}
    (hr : (builtin b c.argTypes o.type (c.args.map fun | .const _ => true | _ => false) (c.args.map a.eval)).run P w = .ok (.value cv) w') : (execOp a.eval o).run P w = .ok (.value cv) w' := by
  unfold execOp
  rw [ho]
  simp only [_root_.Go.resolve, hc, Sem.run_bind, Sem.run_pure, Result.andThen_ok, invoke]
  exact hr

theorem evVal_ok (hT : TyOk P E) {fc : FC} {o : Oper} (h : Sim C D outs st a w σ) {r : V} (he : zF E fc o st = some r) : ∃ c, (execOp a.eval o).run P w = .ok (.value c) w ∧ Rep C w σ none r c := by
  have hev := fun x => h.eval x
  have val : ∀ {s : Sem Value}, execOp a.eval o = (do pure (.value (← s))) → (∃ cv, s.run P w = .ok cv w ∧ Rep C w σ none r cv) → ∃ c, (execOp a.eval o).run P w = .ok (.value c) w ∧ Rep C w σ none r c := by
    rintro s hx ⟨cv, hr, hrep⟩
    exact ⟨cv, by rw [hx]; simp only [Sem.run_bind, hr, Result.andThen_ok, Sem.run_pure], hrep⟩
  unfold zF at he
  split at he
  · rename_i x ho
    cases he
    exact ⟨_, by unfold execOp; rw [ho]; rfl, hev x⟩
  · rename_i x ho
    split at he
    case h_2 => cases he
    rename_i d hd
    split at he
    case isTrue => cases he
    cases he
    exact ⟨_, by unfold execOp; rw [ho]; rfl, hev x⟩
  · rename_i c x y ho
    split at he
    case h_2 => cases he
    rename_i b hb
    have he2 : some (if b = true then st.eval x else st.eval y) = some r := by rw [← he]; cases b <;> rfl
    cases he2
    have hc := hev c
    rw [hb] at hc
    simp only [Rep] at hc
    cases b
    · exact ⟨a.eval y, by unfold execOp; rw [ho]; simp [hc, asBool], by simpa using hev y⟩
    · exact ⟨a.eval x, by unfold execOp; rw [ho]; simp [hc, asBool], by simpa using hev x⟩
  · rename_i t parts ho
    split at he
    case h_3 => cases he
    · rename_i ti fs hti hfs
      split at he
      case h_2 => cases he
      rename_i zs ps hz hps
      obtain ⟨cs, hcs, rfl⟩ := Option.map_eq_some_iff.1 he
      obtain ⟨cv, hr, hrep⟩ := evBuild_ok hT h hti hfs hz hps hcs
      exact ⟨cv, by unfold execOp; rw [ho]; simp only [Sem.run_bind, hr, Result.andThen_ok, Sem.run_pure], hrep⟩
    · rename_i ti hti hfs
      split at he
      case h_2 => cases he
      rename_i zs k ei hz har
      obtain ⟨cs, hcs, rfl⟩ := Option.map_eq_some_iff.1 he
      obtain ⟨cv, hr, hrep⟩ := evBuildA_ok hT h hti har hz hcs
      exact ⟨cv, by unfold execOp; rw [ho]; simp only [Sem.run_bind, hr, Result.andThen_ok, Sem.run_pure], hrep⟩
  · rename_i t x ho
    split at he
    case h_2 => cases he
    rename_i ti hti
    exact val (by unfold execOp; rw [ho]) (evLoad_ok hT h hti (hev x) he)
  · rename_i x ho
    exact evNilCheck_ok (P := P) ho h rfl he
  · rename_i op t x y ty ho
    split at he
    · rename_i k n hx
      exact val (by unfold execOp; rw [ho]) (evBin_ok (x := x) (y := y) (t := t) (by rw [← hx]; exact hev x) (hev y) he)
    · rename_i hx
      exact val (by unfold execOp; rw [ho]) (orNil_ok hT (x := x) (y := y) (hev x) (hev y) (fun h => isNilSlice_eval h) he (fun k n e => hx k n e))
  · rename_i op t x ho
    exact val (by unfold execOp; rw [ho]) (evUn_ok (hev x) he)
  · rename_i s t x ho
    split at he
    case h_2 => cases he
    rename_i si ti hsi hti
    split at he
    case h_2 => cases he
    rename_i k k' n hty hx
    cases he
    obtain ⟨d1, _, _, hd1, _⟩ := hT s si hsi
    obtain ⟨d, i, z, hd, ht, _⟩ := hT t ti hti
    rw [hty] at ht
    cases d <;> simp [tyIs] at ht
    subst ht
    have hxx := hev x
    rw [hx] at hxx
    simp only [Rep] at hxx
    refine ⟨.int _ _, ?_, rfl⟩
    unfold execOp; rw [ho]
    simp only [hxx, convert, Sem.run_bind, run_underlying hd1, run_underlying hd, Result.andThen_ok, Conv.intToInt, Sem.run_pure]
  · rename_i fn first cap ho
    split at he
    case h_2 => cases he
    rename_i f
    cases he
    exact ⟨.func (.func f) (first.map a.eval) (cap.map a.eval), by unfold execOp; rw [ho]; rfl, first.toList.map a.eval, cap.toList.map a.eval, by congr 1 <;> (apply Array.toList_inj.1; simp), repL_eval h _, repL_eval h _⟩
  · rename_i t x lo hi mx ho
    split at he
    case h_2 => cases he
    rename_i ei hs
    refine val (by unfold execOp; rw [ho]) (preV_ok hT h hs (hev x) (optInt_ok h lo) (optInt_ok h hi) ?_ he)
    cases mx with
    | none => exact .inl ⟨rfl, rfl⟩
    | some m => exact .inr ⟨_, _, rfl, rfl, hev m⟩
  · rename_i s x f ho
    split at he
    case h_2 => cases he
    rename_i fs hfs
    exact val (by unfold execOp; rw [ho]) (evFieldAddr_ok hT hfs (hev x) he)
  · rename_i s x f ho
    split at he
    case h_2 => cases he
    rename_i fs hfs
    exact val (by unfold execOp; rw [ho]) (evField_ok hT hfs (hev x) he)
  · rename_i t x ix ho
    split at he
    case h_2 => cases he
    rename_i k i hi
    have hix := hev ix
    rw [hi] at hix
    simp only [Rep] at hix
    split at he
    · rename_i ei hs
      exact val (by unfold execOp; rw [ho]) (by rw [hix]; exact evIndexS_ok hT h hs (hev x) he)
    · split at he
      case h_2 => cases he
      rename_i n ei hs
      exact val (by unfold execOp; rw [ho]) (by rw [hix]; exact evIndexA_ok hT hs (hev x) he)
  · rename_i t x ix ho
    split at he
    case h_3 => cases he
    case h_1 =>
      rename_i k i n ei hi hs
      have hix := hev ix
      rw [hi] at hix
      simp only [Rep] at hix
      exact val (by unfold execOp; rw [ho]) (by rw [hix]; exact evIndexV_ok hT hs (hev x) he)
    case h_2 =>
      rename_i k i hi hs
      split at he
      case h_2 => cases he
      rename_i ti hti
      have hix := hev ix
      rw [hi] at hix
      simp only [Rep] at hix
      exact val (by unfold execOp; rw [ho]) (by rw [hix]; exact evIndexT_ok hT hti (hev x) he)
  · rename_i t x ix ok ho
    split at he
    case h_2 => cases he
    rename_i k e hm
    split at he
    case h_2 => cases he
    rename_i ei hei
    exact val (by unfold execOp; rw [ho]) (evLook_ok hT h hm hei (hev x) (hev ix) _ he)
  · rename_i x ix ho
    exact val (by unfold execOp; rw [ho]) (evExtract_ok (hev x) he)
  · rename_i c ho
    have hamap : (c.args.map a.eval).toList = c.args.toList.map a.eval := by simp
    split at he
    · rename_i hc
      split at he
      case h_2 => cases he
      rename_i t x hty hax
      split at he
      case h_2 => cases he
      rename_i ei n hs hn
      cases he
      obtain ⟨e, hu, hte⟩ := sliceOf_ok hT hs
      obtain ⟨p, cap, hcx, _⟩ := lenV_ok (hev x) hn
      refine ⟨.int .i64 n, run_builtin ho hc ?_, rfl⟩
      have e1 : c.argTypes[0]? = some t := by rw [← Array.getElem?_toList, hty]; rfl
      have e2 : (c.args.map a.eval)[0]? = some (.slice p n cap) := by rw [← Array.getElem?_toList, hamap, hax, ← hcx]; rfl
      unfold builtin Builtin.len_
      simp only [e1, e2, Sem.run_bind, run_underlying hu, Result.andThen_ok, Sem.run_pure, goInt]
    · rename_i hc
      split at he
      case h_2 => cases he
      rename_i x r' hax
      obtain ⟨cv, hr', hrep⟩ := minV_ok (P := P) false _ _ _ r _ (repL_eval h r') (hev x) he
      refine ⟨cv, run_builtin ho hc ?_, hrep⟩
      have hr2 : (List.foldlM Builtin.min2 (a.eval x) (List.map a.eval r')).run P w = .ok cv w := by simpa using hr'
      simp only [builtin, Builtin.min_, hamap, hax, List.map_cons, Sem.run_bind, hr2, Result.andThen_ok, Sem.run_pure]
    · rename_i hc
      split at he
      case h_2 => cases he
      rename_i x r' hax
      obtain ⟨cv, hr', hrep⟩ := minV_ok (P := P) true _ _ _ r _ (repL_eval h r') (hev x) he
      refine ⟨cv, run_builtin ho hc ?_, hrep⟩
      have hr2 : (List.foldlM Builtin.max2 (a.eval x) (List.map a.eval r')).run P w = .ok cv w := by simpa using hr'
      simp only [builtin, Builtin.max_, hamap, hax, List.map_cons, Sem.run_bind, hr2, Result.andThen_ok, Sem.run_pure]
    · cases he
  · cases he

theorem evMem_ok (hT : TyOk P E) {fc : FC} {base : Nat} {o : Oper} (h : Sim C D outs st a w σ) (he : zG E fc base o st = some st') : Goes P C D outs o st' a w := by
  have hev := fun x => h.eval x
  have mem : ∀ {s : Sem Value} {d : Nat}, o.dst = some d → execOp a.eval o = (do pure (.value (← s))) → (∃ cv w' σ', s.run P w = .ok cv w' ∧ Sim C D outs st' (a.put (some d) cv) w' σ') → Goes P C D outs o st' a w := by
    rintro s d hd hx ⟨cv, w', σ', hr, hsim⟩
    exact ⟨cv, w', σ', .inl (by rw [hx]; simp only [Sem.run_bind, hr, Result.andThen_ok, Sem.run_pure]), by rw [hd]; exact hsim⟩
  unfold zG at he
  split at he
  · rename_i x ho
    split at he
    case h_2 => cases he
    rename_i d hd
    split at he
    case isFalse => cases he
    rename_i hb
    simp only [Bool.and_eq_true] at hb
    split at he
    case h_2 => cases he
    have hsim := evNil_ok h he
    refine ⟨.slice none 0 0, w, _, .inl ?_, by rw [hd]; exact hsim⟩
    unfold execOp; rw [ho]
    simp only [isNilSlice_eval hb.2]; rfl
  · rename_i e ho
    split at he
    case h_2 => cases he
    rename_i d ti hd hti
    exact mem hd (by unfold execOp; rw [ho]) (evVar_alloc hT h hti he)
  · rename_i e x ho
    split at he
    case h_2 => cases he
    rename_i d ti hd hti
    obtain ⟨hsim, _⟩ := evVar_ok h (hev x) he e
    refine mem hd (by unfold execOp; rw [ho]) ⟨_, _, _, ?_, hsim⟩
    simp [Instr.box, newVar, newRow]
  · rename_i t n parts ho
    split at he
    case h_2 => cases he
    rename_i d ei hd hs
    exact mem hd (by unfold execOp; rw [ho]) (evLit_ok hT h hs he)
  · rename_i t p x ho
    split at he
    case h_2 => cases he
    rename_i ti hti
    obtain ⟨s, hs, rfl⟩ := Option.map_eq_some_iff.1 he
    obtain ⟨w', hr, hsim⟩ := evStore_ok hT h hti (hev p) (hev x) hs
    refine ⟨undef, w', σ, .inr ⟨?_, rfl⟩, hsim.put rfl⟩
    unfold execOp; rw [ho]
    simp only [Sem.run_bind, hr, Result.andThen_ok, Sem.run_pure]
  · rename_i t ho
    split at he
    case h_2 => cases he
    rename_i d ke hd hm
    exact mem hd (by unfold execOp; rw [ho]; rfl) (evMap_ok h he)
  · rename_i t m k x ho
    split at he
    case h_2 => cases he
    rename_i kt et hm
    obtain ⟨s, hs, rfl⟩ := Option.map_eq_some_iff.1 he
    obtain ⟨w', hr, hsim⟩ := evEnter_ok hT h hm (hev m) (hev k) (hev x) hs
    refine ⟨undef, w', σ, .inr ⟨?_, rfl⟩, hsim.put rfl⟩
    unfold execOp; rw [ho]
    simp only [Sem.run_bind, hr, Result.andThen_ok, Sem.run_pure]
  · rename_i t l c ho
    split at he
    case h_2 => cases he
    rename_i d ei hd hs
    exact mem hd (by unfold execOp; rw [ho]) (evMake_ok hT h hs (hev l) (hev c) he)
  · rename_i c ho
    split at he
    case h_4 => cases he
    case h_3 =>
      rename_i hc
      split at he
      case h_2 => cases he
      rename_i d t t' x y hd hty hax
      split at he
      case isFalse => cases he
      rename_i htt
      subst htt
      split at he
      case h_2 => cases he
      rename_i ei hs
      obtain ⟨p, hp, rfl⟩ := Option.map_eq_some_iff.1 he
      obtain ⟨n, s⟩ := p
      have e1 : c.argTypes = #[t, t] := Array.toList_inj.1 hty
      have e2 : c.args.map a.eval = #[a.eval x, a.eval y] := Array.toList_inj.1 (by simp [hax])
      obtain ⟨w', hr, hsim⟩ := evCopy_ok (ty := o.type) hT h hs (hev x) (hev y) hp
      refine ⟨.int .i64 n, w', σ, .inl (run_builtin ho hc ?_), by rw [hd]; exact hsim.put rfl⟩
      simp only [builtin, e1, e2, Sem.run_bind, hr, Result.andThen_ok, Sem.run_pure]
    case h_2 =>
      rename_i hc
      split at he
      case h_2 => cases he
      rename_i t x hd hty hax
      split at he
      case h_2 => cases he
      rename_i ei hs
      have e1 : c.argTypes = #[t] := Array.toList_inj.1 hty
      have e2 : c.args.map a.eval = #[a.eval x] := Array.toList_inj.1 (by simp [hax])
      obtain ⟨w', hr, hsim⟩ := evClear_ok (ty := o.type) hT h hs (hev x) he
      refine ⟨.tuple #[], w', σ, .inl (run_builtin ho hc ?_), by rw [hd]; exact hsim⟩
      simp only [builtin, e1, e2, Sem.run_bind, hr, Result.andThen_ok, Sem.run_pure]
    rename_i hc
    split at he
    case h_2 => cases he
    rename_i d t t' x y hd hty hax
    split at he
    case isFalse => cases he
    rename_i htt
    subst htt
    split at he
    case h_2 => cases he
    rename_i ei hs
    have e1 : c.argTypes = #[t, t] := Array.toList_inj.1 hty
    have e2 : c.args.map a.eval = #[a.eval x, a.eval y] := Array.toList_inj.1 (by simp [hax])
    unfold evApp at he
    split at he
    · rename_i heq
      have hxx := hev x
      rw [heq] at hxx
      obtain ⟨cv, w', hr, hsim⟩ := evPre_ok (ty := o.type) hT h hs hxx (hev y) he
      refine ⟨cv, w', σ, .inl (run_builtin ho hc ?_), by rw [hd]; exact hsim⟩
      simp only [builtin, e1, e2, Sem.run_bind, hr, Result.andThen_ok, Sem.run_pure]
    obtain ⟨cv, w', σ', hr, hsim⟩ := evAppend_ok (ty := o.type) hT h hs (hev x) (hev y) he
    refine ⟨cv, w', σ', .inl (run_builtin ho hc ?_), by rw [hd]; exact hsim⟩
    simp only [builtin, e1, e2, Sem.run_bind, hr, Result.andThen_ok, Sem.run_pure]
  · cases he

theorem evPlain_ok (hT : TyOk P E) {fc : FC} {base : Nat} {o : Oper} (h : Sim C D outs st a w σ) (he : qG E fc base o st = some st') : Goes P C D outs o st' a w := by
  unfold qG at he
  split at he
  · rename_i v hv
    cases he
    obtain ⟨c, hr, hrep⟩ := evVal_ok hT h hv
    exact Goes.val h hr hrep
  · exact evMem_ok hT h he

end
end Go.AM
end

section
/-
Functions that see only a part of their caller's objects: what goes on being true of the others.
-/
namespace Go.AM
open Go Go.RowKit

def AtEq (l l' : At) : Prop := l = l' ∨ ∃ b bo es cap cap', l = .blk b bo es cap false ∧ l' = .blk b bo es cap' false

theorem AtEq.block {l l' : At} (h : AtEq l l') : l'.block = l.block := by
  rcases h with rfl | ⟨b, bo, es, cap, cap', rfl, rfl⟩ <;> rfl

section
variable {C C' : Cx} {w w' : World} {σ σ' : Places}

mutual
theorem Rep.over {S : Nat → Prop} (hok : ∀ t b, okB C w σ t b → okB C' w' σ' t b) (hc : ∀ t b o, okB C w σ t b → w'.cell? ⟨b, o, none⟩ = w.cell? ⟨b, o, none⟩)
    (hσ : ∀ j l, S j → σ j = some l → ∃ l', σ' j = some l' ∧ AtEq l l') : ∀ {m : Option Bool} (v : V) {c : Value}, (∀ j ∈ ids v, S j) → Rep C w σ m v c → Rep C' w' σ' m v c
  | m, .int k n, c, _, h => h
  | m, .bool b, c, _, h => h
  | m, .lit v, c, _, h => h
  | m, .und, c, _, h => h
  | m, .agg cs, c, hS, h => by
    simp only [Rep] at h ⊢
    obtain ⟨ds, rfl, hl, h1⟩ := h
    exact ⟨ds, rfl, RepL.over hok hc hσ cs (by simpa [ids] using hS) hl, h1⟩
  | m, .tup cs, c, hS, h => by
    simp only [Rep] at h ⊢
    obtain ⟨ds, rfl, hl⟩ := h
    exact ⟨ds, rfl, RepL.over hok hc hσ cs (by simpa [ids] using hS) hl⟩
  | m, .sl t vs, c, _, h => Rep.free hok hc _ rfl h
  | m, .full t vs, c, _, h => Rep.free hok hc _ rfl h
  | m, .emp, c, _, h => h
  | m, .fp t cs o, c, _, h => Rep.free hok hc _ rfl h
  | m, .own j off len, c, hS, h => by
    simp only [Rep] at h ⊢
    cases hj : σ j with
    | none => rw [hj] at h; exact h.elim
    | some l =>
      obtain ⟨l', h1, h2⟩ := hσ j l (hS j (by simp [ids])) hj
      rw [hj] at h
      rw [h1]
      rcases h2 with rfl | ⟨b, bo, es, cap, cap', rfl, rfl⟩
      · exact h
      · obtain ⟨a, cp, e, hle, h3⟩ := h
        exact ⟨a, cp, e, hle, h3.imp (fun q => ⟨q.1, fun e => by cases e⟩) (fun q => ⟨q.1, fun e => by cases e⟩)⟩
  | m, .pre j off len room, c, hS, h => by
    simp only [Rep] at h ⊢
    cases hj : σ j with
    | none => rw [hj] at h; exact h.elim
    | some l =>
      obtain ⟨l', h1, h2⟩ := hσ j l (hS j (by simp [ids])) hj
      rw [hj] at h
      rw [h1]
      rcases h2 with rfl | ⟨b, bo, es, cap, cap', rfl, rfl⟩
      · exact h
      · obtain ⟨cp, e, hle, h3, h4⟩ := h
        exact ⟨cp, e, hle, h3, fun e => by cases e⟩
  | m, .ptr j i o, c, hS, h => by
    simp only [Rep] at h ⊢
    cases hj : σ j with
    | none => rw [hj] at h; exact h.elim
    | some l =>
      obtain ⟨l', h1, h2⟩ := hσ j l (hS j (by simp [ids])) hj
      rw [hj] at h
      rw [h1]
      rcases h2 with rfl | ⟨b, bo, es, cap, cap', rfl, rfl⟩
      · exact h
      · exact h
  | m, .mapr j, c, hS, h => by
    simp only [Rep] at h ⊢
    cases hj : σ j with
    | none => rw [hj] at h; exact h.elim
    | some l =>
      obtain ⟨l', h1, h2⟩ := hσ j l (hS j (by simp [ids])) hj
      rw [hj] at h
      rw [h1]
      rcases h2 with rfl | ⟨b, bo, es, cap, cap', rfl, rfl⟩
      · exact h
      · exact h.elim
  | m, .clo f xs ys, c, hS, h => by
    simp only [Rep] at h ⊢
    obtain ⟨fa, fb, rfl, hx, hy⟩ := h
    exact ⟨fa, fb, rfl, RepL.over hok hc hσ xs (fun j hj => hS j (by simp [ids, hj])) hx, RepL.over hok hc hσ ys (fun j hj => hS j (by simp [ids, hj])) hy⟩
  | m, .junk, c, _, _ => trivial
theorem RepL.over {S : Nat → Prop} (hok : ∀ t b, okB C w σ t b → okB C' w' σ' t b) (hc : ∀ t b o, okB C w σ t b → w'.cell? ⟨b, o, none⟩ = w.cell? ⟨b, o, none⟩)
    (hσ : ∀ j l, S j → σ j = some l → ∃ l', σ' j = some l' ∧ AtEq l l') : ∀ {m : Option Bool} (vs : List V) {ds : List Value}, (∀ j ∈ idsL vs, S j) → RepL C w σ m vs ds → RepL C' w' σ' m vs ds
  | m, [], ds, _, h => h
  | m, v :: vs, ds, hS, h => by
    simp only [RepL] at h ⊢
    obtain ⟨d, r, rfl, hd, hr⟩ := h
    exact ⟨d, r, rfl, Rep.over hok hc hσ v (fun j hj => hS j (by simp [idsL, hj])) hd, RepL.over hok hc hσ vs (fun j hj => hS j (by simp [idsL, hj])) hr⟩
end

theorem RepLL.over (hok : ∀ t b, okB C w σ t b → okB C' w' σ' t b) (hc : ∀ t b o, okB C w σ t b → w'.cell? ⟨b, o, none⟩ = w.cell? ⟨b, o, none⟩)
    (hσ : ∀ j l, σ j = some l → ∃ l', σ' j = some l' ∧ AtEq l l') : ∀ {ls : List (List V)} {ds : List (List Value)}, RepLL C w σ ls ds → RepLL C' w' σ' ls ds
  | [], _, h => h
  | l :: r, ds, h => by
    simp only [RepLL] at h ⊢
    obtain ⟨d, q, rfl, h1, h2⟩ := h
    exact ⟨d, q, rfl, RepL.over (S := fun _ => True) hok hc (fun j l _ => hσ j l) l (fun _ _ => trivial) h1, RepLL.over hok hc hσ h2⟩

theorem ObRep.over {S : Nat → Prop} {ob : Ob} {l l' : At} (h : ObRep C w σ ob l) (hl : AtEq l l') (hok : ∀ t b, okB C w σ t b → okB C' w' σ' t b)
    (hc : ∀ t b o, okB C w σ t b → w'.cell? ⟨b, o, none⟩ = w.cell? ⟨b, o, none⟩) (hσ : ∀ j l, S j → σ j = some l → ∃ l', σ' j = some l' ∧ AtEq l l')
    (hS : ob.flat = true ∨ ∀ j ∈ idsL ob.elems, S j) (hf : ob.flat = true → xS ob.elems = true) (hh : ∀ b, l.block = some b → w'.heap[b]? = w.heap[b]?) : ObRep C' w' σ' ob l' := by
  have el : ∀ {m : Option Bool} {ds : List Value}, RepL C w σ m ob.elems ds → RepL C' w' σ' m ob.elems ds := fun hr => by
    rcases hS with h1 | h1
    · exact RepL.free hok hc _ (hf h1) hr
    · exact RepL.over hok hc hσ _ h1 hr
  rcases hl with rfl | ⟨b, bo, es, cap, cap', rfl, rfl⟩
  · cases l with
    | virt app => exact h
    | blk b bo es cap app =>
      obtain ⟨h1, h2, h3, cur, e, ds, hg, hl, hr⟩ := h
      exact ⟨h1, h2, h3, cur, e, ds, (hh _ rfl).trans hg, el hl, hr⟩
    | mp b =>
      obtain ⟨h1, h2, h3, es, ck, hg, hl⟩ := h
      exact ⟨h1, h2, h3, es, ck, (hh _ rfl).trans hg, el hl⟩
  · obtain ⟨h1, h2, h3, cur, e, ds, hg, hl, hw, hcur, _⟩ := h
    exact ⟨h1, h2, h3, cur, e, ds, (hh _ rfl).trans hg, el hl, hw, hcur, fun e => by cases e⟩
end

theorem look_pickR : ∀ (R : List Nat) (l : List (Nat × Ob)) (id : Nat), look (pickR R l) id = if R.contains id then look l id else none
  | [], l, id => by simp [pickR, look]
  | j :: r, l, id => by
    have ih := look_pickR r l id
    simp only [pickR]
    cases ho : look l j with
    | some ob =>
      dsimp only
      rw [look_upd]
      by_cases e : id = j
      · subst e; rw [if_pos rfl, if_pos (by simp), ho]
      · rw [if_neg e, ih]
        have : (j :: r).contains id = r.contains id := by simp [e]
        rw [this]
    | none =>
      dsimp only
      rw [ih]
      by_cases e : id = j
      · subst e; rw [ho]; simp
      · have : (j :: r).contains id = r.contains id := by simp [e]
        rw [this]

theorem look_pick (R : List Nat) : ∀ (l : List (Nat × Ob)) (id : Nat), look (xG R l) id = if R.contains id then look l id else none
  | [], id => by simp [xG, look]
  | (j, o) :: r, id => by
    simp only [xG]
    by_cases hj : R.contains j = true
    · rw [if_pos hj]
      simp only [look]
      by_cases e : j = id
      · subst e; rw [if_pos rfl, if_pos rfl, if_pos hj]
      · rw [if_neg e, if_neg e]; exact look_pick R r id
    · rw [if_neg hj, look_pick R r id]
      simp only [look]
      by_cases e : j = id
      · subst e; rw [if_neg hj, if_neg hj]
      · rw [if_neg e]

theorem look_putObs (old : List (Nat × Ob)) : ∀ (l : List (Nat × Ob)) (id : Nat), look (xH old l) id = match look l id with | some o => some o | none => look old id
  | [], id => rfl
  | (j, o) :: r, id => by
    simp only [xH, look_upd, look]
    by_cases e : id = j
    · subst e; rw [if_pos rfl, if_pos rfl]
    · rw [if_neg e, if_neg (Ne.symm e)]; exact look_putObs old r id

theorem sameWit_eq : ∀ {l l' : List V}, xI l l' = true → l' = l
  | [], [], _ => rfl
  | .mapr i :: r, .mapr j :: s, h => by
    simp only [xI, Bool.and_eq_true, beq_iff_eq] at h
    rw [h.1, sameWit_eq h.2]
  | .ptr i a b :: r, .ptr j c d :: s, h => by
    simp only [xI, Bool.and_eq_true, beq_iff_eq] at h
    obtain ⟨⟨⟨rfl, rfl⟩, rfl⟩, h4⟩ := h
    rw [sameWit_eq h4]
  | [], _ :: _, h => by simp [xI] at h
  | .int .. :: _, _, h => by simp [xI] at h
  | .bool _ :: _, _, h => by simp [xI] at h
  | .lit _ :: _, _, h => by simp [xI] at h
  | .und :: _, _, h => by simp [xI] at h
  | .agg _ :: _, _, h => by simp [xI] at h
  | .tup _ :: _, _, h => by simp [xI] at h
  | .sl .. :: _, _, h => by simp [xI] at h
  | .full .. :: _, _, h => by simp [xI] at h
  | .emp :: _, _, h => by simp [xI] at h
  | .fp .. :: _, _, h => by simp [xI] at h
  | .own .. :: _, _, h => by simp [xI] at h
  | .pre .. :: _, _, h => by simp [xI] at h
  | .clo .. :: _, _, h => by simp [xI] at h
  | .junk :: _, _, h => by simp [xI] at h
  | .mapr _ :: _, [], h => by simp [xI] at h
  | .ptr .. :: _, [], h => by simp [xI] at h
  | .mapr _ :: _, x :: _, h => by cases x <;> simp_all [xI] <;> exact sameWit_eq h.2
  | .ptr .. :: _, x :: _, h => by cases x <;> simp_all [xI] <;> exact sameWit_eq h.2
end Go.AM
end

section
/-
The abstract machine on calls and on regions in the order of the text: right.
-/
namespace Go.AM
open Go Go.RowKit

def W (ro : Option Nat) : Fence := { Fence.wide with round := ro }

def Callable (P : Program) (g : Nat) : Prop := ∃ fn, P.funcs[g]? = some fn ∧ fn.body.isNone = false ∧ (fn.name == "runtime.NumGoroutine") = false

def CallOk (P : Program) (g : Nat) (args : List V) (r : V) : Prop := Callable P g ∧ ∀ (m : Nat) (w : World) (Fo : Nat → Prop) (cargs : List Value), (∀ b, Fo b → b < w.heap.size) →
  RepL ⟨Fo, w.heap.size, w, fun _ => False, true, fun _ => False⟩ w (fun _ => none) none args cargs →
  CallsIn Fence.wide m P g cargs.toArray w fun e w' => ∃ c, e = .returned c ∧ Below w.heap.size w w' ∧ Rep ⟨Fo, w.heap.size, w, fun _ => False, true, fun _ => False⟩ w' (fun _ => none) none r c ∧ refFree r = true

def InlOk (P : Program) (g : Nat) (args : List V) (st : St) (r : V) (st' : St) : Prop := Callable P g ∧ ∀ (m : Nat) (C : Cx) (outs : List (List Value)) (w : World) (σ : Places) (cargs : List Value), C.mrk = true →
  Sim C [] outs { st with slots := [] } ⟨#[], []⟩ w σ → RepL C w σ none args cargs →
  CallsIn Fence.wide m P g cargs.toArray w fun e w' => ∃ c σ', e = .returned c ∧ Sim C [] outs { st' with slots := [] } ⟨#[], []⟩ w' σ' ∧ Rep C w' σ' none r c

structure Rounds (P : Program) (m l : Nat) (yss : List (List Value)) (J : Nat → (Nat → Prop) → World → Prop) (Jx : World → Prop) : Prop where
  grow : ∀ i K A B, J i K A → Below A.heap.size A B → J i (fun b => K b ∨ (A.heap.size ≤ b ∧ b < B.heap.size)) B
  stop : ∀ A B, Jx A → Below A.heap.size A B → Jx B
  yield : ∀ i ys K A, J i K A → yss[i]? = some ys → YieldAt Fence.wide m P l ys.toArray A fun e B =>
    (e = .returned (.bool true) ∧ J (i + 1) K B ∧ A.heap.size ≤ B.heap.size ∧ ∀ b, K b → B.heap[b]? = A.heap[b]?) ∨ (e = .returned (.bool false) ∧ Jx B)

def SeqOk (P : Program) (f k : Nat) (args : List V) (xss : List (List V)) : Prop := Callable P f ∧ (∀ xs ∈ xss, xs.length = k ∧ plainL xs = true) ∧
  ∀ (m : Nat) (w : World) (Fo : Nat → Prop) (cargs : List Value), (∀ b, Fo b → b < w.heap.size) → RepL ⟨Fo, w.heap.size, w, fun _ => False, true, fun _ => False⟩ w (fun _ => none) none args cargs →
    ∃ yss : List (List Value), yss.length = xss.length ∧ (∀ (i : Nat) xs ys, xss[i]? = some xs → yss[i]? = some ys → RepL ⟨Fo, w.heap.size, w, fun _ => False, true, fun _ => False⟩ w (fun _ => none) none xs ys) ∧
      ∀ (l : Nat) (J : Nat → (Nat → Prop) → World → Prop) (Jx : World → Prop) (W : World), Below w.heap.size w W → Rounds P (m - 1) l yss J Jx → J 0 Fo W →
        CallsIn Fence.wide m P f (#[.func (.yield l) #[] #[]] ++ cargs.toArray) W fun e W' => (∃ v, e = .returned v) ∧ ((∃ K, J yss.length K W') ∨ Jx W')

def SeqsOk (P : Program) (E : Env) : Prop := ∀ f as k xss, E.seq f as = some (k, xss) → SeqOk P f k as xss

structure OrcOk (P : Program) (E : Env) (O : Orc) : Prop where
  call : ∀ g args r, O.call g args = some r → CallOk P g args r
  inl : ∀ base g args st r st', O.inl base g args st = some (r, st') → InlOk P g args st r st'

section
variable {P : Program} {E : Env} {O : Orc} {C : Cx} {D : List Deferred} {outs : List (List Value)} {st st' : St} {a : Act} {w : World} {σ : Places} {ro : Option Nat} {m : Nat} {Q : Exit → Act → World → Prop}

theorem semAt_call {o : Oper} (hd : ∀ c, o.op ≠ .defer c) : Oper.semAt (W ro).round a.eval o = execOp a.eval o := Oper.semAt_eq _ _ _ hd

theorem wpIn_of_ran {o : Oper} {K : Act → World → Prop} {w' : World} {c : Value} (hd : ∀ c, o.op ≠ .defer c) (hr : Ran P o a w w' c) (h : K (a.put o.dst c) w') : o.wpIn (W ro) m P a w K Q := by
  refine ⟨fun _ _ => trivial, ?_⟩
  rw [semAt_call hd]
  rcases hr with hr | ⟨hr, rfl⟩
  · rw [hr]; exact h
  · rw [hr]; exact h

theorem execOp_call {o : Oper} {c : Call} {f : Operand} (ho : o.op = .call c) (hc : c.callee = .value f) {g : Nat} {first cap : Array Value} (hf : a.eval f = .func (.func g) first cap) (hg : Callable P g) :
    (execOp a.eval o).run P w = .ok (.enter g (first ++ c.args.map a.eval ++ cap)) w := by
  obtain ⟨fn, h1, h2, h3⟩ := hg
  unfold execOp
  rw [ho]
  simp only [_root_.Go.resolve, hc, hf, Deferred.ofValue, Sem.run_bind, Sem.run_pure, Result.andThen_ok, invoke, callFunc, run_program, h1, h3, Bool.false_eq_true, if_false, h2]

theorem lend_ok (h : Sim C D outs st a w σ) {args as' : List V} {cargs : List Value} (hr : RepL C w σ none args cargs) (he : qP st args = some as') :
    ∃ Fo : Nat → Prop, (∀ b, Fo b → b < w.heap.size) ∧ RepL ⟨Fo, w.heap.size, w, fun _ => False, true, fun _ => False⟩ w (fun _ => none) none as' cargs ∧ xS as' = true ∧
      (∀ b, Fo b → (¬ Held σ b ∧ ((C.B ≤ b ∧ ¬ C.H b) ∨ C.F b)) ∨ ∃ id ∈ reach st.objs depth (idsL args), ∃ bo es cap app, σ id = some (.blk b bo es cap app)) := by
  unfold qP at he
  obtain ⟨as2, h2, rfl⟩ := Option.map_eq_some_iff.1 he
  let Fo : Nat → Prop := fun b => b < w.heap.size ∧ ((¬ Held σ b ∧ ((C.B ≤ b ∧ ¬ C.H b) ∨ C.F b)) ∨ ∃ id ∈ reach st.objs depth (idsL args), ∃ bo es cap app, σ id = some (.blk b bo es cap app))
  have : ∃ σ1 : Places, ∀ b, Held σ1 b ↔ ¬ Fo b := by
    classical
    refine ⟨fun b => if Fo b then none else some (.blk b 0 0 0 false), fun b => ⟨?_, fun hb => ⟨b, _, if_neg hb, rfl⟩⟩⟩
    rintro ⟨id, l, hi, hlb⟩ hb
    dsimp only at hi
    split at hi
    · cases hi
    · rename_i hn; cases hi; cases hlb; exact hn hb
  obtain ⟨σ1, hσ1⟩ := this
  have ok1 : ∀ b, b < w.heap.size → Fo b → ∀ t, (t = true → ∃ cur e, w.heap[b]? = some (.cells cur e (0, 0))) → okB ⟨Fo, 0, w, fun _ => False, true, fun _ => False⟩ w σ1 t b := fun b hb hF t hu => ⟨fun hh => (hσ1 b).1 hh hF, hb, .inl ⟨Nat.zero_le _, fun hh => hh⟩, hu⟩
  obtain ⟨h3, h4⟩ := (resolve_ok (C' := ⟨Fo, 0, w, fun _ => False, true, fun _ => False⟩) (σ' := σ1) h (reach st.objs depth (idsL args))
    (fun t b hb => ok1 b hb.2.1 ⟨hb.2.1, .inl ⟨hb.1, by rcases hb.2.2.1 with h | h; exact .inl h; exact .inr h.2⟩⟩ t hb.2.2.2)
    (fun id hid b bo es cap app hl => ok1 b (h.held b (.of hl)).2 ⟨(h.held b (.of hl)).2, .inr ⟨id, hid, bo, es, cap, app, hl⟩⟩ true (fun _ => h.unfrozen hl)) depth).2
    args cargs as2 hr (fun i hi => hi) h2
  have h5 := RepL.into (m := none) false as2 (by simp) (by simp) h3
  have h6 : RepL ⟨Fo, w.heap.size, w, fun _ => False, true, fun _ => False⟩ w (fun _ => none) (some false) as2 cargs := RepL.any (fun b hb => by
    have hF : Fo b := Classical.byContradiction fun hn => hb.1 ((hσ1 b).2 hn)
    exact ⟨(fun ⟨_, _, hi, _⟩ => by cases hi), hb.2.1, .inr ⟨rfl, hF⟩, fun e => by cases e⟩) (fun _ _ _ => rfl) as2 h4 h5
  exact ⟨Fo, fun b hb => hb.1, RepL.outOf false as2 h6, by rw [refFreeL_retag]; exact h4, fun b hb => hb.2⟩

theorem upon_returned {F : Fence} {n : Nat} {g : Nat} {args : Array Value} {R : Ending → World → Prop} {K : Act → World → Prop} {o : Oper} (h : CallsIn F n P g args w R)
    (hr : ∀ e w', R e w' → ∃ c, e = .returned c ∧ K (a.put o.dst c) w') :
    CallsIn F n P g args w fun
      | .returned v, w'' => K (a.put o.dst v) w''
      | .panicked chain, w'' => Q (.panic chain) a w''
      | .outgrown, _ => LetsOut Q := h.mono fun e w' he => by
  obtain ⟨c, rfl, hk⟩ := hr e w' he
  exact hk

mutual
theorem Rep.plain {C C' : Cx} {w w' : World} {σ σ' : Places} {m m' : Option Bool} : ∀ (v : V) {c : Value}, plain v = true → Rep C w σ m v c → Rep C' w' σ' m' v c
  | .int .., _, _, h => h
  | .bool _, _, _, h => h
  | .lit _, _, _, h => h
  | .agg cs, _, hp, h => by
    simp only [Rep, AM.plain] at h hp ⊢
    obtain ⟨ds, rfl, hl, h1⟩ := h
    exact ⟨ds, rfl, RepL.plain cs hp hl, h1⟩
  | .tup cs, _, hp, h => by
    simp only [Rep, AM.plain] at h hp ⊢
    obtain ⟨ds, rfl, hl⟩ := h
    exact ⟨ds, rfl, RepL.plain cs hp hl⟩
  | .junk, _, _, _ => trivial
  | .und, _, hp, _ => by simp [AM.plain] at hp
  | .sl .., _, hp, _ => by simp [AM.plain] at hp
  | .full .., _, hp, _ => by simp [AM.plain] at hp
  | .emp, _, hp, _ => by simp [AM.plain] at hp
  | .fp .., _, hp, _ => by simp [AM.plain] at hp
  | .own .., _, hp, _ => by simp [AM.plain] at hp
  | .pre .., _, hp, _ => by simp [AM.plain] at hp
  | .ptr .., _, hp, _ => by simp [AM.plain] at hp
  | .mapr .., _, hp, _ => by simp [AM.plain] at hp
  | .clo .., _, hp, _ => by simp [AM.plain] at hp
theorem RepL.plain {C C' : Cx} {w w' : World} {σ σ' : Places} {m m' : Option Bool} : ∀ (vs : List V) {ds : List Value}, plainL vs = true → RepL C w σ m vs ds → RepL C' w' σ' m' vs ds
  | [], _, _, h => h
  | v :: vs, _, hp, h => by
    simp only [RepL, AM.plainL, Bool.and_eq_true] at h hp ⊢
    obtain ⟨d, r, rfl, hd, hr⟩ := h
    exact ⟨d, r, rfl, Rep.plain v hp.1 hd, RepL.plain vs hp.2 hr⟩
end

theorem thaw_one (h : Sim C D outs st a w σ) {w' : World} (hbel : Below w.heap.size w w') {Fo : Nat → Prop} {vs : List V} {cv : Value} {id es : Nat}
    (hrep : Rep ⟨Fo, w.heap.size, w, fun _ => False, true, fun _ => False⟩ w' (fun _ => none) none (.sl true vs) cv) (hp : plainL vs = true) (hs : sized es vs = true) (hes : 0 < es) :
    ∃ σ', Sim C D outs (st.alloc id { es := es, flat := true, t := true, app := false, elems := vs }) a w' σ' ∧ Rep C w' σ' none (.own id 0 vs.length) cv := by
  obtain ⟨hf, p, cap, rfl, hle, hv⟩ := hrep
  rcases hv with rfl | ⟨b, off, es', ds, rfl, hb, hl, hw, hes', hlie⟩
  · refine ⟨_, h.alloc id (.virt false) hbel (fun _ e => by cases e) _ ⟨rfl, rfl, hes⟩ (fun _ => rfl), ?_⟩
    simp only [Rep, setP_same]
    exact ⟨trivial, rfl, p, cap, rfl, fun e => by cases e⟩
  · rcases Nat.eq_zero_or_pos ds.length with h0 | h0
    · have hvs : vs = [] := List.eq_nil_of_length_eq_zero (by rw [← hl.length, h0])
      subst hvs
      refine ⟨_, h.alloc id (.virt false) hbel (fun _ e => by cases e) _ ⟨rfl, rfl, hes⟩ (fun _ => rfl), ?_⟩
      simp only [Rep, setP_same]
      exact ⟨trivial, rfl, _, cap, rfl, fun e => by cases e⟩
    · have hee : es' = es := by
        have hm : ds[0]'h0 ∈ ds := List.getElem_mem _
        exact (hw _ hm).1.symm.trans (sized_wf hs hl _ hm).1
      subst hee
      obtain ⟨cur, e, hg⟩ := hb.2.2.2 rfl
      have hwb : w.heap.size ≤ b := by
        rcases hb.2.2.1 with h3 | h3
        · exact h3.1
        · cases h3.1
      refine ⟨_, h.alloc id (.blk b off es' 0 false) hbel (fun b' e => by cases e; exact ⟨hwb, hb.2.1⟩) _ ?_ (fun _ => hf), ?_⟩
      · refine ⟨rfl, hes, rfl, cur, e, ds, hg, RepL.plain vs hp hl, hw, fun i d r u hd hu => ?_, fun e => by cases e⟩
        have := hlie i d r u hd hu
        rw [cell_of_row w' b _ cur e (0, 0) hg] at this
        simpa using this
      · simp only [Rep, setP_same]
        exact ⟨_, cap, rfl, hle, .inr ⟨by simp, fun e => by cases e⟩⟩

theorem frame_ok (hO : OrcOk P E O) (h : Sim C D outs st a w σ) {g : Nat} {as : List V} {cargs : List Value} {dst : Option Nat} (hargs : RepL C w σ none as cargs) (he : qZ O dst g as st = some st') :
    Callable P g ∧ ∀ m, CallsIn Fence.wide m P g cargs.toArray w fun e w' => ∃ c σ', e = .returned c ∧ Sim C D outs st' (a.put dst c) w' σ' := by
  classical
  unfold qZ at he
  obtain ⟨R, hR⟩ : ∃ R, R = reach st.objs depth (idsL as) := ⟨_, rfl⟩
  have hasR : ∀ j ∈ idsL as, j ∈ R := fun j hj => hR ▸ reach_self _ _ _ _ hj
  rw [← hR] at he
  split at he
  case isFalse => cases he
  rename_i hcf
  rw [Bool.and_eq_true] at hcf
  obtain ⟨hcl, hfix⟩ := hcf
  unfold xF at he
  split at he
  case h_2 => cases he
  rename_i r s hinl
  split at he
  case h_2 => cases he
  rename_i w1 hout
  split at he
  case isFalse => cases he
  rename_i hchk
  simp only [Bool.and_eq_true] at hchk
  obtain ⟨⟨⟨hwit, hes⟩, hcl2⟩, hnew⟩ := hchk
  cases he
  have hw1 := sameWit_eq hwit
  subst hw1
  obtain ⟨S, hS⟩ : ∃ S, S = R ++ reach s.objs depth (ids r) := ⟨_, rfl⟩
  rw [← hS] at hcl2 ⊢
  have hrS : ∀ j ∈ ids r, j ∈ S := fun j hj => hS ▸ List.mem_append_right _ (reach_self _ _ _ _ hj)
  have hRS : ∀ j ∈ R, j ∈ S := fun j hj => hS ▸ List.mem_append_left _ hj
  have hSnew : ∀ j ∈ S, j ∉ R → look st.objs j = none := fun j hj hn => by
    rw [hS] at hj
    rcases List.mem_append.1 hj with h1 | h1
    · exact absurd h1 hn
    · have := List.all_eq_true.1 hnew j h1
      simp only [Bool.or_eq_true, List.contains_iff_mem, Option.isNone_iff_eq_none] at this
      exact this.resolve_left hn
  -- the zJ sets
  have cl1 : ∀ j ∈ R, ∃ ob, look st.objs j = some ob ∧ (ob.flat = true ∨ ∀ i ∈ idsL ob.elems, i ∈ R) ∧ ob.app = false ∧ (ob.es = 0 ∨ ob.elems ≠ []) := fun j hj => by
    have h1 := List.all_eq_true.1 hcl j hj
    have h2 := List.all_eq_true.1 hfix j hj
    cases ho : look st.objs j with
    | none => rw [ho] at h1; cases h1
    | some ob =>
      rw [ho] at h1 h2
      simp only [Bool.or_eq_true, List.all_eq_true, List.contains_iff_mem, Bool.and_eq_true, Bool.not_eq_true', beq_iff_eq, List.isEmpty_eq_false_iff] at h1 h2
      exact ⟨ob, rfl, h1, h2.1, h2.2⟩
  have cl2 : ∀ j ∈ S, ∃ ob, look s.objs j = some ob ∧ (ob.flat = true ∨ ∀ i ∈ idsL ob.elems, i ∈ S) := fun j hj => by
    have h1 := List.all_eq_true.1 hcl2 j hj
    cases ho : look s.objs j with
    | none => rw [ho] at h1; cases h1
    | some ob =>
      rw [ho] at h1
      simp only [Bool.or_eq_true, List.all_eq_true, List.contains_iff_mem] at h1
      exact ⟨ob, rfl, h1⟩
  have es2 : ∀ j ∈ R, ∀ ob ob', look st.objs j = some ob → look s.objs j = some ob' → ob.es = ob'.es ∧ ob'.app = false := fun j hj ob ob' h1 h2 => by
    have h3 := List.all_eq_true.1 hes j hj
    rw [h1, h2] at h3
    simpa using h3
  -- what the callee sees
  obtain ⟨σR, hσR⟩ : ∃ σR : Places, σR = fun j => if j ∈ R then σ j else none := ⟨_, rfl⟩
  have sR : ∀ j, j ∈ R → σR j = σ j := fun j hj => by rw [hσR]; exact if_pos hj
  have sN : ∀ j, j ∉ R → σR j = none := fun j hj => by rw [hσR]; exact if_neg hj
  have sOr : ∀ j, σR j = none ∨ σR j = σ j := fun j => by by_cases hj : j ∈ R; exact .inr (sR j hj); exact .inl (sN j hj)
  have sub : ∀ {b}, Held σR b → Held σ b := fun hb => hb.sub sOr
  let C1 : Cx := ⟨C.F, C.B, w, fun b => b < w.heap.size ∧ ¬ Held σR b, true, fun b => C.H b ∨ (Held σ b ∧ ¬ Held σR b)⟩
  have hid1 : ∀ b, C1.H b → C1.Z b := fun b hb => by
    rcases hb with hb | hb
    · obtain ⟨h1, h2, _⟩ := h.still.zed b (h.still.hid b hb)
      exact ⟨h2, fun hh => h1 (sub hh)⟩
    · exact ⟨(h.held b hb.1).2, hb.2⟩
  have ok1 : ∀ t b, okB C w σ t b → okB C1 w σR t b := fun t b hb =>
    ⟨fun hh => hb.1 (sub hh), hb.2.1, hb.2.2.1.imp_left fun h' => ⟨h'.1, fun hh => hh.elim h'.2 fun q => hb.1 q.1⟩, hb.2.2.2⟩
  have cc1 : ∀ (t : Bool) (b o : Nat), okB C w σ t b → w.cell? ⟨b, o, none⟩ = w.cell? ⟨b, o, none⟩ := fun _ _ _ _ => rfl
  have hs1 : ∀ j l, j ∈ R → σ j = some l → ∃ l', σR j = some l' ∧ AtEq l l' := fun j l hj hl => ⟨l, (sR j hj).trans hl, .inl rfl⟩
  have repw : ∀ l : List Nat, (∀ j ∈ l, j ∈ R) → ∃ wc, RepL C1 w σR none (l.map (wit st.objs)) wc := fun l => by
    induction l with
    | nil => exact fun _ => ⟨[], rfl⟩
    | cons j l ih =>
      intro hl
      obtain ⟨wc, hwc⟩ := ih fun i hi => hl i (List.mem_cons_of_mem _ hi)
      have hj := hl j List.mem_cons_self
      obtain ⟨ob, ho, _, happ, hne⟩ := cl1 j hj
      obtain ⟨loc, hloc, hr, _⟩ := h.objs j ob ho
      have hd : ∃ d, Rep C1 w σR none (wit st.objs j) d := by
        unfold wit
        rw [ho]
        dsimp only
        cases loc with
        | virt app => obtain ⟨h1, _, h3⟩ := hr; rcases hne with h4 | h4; omega; exact absurd h1 h4
        | blk b bo es cap app =>
          rw [if_neg (by have := hr.1; have := hr.2.1; omega)]
          exact ⟨.pointer (some ⟨b, bo + 0 * es + 0, none⟩), by simp only [Rep, sR j hj, hloc]⟩
        | mp b =>
          rw [if_pos hr.1]
          exact ⟨.map (some b), by simp only [Rep, sR j hj, hloc]⟩
      obtain ⟨d, hd⟩ := hd
      exact ⟨d :: wc, d, wc, rfl, hd, hwc⟩
  obtain ⟨wc, hwc⟩ := repw R fun _ hj => hj
  have lookp : ∀ {id ob}, look (pickR R st.objs) id = some ob → id ∈ R ∧ look st.objs id = some ob := fun {id ob} hi => by
    rw [look_pickR] at hi
    split at hi
    · rename_i hc; exact ⟨by simpa using hc, hi⟩
    · cases hi
  have hsim : Sim C1 [] [wc] { slots := [], outer := [R.map (wit st.objs)], objs := pickR R st.objs } ⟨#[], []⟩ w σR := by
    refine ⟨rfl, ⟨wc, [], rfl, hwc, rfl⟩, fun id ob hi => ?_, fun id hi => ?_, fun i j li lj b hi hj hbi hbj => ?_, fun b hb => h.held b (sub hb), Below.refl _ _, h.base, h.old, Still.refl (fun b hb => ⟨hb.2, hb.1, rfl⟩) hid1⟩
    · obtain ⟨hin, ho⟩ := lookp hi
      obtain ⟨loc, hloc, hr, hf⟩ := h.objs id ob ho
      obtain ⟨ob', ho', hcl', _⟩ := cl1 id hin
      rw [ho] at ho'
      cases ho'
      exact ⟨loc, (sR id hin).trans hloc, ObRep.over (S := fun j => j ∈ R) hr (.inl rfl) ok1 cc1 hs1 hcl' hf (fun _ _ => rfl), hf⟩
    · by_cases hin : id ∈ R
      · obtain ⟨ob, ho, _⟩ := cl1 id hin
        exfalso
        rw [show ({ slots := [], outer := [R.map (wit st.objs)], objs := pickR R st.objs } : St).objs = pickR R st.objs from rfl, look_pickR, if_pos (by simpa using hin), ho] at hi
        cases hi
      · exact sN id hin
    · have hi' := (sOr i).resolve_left (by rw [hi]; simp)
      have hj' := (sOr j).resolve_left (by rw [hj]; simp)
      exact h.inj i j li lj b (hi' ▸ hi) (hj' ▸ hj) hbi hbj
  have hargs1 : RepL C1 w σR none as cargs := RepL.over (S := fun j => j ∈ R) ok1 cc1 hs1 as hasR hargs
  obtain ⟨hg, hcall⟩ := hO.inl _ _ _ _ _ _ hinl
  refine ⟨hg, fun m => (hcall m C1 [wc] w σR cargs rfl hsim hargs1).mono ?_⟩
  rintro e w' ⟨c, σ', rfl, hs', hrep⟩
  have hgrow : w.heap.size ≤ w'.heap.size := hs'.below.size
  have zed : ∀ b, b < w.heap.size → ¬ Held σR b → ¬ Held σ' b ∧ b < w'.heap.size ∧ w'.heap[b]? = w.heap[b]? := fun b h1 h2 => hs'.still.zed b ⟨h1, h2⟩
  have zed' : ∀ b, b < w.heap.size → ¬ Held σ b → ¬ Held σ' b ∧ b < w'.heap.size ∧ w'.heap[b]? = w.heap[b]? := fun b h1 h2 => zed b h1 fun hh => h2 (sub hh)
  -- the places of what it saw
  have hkeep : ∀ j ∈ R, ∃ l l', σ j = some l ∧ σ' j = some l' ∧ AtEq l' l := fun j hj => by
    obtain ⟨ob, ho, _, happ, hne⟩ := cl1 j hj
    obtain ⟨ob', ho', _⟩ := cl2 j (hRS j hj)
    obtain ⟨hee, happ'⟩ := es2 j hj ob ob' ho ho'
    obtain ⟨l, hl, hr, _⟩ := h.objs j ob ho
    obtain ⟨l', hl', hr', _⟩ := hs'.objs j ob' ho'
    refine ⟨l, l', hl, hl', ?_⟩
    have hsw := hs'.outer
    rw [show ({ s with slots := [] } : St).outer = s.outer from rfl, hout] at hsw
    obtain ⟨d0, q0, hdq, hsw, _⟩ := hsw
    simp only [List.cons.injEq] at hdq
    obtain ⟨rfl, _⟩ := hdq
    obtain ⟨i, hi⟩ := List.mem_iff_getElem?.1 hj
    have hwi : (R.map (wit st.objs))[i]? = some (wit st.objs j) := by rw [List.getElem?_map, hi]; rfl
    obtain ⟨d, hd, h1⟩ := hwc.get i hwi
    obtain ⟨d', hd', h2⟩ := hsw.get i hwi
    rw [hd] at hd'
    cases hd'
    unfold wit at h1 h2
    rw [ho] at h1 h2
    dsimp only at h1 h2
    by_cases he0 : ob.es = 0
    · rw [if_pos he0] at h1 h2
      simp only [Rep, sR j hj, hl] at h1
      simp only [Rep, hl'] at h2
      cases l with
      | virt app => exact h1.elim
      | blk b bo es cap app => exact h1.elim
      | mp b =>
        cases l' with
        | virt app => exact h2.elim
        | blk b bo es cap app => exact h2.elim
        | mp b' =>
          simp only at h1 h2
          rw [h1] at h2
          cases h2
          exact .inl rfl
    · rw [if_neg he0] at h1 h2
      simp only [Rep, sR j hj, hl] at h1
      simp only [Rep, hl'] at h2
      cases l with
      | virt app => exact h1.elim
      | mp b => exact h1.elim
      | blk b bo es cap app =>
        cases l' with
        | virt app => exact h2.elim
        | mp b => exact h2.elim
        | blk b' bo' es' cap' app' =>
          simp only at h1 h2
          rw [h1] at h2
          simp only [Nat.zero_mul, Nat.add_zero, Value.pointer.injEq, Option.some.injEq, Addr.mk.injEq, and_true] at h2
          obtain ⟨rfl, rfl⟩ := h2
          have e1 : es = es' := by rw [← hr.1, ← hr'.1]; exact hee
          have e2 : app = false := by rw [← hr.2.2.1]; exact happ
          have e3 : app' = false := by rw [← hr'.2.2.1]; exact happ'
          subst e1; subst e2; subst e3
          exact .inr ⟨_, _, _, _, _, rfl, rfl⟩
  obtain ⟨σ2, hσ2⟩ : ∃ σ2 : Places, σ2 = fun j => if j ∈ S ∧ j ∉ R then σ' j else σ j := ⟨_, rfl⟩
  have t1 : ∀ j, j ∈ S → j ∉ R → σ2 j = σ' j := fun j h1 h2 => by rw [hσ2]; exact if_pos ⟨h1, h2⟩
  have t2 : ∀ j, (j ∉ S ∨ j ∈ R) → σ2 j = σ j := fun j h1 => by rw [hσ2]; exact if_neg fun hh => h1.elim (fun q => q hh.1) (fun q => hh.2 q)
  -- a block that is held now
  have held2 : ∀ j l b, σ2 j = some l → l.block = some b → (Held σ' b ∧ j ∈ S) ∨ (j ∉ S ∧ σ j = some l ∧ Held σ b ∧ ¬ Held σR b) := fun j l b hj hb => by
    by_cases h1 : j ∈ S
    · by_cases h2 : j ∈ R
      · obtain ⟨l0, l', h3, h4, h5⟩ := hkeep j h2
        rw [t2 j (.inr h2), h3] at hj
        cases hj
        exact .inl ⟨⟨j, l', h4, h5.block ▸ hb⟩, h1⟩
      · rw [t1 j h1 h2] at hj
        exact .inl ⟨⟨j, l, hj, hb⟩, h1⟩
    · rw [t2 j (.inl h1)] at hj
      refine .inr ⟨h1, hj, ⟨j, l, hj, hb⟩, fun ⟨i, li, hi, hbi⟩ => ?_⟩
      have hiR : i ∈ R := Classical.byContradiction fun hn => by rw [sN i hn] at hi; cases hi
      rw [sR i hiR] at hi
      have := h.inj i j li l b hi hj hbi hb
      subst this
      exact h1 (hRS i hiR)
  have ok2 : ∀ t b, okB C w σ t b → okB C w' σ2 t b := fun t b hb => by
    refine ⟨fun ⟨j, l, hj, hlb⟩ => ?_, Nat.lt_of_lt_of_le hb.2.1 hgrow, hb.2.2.1, fun e => by rw [(zed' b hb.2.1 hb.1).2.2]; exact hb.2.2.2 e⟩
    rcases held2 j l b hj hlb with ⟨h1, _⟩ | ⟨_, _, h1, _⟩
    · exact (zed' b hb.2.1 hb.1).1 h1
    · exact hb.1 h1
  have cc2 : ∀ (t : Bool) (b o : Nat), okB C w σ t b → w'.cell? ⟨b, o, none⟩ = w.cell? ⟨b, o, none⟩ := fun t b o hb => cell_of_heap (zed' b hb.2.1 hb.1).2.2 o
  have ok3 : ∀ t b, okB C1 w' σ' t b → okB C w' σ2 t b := fun t b hb => by
    refine ⟨fun ⟨j, l, hj, hlb⟩ => ?_, hb.2.1, hb.2.2.1.imp_left fun h' => ⟨h'.1, fun hh => h'.2 (.inl hh)⟩, hb.2.2.2⟩
    rcases held2 j l b hj hlb with ⟨h1, _⟩ | ⟨_, _, h1, h2⟩
    · exact hb.1 h1
    · rcases hb.2.2.1 with h3 | h3
      · exact h3.2 (.inr ⟨h1, h2⟩)
      · have h4 : b < C.B := h.old b h3.2
        have h5 : C.B ≤ b := (h.held b h1).1
        omega
  have cc3 : ∀ (t : Bool) (b o : Nat), okB C1 w' σ' t b → w'.cell? ⟨b, o, none⟩ = w'.cell? ⟨b, o, none⟩ := fun _ _ _ _ => rfl
  have so : ∀ j l, σ j = some l → ∃ l', σ2 j = some l' ∧ AtEq l l' := fun j l hl => by
    refine ⟨l, ?_, .inl rfl⟩
    rw [t2 j ?_]
    · exact hl
    · refine Classical.byContradiction fun hn => ?_
      have h1 : j ∈ S ∧ j ∉ R := ⟨Classical.byContradiction fun q => hn (.inl q), fun q => hn (.inr q)⟩
      rw [h.dom j (hSnew j h1.1 h1.2)] at hl
      cases hl
  have sn : ∀ j l, j ∈ S → σ' j = some l → ∃ l', σ2 j = some l' ∧ AtEq l l' := fun j l hj hl => by
    by_cases h2 : j ∈ R
    · obtain ⟨l0, l', h3, h4, h5⟩ := hkeep j h2
      rw [hl] at h4
      cases h4
      exact ⟨l0, (t2 j (.inr h2)).trans h3, h5⟩
    · exact ⟨l, (t1 j hj h2).trans hl, .inl rfl⟩
  have lookm : ∀ id, look (xH st.objs (xG S s.objs)) id = if id ∈ S then look s.objs id else look st.objs id := fun id => by
    rw [look_putObs, look_pick]
    by_cases h1 : id ∈ S
    · obtain ⟨ob, ho, _⟩ := cl2 id h1
      rw [if_pos (by simpa using h1), if_pos h1, ho]
    · rw [if_neg (by simpa using h1), if_neg h1]
  refine ⟨c, σ2, rfl, Sim.put ⟨?_, ?_, fun id ob hi => ?_, fun id hi => ?_, fun i j li lj b hi hj hbi hbj => ?_, fun b hb => ?_, h.below.trans hs'.below, Nat.le_trans h.base hgrow, h.old, ?_⟩ (Rep.over (S := fun j => j ∈ S) ok3 cc3 sn r hrS hrep)⟩
  · exact RepL.over (S := fun _ => True) ok2 cc2 (fun j l _ => so j l) _ (fun _ _ => trivial) h.slots
  · exact RepLL.over ok2 cc2 so h.outer
  · rw [show ({ st with objs := xH st.objs (xG S s.objs) } : St).objs = xH st.objs (xG S s.objs) from rfl, lookm] at hi
    by_cases h1 : id ∈ S
    · rw [if_pos h1] at hi
      obtain ⟨l, hl, hr, hf⟩ := hs'.objs id ob hi
      obtain ⟨l', hl', hat⟩ := sn id l h1 hl
      obtain ⟨ob', ho', hcl'⟩ := cl2 id h1
      rw [hi] at ho'
      cases ho'
      exact ⟨l', hl', ObRep.over (S := fun j => j ∈ S) hr hat ok3 cc3 sn hcl' hf (fun _ _ => rfl), hf⟩
    · rw [if_neg h1] at hi
      obtain ⟨l, hl, hr, hf⟩ := h.objs id ob hi
      have hl2 : σ2 id = some l := (t2 id (.inl h1)).trans hl
      refine ⟨l, hl2, ObRep.over (S := fun _ => True) hr (.inl rfl) ok2 cc2 (fun j l _ => so j l) (.inr fun _ _ => trivial) hf (fun b hb => ?_), hf⟩
      rcases held2 id l b hl2 hb with ⟨_, h2⟩ | ⟨_, _, h2, h3⟩
      · exact absurd h2 h1
      · exact (zed b (h.held b h2).2 h3).2.2
  · rw [show ({ st with objs := xH st.objs (xG S s.objs) } : St).objs = xH st.objs (xG S s.objs) from rfl, lookm] at hi
    by_cases h1 : id ∈ S
    · rw [if_pos h1] at hi
      obtain ⟨ob, ho, _⟩ := cl2 id h1
      rw [hi] at ho
      cases ho
    · rw [if_neg h1] at hi
      rw [t2 id (.inl h1)]
      exact h.dom id hi
  · rcases held2 i li b hi hbi with ⟨h1, h2⟩ | ⟨h1, h2, h3, h4⟩ <;> rcases held2 j lj b hj hbj with ⟨h5, h6⟩ | ⟨h5, h6, h7, h8⟩
    · have at1 : ∀ i li, i ∈ S → σ2 i = some li → li.block = some b → ∃ l', σ' i = some l' ∧ l'.block = some b := fun i li hiS hi hbi => by
        by_cases q : i ∈ R
        · obtain ⟨l0, l', q1, q2, q3⟩ := hkeep i q
          rw [t2 i (.inr q), q1] at hi
          cases hi
          exact ⟨l', q2, q3.block ▸ hbi⟩
        · exact ⟨li, (t1 i hiS q) ▸ hi, hbi⟩
      obtain ⟨l1, e1, e2⟩ := at1 i li h2 hi hbi
      obtain ⟨l2, e3, e4⟩ := at1 j lj h6 hj hbj
      exact hs'.inj i j l1 l2 b e1 e3 e2 e4
    · exact absurd h1 (zed b (h.held b h7).2 h8).1
    · exact absurd h5 (zed b (h.held b h3).2 h4).1
    · exact h.inj i j li lj b h2 h6 hbi hbj
  · obtain ⟨j, l, hj, hlb⟩ := hb
    rcases held2 j l b hj hlb with ⟨h1, _⟩ | ⟨_, _, h1, _⟩
    · exact hs'.held b h1
    · exact ⟨(h.held b h1).1, Nat.lt_of_lt_of_le (h.held b h1).2 hgrow⟩
  · refine h.still.mono (fun b hb hh => ?_) hgrow (fun b hb hn => (zed' b hb hn).2.2)
    obtain ⟨j, l, hj, hlb⟩ := hh
    rcases held2 j l b hj hlb with ⟨h1, _⟩ | ⟨_, _, h1, _⟩
    · exact Classical.byContradiction fun hn => (zed' b hb hn).1 h1
    · exact h1

theorem reach_nothing (objs : List (Nat × Ob)) : ∀ n, reach objs n [] = []
  | 0 => rfl
  | n + 1 => by simp only [reach, List.flatMap_nil, List.nil_append]; exact reach_nothing objs n

theorem fresh_ok (hO : OrcOk P E O) (h : Sim C D outs st a w σ) {g id d : Nat} {as as' : List V} {cargs : List Value} (hargs : RepL C w σ none as cargs) (hlend : qP st as = some as') (hids : idsL as = [])
    (he : freshed id d st (O.inl 1000 g as' { slots := [], outer := [], objs := [] }) = some st') :
    Callable P g ∧ ∀ m, CallsIn Fence.wide m P g cargs.toArray w fun e w' => ∃ c σ', e = .returned c ∧ Sim C D outs st' (a.put (some d) c) w' σ' := by
  cases hinl : O.inl 1000 g as' { slots := [], outer := [], objs := [] } with
  | none => rw [hinl] at he; cases he
  | some p =>
    obtain ⟨r, s⟩ := p
    rw [hinl] at he
    obtain ⟨hg, hcall⟩ := hO.inl _ _ _ _ _ _ hinl
    obtain ⟨Fo, hFo, hrep', _, hFo2⟩ := lend_ok h hargs hlend
    have hFo3 : ∀ b, Fo b → ¬ Held σ b ∧ ((C.B ≤ b ∧ ¬ C.H b) ∨ C.F b) := fun b hb => by
      rcases hFo2 b hb with h1 | ⟨i, hi, _⟩
      · exact h1
      · rw [hids, reach_nothing] at hi; cases hi
    have h0 : ∀ b, ¬ Held (fun _ => none) b := fun b ⟨_, _, hi, _⟩ => by cases hi
    have hsim : Sim ⟨Fo, w.heap.size, w, fun _ => False, true, fun _ => False⟩ [] [] { slots := [], outer := [], objs := [] } ⟨#[], []⟩ w (fun _ => none) :=
      ⟨rfl, rfl, fun _ _ hi => (by cases hi), fun _ _ => rfl, fun _ _ _ _ _ hi => (by cases hi), fun b hb => absurd hb (h0 b), Below.refl _ _, Nat.le_refl _, hFo, Still.refl (fun _ hb => hb.elim) (fun _ hb => hb)⟩
    refine ⟨hg, fun m => (hcall m _ [] w (fun _ => none) cargs rfl hsim hrep').mono ?_⟩
    rintro e w' ⟨c, σ', rfl, hs', hrep⟩
    have hbel : Below w.heap.size w w' := hs'.below
    have hw := h.world hbel
    have okf : ∀ (σ2 : Places), (∀ b, Held σ2 b → Held σ b ∨ Held σ' b) → ∀ t b, okB ⟨Fo, w.heap.size, w, fun _ => False, true, fun _ => False⟩ w' σ' t b → okB C w' σ2 t b := fun σ2 hσ2 t b hb => by
      have hn : ¬ Held σ2 b := fun hh => by
        rcases hσ2 b hh with h1 | h1
        · rcases hb.2.2.1 with ⟨h2, _⟩ | ⟨_, h2⟩
          · have := (h.held b h1).2
            have h2' : w.heap.size ≤ b := h2
            omega
          · exact (hFo3 b h2).1 h1
        · exact hb.1 h1
      refine ⟨hn, hb.2.1, ?_, hb.2.2.2⟩
      rcases hb.2.2.1 with ⟨h2, _⟩ | ⟨ht, h2⟩
      · have h2' : w.heap.size ≤ b := h2
        exact .inl ⟨Nat.le_trans h.base h2', h.lain h2'⟩
      · rcases (hFo3 b h2).2 with h3 | h3
        · exact .inl h3
        · exact .inr ⟨ht, h3⟩
    have plain : refFree r = true → st' = st.put (some d) r → ∃ c' σ2, Ending.returned c = .returned c' ∧ Sim C D outs st' (a.put (some d) c') w' σ2 := fun hf hst => by
      subst hst
      exact ⟨c, σ, rfl, hw.put (Rep.free (okf σ fun b hb => .inl hb) (fun _ _ _ _ => rfl) r hf hrep)⟩
    unfold freshed at he
    split at he
    · rename_i j off len s' heq
      simp only [Option.some.injEq, Prod.mk.injEq] at heq
      obtain ⟨rfl, rfl⟩ := heq
      split at he
      case h_2 => cases he
      rename_i ob hob
      split at he
      case isFalse => cases he
      rename_i hc
      obtain ⟨hflat, rfl, rfl⟩ := hc
      cases he
      obtain ⟨loc, hloc, hobr, hff⟩ := hs'.objs j ob hob
      have hheld : ∀ b, Held (setP σ id loc) b → Held σ b ∨ Held σ' b := fun b hb => by
        rcases hb.setP with hb | e
        · exact .inl hb
        · exact .inr ⟨j, loc, hloc, e⟩
      have hel : ∀ {m : Option Bool} {ds : List Value}, RepL ⟨Fo, w.heap.size, w, fun _ => False, true, fun _ => False⟩ w' σ' m ob.elems ds → RepL C w' (setP σ id loc) m ob.elems ds := fun hr => RepL.free (okf _ hheld) (fun _ _ _ _ => rfl) _ (hff hflat) hr
      have hobr2 : ObRep C w' (setP σ id loc) ob loc := by
        cases loc with
        | virt app => exact hobr
        | blk b bo es cap app =>
          obtain ⟨q1, q2, q3, cur, e', ds, hgc, hl, hr⟩ := hobr
          exact ⟨q1, q2, q3, cur, e', ds, hgc, hel hl, hr⟩
        | mp b =>
          obtain ⟨q1, q2, q3, es, ck, hgc, hl⟩ := hobr
          exact ⟨q1, q2, q3, es, ck, hgc, hel hl⟩
      refine ⟨c, setP σ id loc, rfl, (h.alloc id loc hbel (fun b hb => hs'.held b ⟨j, loc, hloc, hb⟩) ob hobr2 hff).put ?_⟩
      simp only [Rep, hloc] at hrep
      simp only [Rep, setP_same]
      exact hrep
    · rename_i r' s' hnot heq
      simp only [Option.some.injEq, Prod.mk.injEq] at heq
      obtain ⟨rfl, rfl⟩ := heq
      split at he
      case isFalse => cases he
      rename_i hf
      cases he
      exact plain hf rfl
    · rename_i heq; cases heq

theorem evCall_ok (hO : OrcOk P E O) {fc : FC} {base : Nat} (h : Sim C D outs st a w σ) {o : Oper} {c : Call} {f : Operand} (ho : o.op = .call c) (hc : c.callee = .value f)
    (he : evCall E O fc base o.dst (st.eval f) (c.args.toList.map st.eval) st = some st') {K : Act → World → Prop} (hK : ∀ a' w' σ', Sim C D outs st' a' w' σ' → K a' w') :
    o.wpIn (W ro) m P a w K Q := by
  have hd : ∀ c, o.op ≠ .defer c := fun c e => by rw [ho] at e; cases e
  have hf := h.eval f
  unfold evCall at he
  split at he
  case h_2 => cases he
  rename_i g first cap hfe
  rw [hfe] at hf
  obtain ⟨fa, fb, hfv, hfa, hfb⟩ := hf
  have hargs : RepL C w σ none (first ++ c.args.toList.map st.eval ++ cap) (fa ++ c.args.toList.map a.eval ++ fb) := (hfa.app (repL_eval h _)).app hfb
  have harr : (fa ++ c.args.toList.map a.eval ++ fb).toArray = fa.toArray ++ c.args.map a.eval ++ fb.toArray := by
    apply Array.toList_inj.1; simp
  have enter : ∀ {R : Ending → World → Prop}, Callable P g → CallsIn Fence.wide (m - 1) P g (fa ++ c.args.toList.map a.eval ++ fb).toArray w R → (∀ e w', R e w' → ∃ c, e = .returned c ∧ K (a.put o.dst c) w') → o.wpIn (W ro) m P a w K Q := by
    intro R hg hcall hr
    refine ⟨fun _ _ => trivial, ?_⟩
    rw [semAt_call hd, execOp_call ho hc hfv hg, ← harr]
    refine ⟨fun hh => by simp [W, Fence.wide] at hh, ?_⟩
    exact upon_returned (F := W ro) hcall hr
  dsimp only at he
  split at he
  · -- on the caller's objects
    split at he
    · split at he
      · unfold evFresh at he
        split at he
        case h_2 => cases he
        rename_i d as' hd2 hlend
        split at he
        case isFalse => cases he
        rename_i hids
        obtain ⟨hg, hcall⟩ := fresh_ok hO h hargs hlend hids he
        refine enter hg (hcall (m - 1)) ?_
        rintro e w' ⟨cv, σ', rfl, hs'⟩
        rw [hd2]
        exact ⟨cv, rfl, hK _ _ σ' hs'⟩
      obtain ⟨hg, hcall⟩ := frame_ok hO h hargs he
      refine enter hg (hcall (m - 1)) ?_
      rintro e w' ⟨cv, σ', rfl, hs'⟩
      exact ⟨cv, rfl, hK _ _ σ' hs'⟩
    split at he
    case h_2 => cases he
    rename_i r s hinl
    split at he
    case h_2 => cases he
    rename_i sl out hout
    cases he
    obtain ⟨hg, hcall⟩ := hO.inl _ _ _ _ _ _ hinl
    have hf1 : Sim (C.at w σ true) a.defers outs st a w σ := h.focus true rfl
    have hsim : Sim (C.at w σ true) [] (a.tmps.toList :: outs) { st with slots := [], outer := st.slots :: st.outer } ⟨#[], []⟩ w σ :=
      ⟨rfl, ⟨_, _, rfl, hf1.slots, hf1.outer⟩, hf1.objs, hf1.dom, hf1.inj, hf1.held, hf1.below, hf1.base, hf1.old, Still.refl hf1.still.zed hf1.still.hid⟩
    refine enter hg (hcall (m - 1) (C.at w σ true) _ w σ _ rfl hsim (hargs.at (C := C))) ?_
    rintro e w' ⟨cv, σ', rfl, hs', hrep⟩
    refine ⟨cv, rfl, hK _ _ σ' ?_⟩
    have hso := hs'.outer
    rw [hout] at hso
    obtain ⟨d, q, hdq, hsl, hot⟩ := hso
    simp only [List.cons.injEq] at hdq
    obtain ⟨rfl, rfl⟩ := hdq
    have hs1 : Sim (C.at w σ true) a.defers outs { s with slots := sl, outer := out } a w' σ' := ⟨hsl, hot, hs'.objs, hs'.dom, hs'.inj, hs'.held, hs'.below, hs'.base, hs'.old, Still.refl hs'.still.zed hs'.still.hid⟩
    have hs2 : Sim C D outs { s with slots := sl, outer := out } a w' σ' := hs1.back h.below h.still rfl rfl
    exact hs2.put hrep.of_at
  · split at he
    case h_2 => cases he
    rename_i as' hlend
    split at he
    case h_2 => cases he
    rename_i r hcallr
    split at he
    case isFalse => cases he
    rename_i hrf
    obtain ⟨hg, hcall⟩ := hO.call _ _ _ hcallr
    obtain ⟨Fo, hFo, hrep', hrf', hFo2⟩ := lend_ok h hargs hlend
    refine enter hg (hcall (m - 1) w Fo _ hFo hrep') ?_
    rintro e w' ⟨cv, rfl, hbel, hrep, _⟩
    refine ⟨cv, rfl, ?_⟩
    have hw := h.world hbel
    -- the result, read in the caller's context
    have hcr : ∀ (b o : Nat), w'.cell? ⟨b, o, none⟩ = w'.cell? ⟨b, o, none⟩ := fun _ _ => rfl
    obtain ⟨σ2, hs2, hr2⟩ : ∃ σ2, Sim C D outs (if isNew r = true then st else st.dropL (reach st.objs depth (idsL (first ++ c.args.toList.map st.eval ++ cap)))) a w' σ2 ∧ Rep C w' σ2 none r cv := by
      by_cases hnew : isNew r = true
      · rw [if_pos hnew]
        refine ⟨σ, hw, ?_⟩
        have h1 := Rep.into (m := none) true r (by simp) (fun _ _ => hnew) hrep
        have h2 : Rep C w' σ (some true) r cv := Rep.any (fun b hb => by
          rcases hb.2.2.1 with h3 | h3
          · have h3' : w.heap.size ≤ b := h3.1
            exact ⟨fun hh => by have := (h.held b hh).2; omega, hb.2.1, .inl ⟨Nat.le_trans h.base h3', h.lain h3'⟩, hb.2.2.2⟩
          · cases h3.1) (fun _ _ _ => rfl) r hrf h1
        have h3 := Rep.outOf true r h2
        rwa [retag_new r hnew] at h3
      · rw [if_neg hnew]
        obtain ⟨σ', hs', hsub, hdrop⟩ := hw.dropL' (l := reach st.objs depth (idsL (first ++ c.args.toList.map st.eval ++ cap)))
        refine ⟨σ', hs', Rep.free (fun t b hb => ?_) (fun _ _ _ _ => rfl) r hrf hrep⟩
        rcases hb.2.2.1 with h3 | ⟨h3, hF⟩
        · have h3' : w.heap.size ≤ b := h3.1
          exact ⟨fun hh => by have := (h.held b (hh.sub hsub)).2; omega, hb.2.1, .inl ⟨Nat.le_trans h.base h3', h.lain h3'⟩, hb.2.2.2⟩
        · rcases hFo2 b hF with ⟨h4, h5⟩ | ⟨id, hid, bo, es, cap', app, hl⟩
          · refine ⟨fun hh => h4 (hh.sub hsub), hb.2.1, ?_, hb.2.2.2⟩
            rcases h5 with h5 | h5
            · exact .inl h5
            · exact .inr ⟨h3, h5⟩
          · exact ⟨hdrop id hid b bo es cap' app hl, hb.2.1, .inl ⟨(h.held b (.of hl)).1, h.seen (.of hl)⟩, hb.2.2.2⟩
    split at he
    · rename_i k es hthaw
      split at he
      case h_2 => cases he
      rename_i d hdst
      split at he
      case isFalse => cases he
      rename_i hnew
      cases r with
      | sl tt vs =>
        simp only [isNew] at hnew
        subst hnew
        simp only [xE] at he
        split at he
        case isFalse => cases he
        rename_i hc
        cases he
        obtain ⟨σ3, h3, h4⟩ := thaw_one (id := qI fc base d) h hbel hrep hc.2.1 hc.2.2.1 hc.2.2.2
        rw [hdst]
        exact hK _ _ σ3 (h3.put h4)
      | tup cs =>
        simp only [xE] at he
        split at he
        case h_2 => cases he
        rename_i vs hk
        split at he
        case isFalse => cases he
        rename_i hc
        cases he
        obtain ⟨ds, rfl, hl⟩ := hrep
        obtain ⟨dv, hdv, hrv⟩ := hl.get k hk
        obtain ⟨σ3, h3, h4⟩ := thaw_one (id := qI fc base d) h hbel hrv hc.2.1 hc.2.2.1 hc.2.2.2.1
        rw [hdst]
        refine hK _ _ σ3 (h3.put ⟨ds, rfl, ?_⟩)
        have h5 : RepL C w' σ3 none (cs.set k .junk) (ds.set k dv) := RepL.plain _ hc.2.2.2.2 (RepL.set k hl (v := .junk) trivial)
        have h6 := RepL.set k h5 h4
        have hds : ds.set k dv = ds := by
          obtain ⟨hlt, rfl⟩ := List.getElem?_eq_some_iff.1 hdv
          simp
        rw [List.set_set, List.set_set, hds] at h6
        exact h6
      | _ => simp [xE] at he
    · cases he
      exact hK _ _ σ2 (by
        have := hs2.put (dst := o.dst) hr2
        exact this)

theorem evOp_ok (hT : TyOk P E) (hO : OrcOk P E O) {fc : FC} {base : Nat} (h : Sim C D outs st a w σ) {o : Oper} (he : zH E O fc base o st = some st') {K : Act → World → Prop}
    (hK : ∀ a' w' σ', Sim C D outs st' a' w' σ' → K a' w') : o.wpIn (W ro) m P a w K Q := by
  have plain : qG E fc base o st = some st' → (∀ c, o.op ≠ .defer c) → o.wpIn (W ro) m P a w K Q := fun hp hd => by
    obtain ⟨c, w', σ', hr, hs⟩ := evPlain_ok hT h hp
    exact wpIn_of_ran hd hr (hK _ _ _ hs)
  unfold zH at he
  split at he
  · rename_i c ho
    split at he
    · rename_i f hc
      exact evCall_ok hO h ho hc he hK
    · exact plain he (fun c' e => by rw [ho] at e; cases e)
  · refine plain he (fun c' e => ?_)
    unfold qG zF zG at he
    rw [e] at he
    simp at he

theorem wanted_ok (h : Sim C D outs st a w σ) {all : Array Oper} {o : Oper} {b : Bool} (he : wantedV all o st = some b) : Region.wanted o (yielded all a.tmps) = b := by
  unfold wantedV at he
  unfold Region.wanted
  split at he
  · rename_i hg; cases he; rw [hg]
  · rename_i j b' hg
    rw [hg]
    split at he
    case h_2 => cases he
    rename_i d hd
    have hget : ∀ v, st.get d = v → v ≠ .junk → Rep C w σ none v (a.tmps.getD d undef) ∧ a.tmps[d]? = some (a.tmps.getD d undef) := fun v hv hj => by
      have h1 := h.get d
      rw [hv] at h1
      refine ⟨h1, ?_⟩
      unfold St.get at hv
      rw [List.getD_eq_getElem?_getD] at hv
      cases hs : st.slots[d]? with
      | none => rw [hs] at hv; exact absurd hv.symm hj
      | some u =>
        obtain ⟨x, hx, _⟩ := RepL.get d h.slots hs
        have : a.tmps[d]? = some x := by rw [← Array.getElem?_toList]; exact hx
        simp [this]
    split at he
    · rename_i b'' hb
      change some (b'' == b') = some b at he
      cases he
      obtain ⟨h1, h2⟩ := hget _ hb (by simp)
      simp only [Rep] at h1
      rw [h1] at h2
      simp only [yielded, hd, Option.bind_some, h2]
      cases b'' <;> cases b' <;> rfl
    · rename_i hb
      cases he
      obtain ⟨h1, h2⟩ := hget _ hb (by simp)
      simp only [Rep] at h1
      rw [h1] at h2
      simp only [yielded, hd, Option.bind_some, h2, undef]
      rfl
    · cases he

theorem evOps_ok (hT : TyOk P E) (hO : OrcOk P E O) {fc : FC} {base : Nat} {all : Array Oper} (hQ : ∀ a' w' σ', Sim C D outs st' a' w' σ' → Q .normal a' w') : ∀ (k : Nat) (ops : List Oper) {st : St} {a : Act} {w : World} {σ : Places},
    (∀ i, ops[i]? = all[k + i]?) → k + ops.length = all.size → Sim C D outs st a w σ → evOps E O fc base all ops st = some st' → wpOpsIn (W ro) m P all Q (List.range' k ops.length) a w
  | k, [], st, a, w, σ, _, _, h, he => by
    simp only [evOps] at he; cases he
    exact hQ _ _ _ h
  | k, o :: ops, st, a, w, σ, hi, hl, h, he => by
    have hk : all[k]? = some o := by have := hi 0; simpa using this.symm
    have hi' : ∀ i, ops[i]? = all[k + 1 + i]? := fun i => by have := hi (i + 1); simp only [List.getElem?_cons_succ] at this; rw [this]; congr 1; omega
    have hl' : k + 1 + ops.length = all.size := by simp only [List.length_cons] at hl; omega
    simp only [evOps] at he
    rw [List.length_cons, List.range'_succ]
    simp only [wpOpsIn, hk]
    split at he
    · rename_i hw
      rw [if_pos (wanted_ok h hw)]
      split at he
      case h_2 => cases he
      rename_i s hs
      exact evOp_ok hT hO h hs fun a' w' σ' h' => evOps_ok hT hO hQ (k + 1) ops hi' hl' h' he
    · rename_i hw
      rw [if_neg (by rw [wanted_ok h hw]; simp)]
      exact ⟨fun _ _ => trivial, evOps_ok hT hO hQ (k + 1) ops hi' hl' (h.put (v := .und) (c := undef) rfl) he⟩
    · cases he

end
end Go.AM
end

section
/-
A region that draws its order: what an operation's effect depends on.
-/
namespace Go.AM
open Go Go.RowKit

structure Same (s s' : St) : Prop where
  slots : s.slots = s'.slots
  outer : s.outer = s'.outer
  objs : ∀ id, look s.objs id = look s'.objs id

theorem Same.refl (s : St) : Same s s := ⟨rfl, rfl, fun _ => rfl⟩
theorem Same.symm {s s' : St} (h : Same s s') : Same s' s := ⟨h.slots.symm, h.outer.symm, fun i => (h.objs i).symm⟩
theorem Same.trans {s s' s'' : St} (h : Same s s') (h' : Same s' s'') : Same s s'' := ⟨h.slots.trans h'.slots, h.outer.trans h'.outer, fun i => (h.objs i).trans (h'.objs i)⟩

theorem Same.sim {C : Cx} {D : List Deferred} {outs : List (List Value)} {s s' : St} {a : Act} {w : World} {σ : Places} (h : Same s s') (hs : Sim C D outs s a w σ) : Sim C D outs s' a w σ where
  slots := h.slots ▸ hs.slots
  outer := h.outer ▸ hs.outer
  objs := fun id ob e => hs.objs id ob (by rw [h.objs]; exact e)
  dom := fun id e => hs.dom id (by rw [h.objs]; exact e)
  inj := hs.inj
  held := hs.held
  below := hs.below
  base := hs.base
  old := hs.old
  still := hs.still

def Eff.val : Eff → V
  | .put v => v
  | .new _ _ v => v
  | .wr _ _ => .und

def Eff.onto (e : Eff) (s : St) : St := match e with
  | .put _ => s
  | .new id ob _ => { s with objs := upd s.objs id ob }
  | .wr id ob => { s with objs := upd s.objs id ob }

theorem Eff.ap_eq (dst : Option Nat) (e : Eff) (s : St) : e.ap dst s = (e.onto s).put dst e.val := by cases e <;> rfl

theorem put_slots (s : St) (dst : Option Nat) (v : V) : (s.put dst v).slots = match dst with | some d => s.slots.set d v | none => s.slots := by cases dst <;> rfl
theorem put_outer (s : St) (dst : Option Nat) (v : V) : (s.put dst v).outer = s.outer := by cases dst <;> rfl
theorem put_objs (s : St) (dst : Option Nat) (v : V) : (s.put dst v).objs = s.objs := by cases dst <;> rfl
theorem onto_slots (e : Eff) (s : St) : (e.onto s).slots = s.slots := by cases e <;> rfl
theorem onto_outer (e : Eff) (s : St) : (e.onto s).outer = s.outer := by cases e <;> rfl

def Eff.obAt (e : Eff) (id : Nat) : Option Ob := match e with
  | .put _ => none
  | .new j ob _ => if id = j then some ob else none
  | .wr j ob => if id = j then some ob else none

theorem onto_look (e : Eff) (s : St) (id : Nat) : look (e.onto s).objs id = match e.obAt id with | some ob => some ob | none => look s.objs id := by
  cases e with
  | put v => rfl
  | new j ob v => simp only [Eff.onto, look_upd, Eff.obAt]; split <;> rfl
  | wr j ob => simp only [Eff.onto, look_upd, Eff.obAt]; split <;> rfl

theorem obAt_none {e : Eff} {id : Nat} (h : e.writes.contains id = false) : e.obAt id = none := by
  cases e with
  | put v => rfl
  | new j ob v => simp [Eff.writes] at h; simp [Eff.obAt, h]
  | wr j ob => simp [Eff.writes] at h; simp [Eff.obAt, h]

theorem obAt_some {e : Eff} {id : Nat} (h : e.writes.contains id = true) : ∃ ob, e.obAt id = some ob := by
  cases e with
  | put v => simp [Eff.writes] at h
  | new j ob v => simp [Eff.writes] at h; simp [Eff.obAt, h]
  | wr j ob => simp [Eff.writes] at h; simp [Eff.obAt, h]

theorem ap_slots (dst : Option Nat) (e : Eff) (s : St) : (e.ap dst s).slots = match dst with | some d => s.slots.set d e.val | none => s.slots := by
  rw [Eff.ap_eq, put_slots, onto_slots]
theorem ap_outer (dst : Option Nat) (e : Eff) (s : St) : (e.ap dst s).outer = s.outer := by rw [Eff.ap_eq, put_outer, onto_outer]
theorem ap_look (dst : Option Nat) (e : Eff) (s : St) (id : Nat) : look (e.ap dst s).objs id = match e.obAt id with | some ob => some ob | none => look s.objs id := by
  rw [Eff.ap_eq, put_objs, onto_look]

theorem ap_congr (dst : Option Nat) (e : Eff) {s s' : St} (h : Same s s') : Same (e.ap dst s) (e.ap dst s') := by
  refine ⟨?_, ?_, fun id => ?_⟩
  · rw [ap_slots, ap_slots, h.slots]
  · rw [ap_outer, ap_outer, h.outer]
  · rw [ap_look, ap_look, h.objs]

theorem ap_comm {d d' : Option Nat} {e e' : Eff} (hd : ∀ x, d = some x → d' ≠ some x) (hw : free e.writes e'.writes = true) (s : St) : Same (e.ap d (e'.ap d' s)) (e'.ap d' (e.ap d s)) := by
  refine ⟨?_, ?_, fun id => ?_⟩
  · rw [ap_slots, ap_slots, ap_slots, ap_slots]
    cases d with
    | none => rfl
    | some x =>
      cases d' with
      | none => rfl
      | some y => exact List.set_comm _ _ (fun e => hd x rfl (by rw [e]))
  · rw [ap_outer, ap_outer, ap_outer, ap_outer]
  · rw [ap_look, ap_look, ap_look, ap_look]
    cases h1 : e.writes.contains id with
    | false => rw [obAt_none h1]
    | true =>
      have h2 : e'.writes.contains id = false := by
        unfold free at hw
        rw [List.all_eq_true] at hw
        have := hw id (by simpa using h1)
        simpa using this
      rw [obAt_none h2]

/-! ### What an operation looks at -/

structure Agree (s s' : St) (xs : List Operand) (S : List Nat) : Prop where
  eval : ∀ x ∈ xs, s.eval x = s'.eval x
  objs : ∀ i ∈ S, look s.objs i = look s'.objs i

theorem evLoad_local {ti : TI} {p : V} {s s' : St} (h : ∀ i ∈ ids p, look s.objs i = look s'.objs i) : zM ti p s = zM ti p s' := by
  cases p <;> try rfl
  simp only [zM]
  rw [h _ (by simp [ids])]

theorem evSlice_local {ei : TI} {x : V} {lo hi : Option (Option Int)} {mx : Option V} {s s' : St} (h : ∀ i ∈ ids x, look s.objs i = look s'.objs i) : qU ei x lo hi mx s = qU ei x lo hi mx s' := by
  cases x <;> try rfl
  · simp only [qU, evSlice0]
    rw [h _ (by simp [ids])]
  · simp only [qU, xK]
    rw [h _ (by simp [ids])]

theorem evIndexS_local {ei : TI} {x : V} {i : Int} {s s' : St} (h : ∀ i ∈ ids x, look s.objs i = look s'.objs i) : zP ei x i s = zP ei x i s' := by
  cases x <;> try rfl
  simp only [zP]
  rw [h _ (by simp [ids])]

theorem evLook_local {E : Env} {kt : Nat} {ei : TI} {ok : Bool} {m k : V} {s s' : St} (h : ∀ i ∈ ids m, look s.objs i = look s'.objs i) : zU E kt ei ok m k s = zU E kt ei ok m k s' := by
  cases m <;> try rfl
  simp only [zU]
  rw [h _ (by simp [ids])]

theorem optInt_local {s s' : St} {x : Option Operand} (h : ∀ y ∈ x, s.eval y = s'.eval y) : optInt s x = optInt s' x := by
  cases x with
  | none => rfl
  | some y => simp only [optInt]; rw [h y rfl]

theorem map_local {s s' : St} {l : List Operand} (h : ∀ y ∈ l, s.eval y = s'.eval y) : l.map s.eval = l.map s'.eval := List.map_congr_left h

theorem evVal_local {E : Env} {fc : FC} {base : Nat} {o : Oper} {s s' : St} (h : Agree s s' o.op.operands.toList (supp fc base o s)) : zF E fc o s = zF E fc o s' := by
  obtain ⟨h1, h2⟩ := h
  unfold zF
  unfold supp at h2
  cases ho : o.op <;> rw [ho] at h1 h2 <;> simp only [Op.operands] at h1 <;> dsimp only at h2 ⊢
  case move x => rw [h1 x (by simp)]
  case assign x => rw [h1 x (by simp)]
  case pick c a b => rw [h1 c (by simp), h1 a (by simp), h1 b (by simp)]
  case build t ps =>
    have : (ps.toList.map fun p => (p.1, s.eval p.2)) = (ps.toList.map fun p => (p.1, s'.eval p.2)) := List.map_congr_left fun p hp => by
      rw [h1 p.2 (by simp; exact ⟨p.1, by simpa using hp⟩)]
    rw [this]
  case load t x => rw [← h1 x (by simp)]; split <;> first | rfl | exact evLoad_local h2
  case nilCheck x => rw [h1 x (by simp)]
  case binOp op t x y ty => rw [h1 x (by simp), h1 y (by simp)]
  case unOp op t x => rw [h1 x (by simp)]
  case convert a b x => rw [h1 x (by simp)]
  case makeFunc fn a b =>
    cases fn <;> try rfl
    dsimp only
    rw [map_local (l := a.toList) fun y hy => h1 y (by simp at hy ⊢; exact .inl hy), map_local (l := b.toList) fun y hy => h1 y (by simp at hy ⊢; exact .inr hy)]
  case slice t x lo hi mx =>
    split
    · rw [← h1 x (by simp), optInt_local (x := lo) fun y hy => h1 y (by cases hy; simp), optInt_local (x := hi) fun y hy => h1 y (by cases hy; simp)]
      have : mx.map s.eval = mx.map s'.eval := by
        cases mx with
        | none => rfl
        | some y => simp only [Option.map_some]; rw [h1 y (by simp)]
      rw [this]
      rw [evSlice_local h2]
    · rfl
  case fieldAddr t x f => rw [h1 x (by simp)]
  case field t x f => rw [h1 x (by simp)]
  case indexAddr t x ix =>
    rw [← h1 x (by simp), ← h1 ix (by simp)]
    split
    · split
      · exact evIndexS_local h2
      · rfl
    · rfl
  case index t x ix => rw [h1 x (by simp), h1 ix (by simp)]
  case lookup t x ix ok =>
    try dsimp only
    rw [← h1 x (by simp), ← h1 ix (by simp)]
    split
    · split
      · exact evLook_local h2
      · rfl
    · rfl
  case extract x i => rw [h1 x (by simp)]
  case call c =>
    simp only [Call.operands] at h1
    cases hc : c.callee with
    | value f => rfl
    | invoke r n => rfl
    | builtin b =>
      rw [hc] at h1
      have h3 : ∀ y ∈ c.args.toList, s.eval y = s'.eval y := fun y hy => h1 y (by simpa using hy)
      cases b <;> try rfl
      · dsimp only
        split
        · rename_i t x _ hx
          rw [h3 x (by rw [hx]; simp)]
        · rfl
      all_goals
        dsimp only
        split
        · rename_i x r hx
          rw [h3 x (by rw [hx]; simp), map_local (l := r) fun y hy => h3 y (by rw [hx]; simp [hy])]
        · rfl
end Go.AM
end

section
/-
A region that draws its order: what an effect on objects depends on.
-/
namespace Go.AM
open Go Go.RowKit

theorem reach_own (objs : List (Nat × Ob)) : ∀ (n : Nat) (l : List Nat), ∀ i ∈ l, i ∈ reach objs n l
  | 0, _, _, h => h
  | _ + 1, _, _, h => by simp only [reach]; exact List.mem_append_left _ h

theorem mem_idsL {v : V} {i : Nat} (hi : i ∈ ids v) : ∀ {vs : List V}, v ∈ vs → i ∈ idsL vs
  | [], h => by simp at h
  | u :: r, h => by
    simp only [idsL, List.mem_append]
    rcases List.mem_cons.1 h with rfl | h
    · exact .inl hi
    · exact .inr (mem_idsL hi h)

theorem reach_sub (objs : List (Nat × Ob)) : ∀ (n : Nat) {l l' : List Nat}, (∀ i ∈ l, i ∈ l') → ∀ i ∈ reach objs n l, i ∈ reach objs n l'
  | 0, _, _, h, i, hi => h i hi
  | n + 1, l, l', h, i, hi => by
    simp only [reach, List.mem_append] at hi ⊢
    rcases hi with hi | hi
    · exact .inl (h i hi)
    · refine .inr (reach_sub objs n (fun j hj => ?_) i hi)
      rw [List.mem_flatMap] at hj ⊢
      obtain ⟨k, hk, hj⟩ := hj
      exact ⟨k, h k hk, hj⟩

theorem reach_drop (objs : List (Nat × Ob)) : ∀ (n : Nat) (l : List Nat), ∀ i ∈ reach objs n l, i ∈ reach objs (n + 1) l
  | 0, l, i, hi => by simp only [reach, List.mem_append]; exact .inl hi
  | n + 1, l, i, hi => by
    rw [reach, List.mem_append] at hi ⊢
    rcases hi with hi | hi
    · exact .inl hi
    · exact .inr (reach_drop objs n _ i hi)

theorem idsL_take : ∀ (n : Nat) (vs : List V), ∀ i ∈ idsL (vs.take n), i ∈ idsL vs
  | 0, _, _, h => by simp [idsL] at h
  | _ + 1, [], _, h => by simp [idsL] at h
  | n + 1, v :: r, i, h => by
    simp only [List.take_succ_cons, idsL, List.mem_append] at h ⊢
    rcases h with h | h
    · exact .inl h
    · exact .inr (idsL_take n r i h)

theorem idsL_drop : ∀ (n : Nat) (vs : List V), ∀ i ∈ idsL (vs.drop n), i ∈ idsL vs
  | 0, _, _, h => h
  | _ + 1, [], _, h => by simp at h; exact h
  | n + 1, v :: r, i, h => by
    simp only [List.drop_succ_cons, idsL, List.mem_append] at h ⊢
    exact .inr (idsL_drop n r i h)

theorem cells_ids {v : V} {cs : List V} (h : cells? v = some cs) : ∀ i ∈ idsL cs, i ∈ ids v := by
  cases v <;> simp [cells?] at h <;> subst h <;> simp [idsL, ids]

mutual
theorem ids_tag (t : Bool) : ∀ v, ids (retag t v) = ids v
  | .agg cs => by simp only [retag, ids, idsL_tag t cs]
  | .tup cs => by simp only [retag, ids, idsL_tag t cs]
  | .clo f a b => by simp only [retag, ids, idsL_tag t a, idsL_tag t b]
  | .sl .. => rfl
  | .full .. => rfl
  | .fp .. => rfl
  | .int .. => rfl
  | .bool _ => rfl
  | .lit _ => rfl
  | .und => rfl
  | .emp => rfl
  | .own .. => rfl
  | .pre .. => rfl
  | .ptr .. => rfl
  | .mapr _ => rfl
  | .junk => rfl
theorem idsL_tag (t : Bool) : ∀ vs, idsL (xU t vs) = idsL vs
  | [] => rfl
  | v :: r => by simp only [xU, idsL, ids_tag t v, idsL_tag t r]
end

theorem allM_local {α β : Type} {f g : α → Option β} : ∀ {l : List α}, (∀ x ∈ l, f x = g x) → allM f l = allM g l
  | [], _ => rfl
  | x :: r, h => by
    simp only [allM]
    rw [h x List.mem_cons_self, allM_local fun y hy => h y (List.mem_cons_of_mem _ hy)]

theorem resolve_local {objs objs' : List (Nat × Ob)} : ∀ (n : Nat) (v : V), (∀ i ∈ reach objs n (ids v), look objs i = look objs' i) → resolve objs n v = resolve objs' n v
  | 0, _, _ => rfl
  | n + 1, v, h => by
    have lists : ∀ (vs : List V), (∀ i ∈ reach objs n (idsL vs), look objs i = look objs' i) → allM (resolve objs n) vs = allM (resolve objs' n) vs := fun vs hvs =>
      allM_local fun x hx => resolve_local n x fun i hi => hvs i (reach_sub objs n (fun j hj => mem_idsL hj hx) i hi)
    cases v with
    | agg cs => simp only [resolve]; rw [lists cs fun i hi => h i (reach_drop _ _ _ i (by simpa [ids] using hi))]
    | tup cs => simp only [resolve]; rw [lists cs fun i hi => h i (reach_drop _ _ _ i (by simpa [ids] using hi))]
    | clo f a b =>
      simp only [resolve]
      rw [lists a fun i hi => h i (reach_drop _ _ _ i (reach_sub _ _ (fun j hj => by simp [ids, hj]) i hi)),
        lists b fun i hi => h i (reach_drop _ _ _ i (reach_sub _ _ (fun j hj => by simp [ids, hj]) i hi))]
    | own id off len =>
      have h0 : look objs id = look objs' id := h id (reach_own _ _ _ _ (by simp [ids]))
      simp only [resolve]
      rw [← h0]
      cases ho : look objs id with
      | none => rfl
      | some o =>
        dsimp only
        split
        · split
          · rfl
          · rename_i hf
            rw [lists _ fun i hi => h i (by
              simp only [reach, ids, List.flatMap_cons, List.flatMap_nil, List.append_nil, ho]
              rw [if_neg hf]
              refine List.mem_append_right _ (reach_sub _ _ (fun j hj => ?_) i hi)
              rw [idsL_tag] at hj
              exact idsL_drop _ _ _ (idsL_take _ _ _ hj))]
        · rfl
    | pre id off len room =>
      have h0 : look objs id = look objs' id := h id (reach_own _ _ _ _ (by simp [ids]))
      simp only [resolve]
      rw [← h0]
      cases ho : look objs id with
      | none => rfl
      | some o =>
        dsimp only
        split
        · split
          · rfl
          · rename_i hf
            rw [lists _ fun i hi => h i (by
              simp only [reach, ids, List.flatMap_cons, List.flatMap_nil, List.append_nil, ho]
              rw [if_neg hf]
              refine List.mem_append_right _ (reach_sub _ _ (fun j hj => ?_) i hi)
              rw [idsL_tag] at hj
              exact idsL_drop _ _ _ (idsL_take _ _ _ hj))]
        · rfl
    | ptr id k c =>
      have h0 : look objs id = look objs' id := h id (reach_own _ _ _ _ (by simp [ids]))
      simp only [resolve]
      rw [← h0]
      cases ho : look objs id with
      | none => rfl
      | some o =>
        dsimp only
        cases he : o.elems[k]? with
        | none => rfl
        | some e =>
          dsimp only
          cases hc : cells? e with
          | none => rfl
          | some cs =>
            dsimp only
            split
            · rfl
            · rename_i hf
              rw [lists _ fun i hi => h i (by
                simp only [reach, ids, List.flatMap_cons, List.flatMap_nil, List.append_nil, ho]
                rw [if_neg hf]
                refine List.mem_append_right _ (reach_sub _ _ (fun j hj => ?_) i hi)
                rw [idsL_tag] at hj
                exact mem_idsL (cells_ids hc j hj) (List.mem_of_getElem? he))]
    | _ => rfl

theorem lend_local {s s' : St} {args : List V} (h : ∀ i ∈ reach s.objs depth (idsL args), look s.objs i = look s'.objs i) : qP s args = qP s' args := by
  unfold qP
  rw [allM_local fun x hx => resolve_local depth x fun i hi => h i (reach_sub _ _ (fun j hj => mem_idsL hj hx) i hi)]

theorem idsL_app : ∀ (a b : List V), idsL (a ++ b) = idsL a ++ idsL b
  | [], _ => rfl
  | v :: r, b => by simp only [List.cons_append, idsL, idsL_app r b, List.append_assoc]

theorem elemsV_local {x : V} {s s' : St} (h : ∀ i ∈ ids x, look s.objs i = look s'.objs i) : xB s.objs x = xB s'.objs x := by
  unfold xB
  split <;> try rfl
  · rw [h _ (by simp [ids])]
  · rw [h _ (by simp [ids])]

theorem effMem_local {E : Env} {O : Orc} {fc : FC} {base : Nat} {o : Oper} {s s' : St} (h : Agree s s' o.op.operands.toList (supp fc base o s)) : qK E O fc base o s = qK E O fc base o s' := by
  obtain ⟨h1, h2⟩ := h
  unfold qK
  unfold supp at h2
  cases ho : o.op <;> rw [ho] at h1 h2 <;> simp only [Op.operands] at h1 <;> dsimp only at h2 ⊢
  case alloc e =>
    split
    · rename_i d ti hd _
      rw [hd] at h2
      unfold qL
      rw [h2 _ (by simp)]
    · rfl
  case box e x =>
    rw [← h1 x (by simp)]
    split
    · rename_i d ti hd _
      rw [hd] at h2
      unfold qL
      rw [h2 _ (by simp)]
    · rfl
  case buildSlice t n ps =>
    have : (ps.toList.map fun p => s.eval p.2) = (ps.toList.map fun p => s'.eval p.2) := List.map_congr_left fun p hp => by
      rw [h1 p.2 (by simp; exact ⟨p.1, by simpa using hp⟩)]
    rw [← this]
    split
    · rename_i d ei hd _
      rw [hd] at h2
      unfold qM
      rw [h2 _ (by simp)]
    · rfl
  case store t a x =>
    rw [← h1 a (by simp), ← h1 x (by simp)]
    split
    · cases hp : s.eval a <;> try rfl
      rw [hp] at h2
      simp only [zW]
      rw [h2 _ (by simp [ids])]
    · rfl
  case mapUpdate t m k x =>
    rw [← h1 m (by simp), ← h1 k (by simp), ← h1 x (by simp)]
    split
    · cases hp : s.eval m <;> try rfl
      rw [hp] at h2
      simp only [zY]
      rw [h2 _ (by simp [ids])]
    · rfl
  case makeSlice t l c =>
    rw [← h1 l (by simp), ← h1 c (by simp)]
    split
    · rename_i d ei hd _
      rw [hd] at h2
      unfold qN
      rw [h2 _ (by simp)]
    · rfl
  case call c =>
    simp only [Call.operands] at h1
    cases hc : c.callee with
    | invoke r n => rfl
    | builtin b =>
      rw [hc] at h1 h2
      have h3 : ∀ y ∈ c.args.toList, s.eval y = s'.eval y := fun y hy => h1 y (by simpa using hy)
      cases b <;> try rfl
      dsimp only
      split
      · rename_i d t t' x y hd _ ha
        rw [ha] at h3
        rw [← h3 x (by simp), ← h3 y (by simp)]
        split
        · split
          · unfold qO
            dsimp only at h2
            rw [ha, hd] at h2
            rw [h2 _ (by simp), elemsV_local (x := s.eval y) fun i hi => h2 i (by simp [idsL, hi])]
          · rfl
        · rfl
      · rfl
    | value f =>
      rw [hc] at h1 h2
      dsimp only at h2 ⊢
      rw [← h1 f (by simp), ← map_local (l := c.args.toList) fun y hy => h1 y (by simp at hy ⊢; exact .inr hy)]
      unfold zX
      cases hf : s.eval f <;> try rfl
      rename_i g first cap
      dsimp only
      rw [hf] at h2
      rw [lend_local (s' := s') fun i hi => h2 i (reach_sub _ _ (fun j hj => ?_) i hi)]
      simp only [idsL, ids, idsL_app, List.mem_append, List.append_nil] at hj ⊢
      rcases hj with (hj | hj) | hj
      · exact .inl (.inl hj)
      · exact .inr hj
      · exact .inl (.inr hj)

theorem effOf_local {E : Env} {O : Orc} {fc : FC} {base : Nat} {o : Oper} {s s' : St} (h : Agree s s' o.op.operands.toList (supp fc base o s)) : qJ E O fc base o s = qJ E O fc base o s' := by
  unfold qJ
  rw [evVal_local h, effMem_local h]

theorem all_local {α : Type} {f g : α → Bool} : ∀ {l : List α}, (∀ x ∈ l, f x = g x) → l.all f = l.all g
  | [], _ => rfl
  | x :: r, h => by rw [List.all_cons, List.all_cons, h x List.mem_cons_self, all_local fun y hy => h y (List.mem_cons_of_mem _ hy)]
theorem reach_same {objs objs' : List (Nat × Ob)} : ∀ (n : Nat) (l : List Nat), (∀ i ∈ reach objs n l, look objs i = look objs' i) → reach objs n l = reach objs' n l
  | 0, _, _ => rfl
  | n + 1, l, h => by
    have e : ∀ (f f' : Nat → List Nat) (q : List Nat), (∀ i ∈ q, f i = f' i) → q.flatMap f = q.flatMap f' := by
      intro f f' q
      induction q with
      | nil => intro _; rfl
      | cons i q ih =>
        intro hq
        rw [List.flatMap_cons, List.flatMap_cons, hq i List.mem_cons_self, ih fun j hj => hq j (List.mem_cons_of_mem _ hj)]
    simp only [reach] at h ⊢
    congr 1
    refine (reach_same n _ fun i hi => h i (List.mem_append_right _ hi)).trans ?_
    congr 1
    exact e _ _ l fun i hi => by rw [h i (List.mem_append_left _ hi)]
section
variable {objs objs' : List (Nat × Ob)} {R : List Nat}
theorem wit_local (h : ∀ i ∈ R, look objs i = look objs' i) : R.map (wit objs) = R.map (wit objs') := List.map_congr_left fun i hi => by unfold wit; rw [h i hi]
theorem closed_local (h : ∀ i ∈ R, look objs i = look objs' i) : zJ objs R = zJ objs' R := all_local fun i hi => by rw [h i hi]
theorem fixed_local (h : ∀ i ∈ R, look objs i = look objs' i) : zK objs R = zK objs' R := all_local fun i hi => by rw [h i hi]
theorem sameEs_local {s : List (Nat × Ob)} (h : ∀ i ∈ R, look objs i = look objs' i) : zL objs s R = zL objs' s R := all_local fun i hi => by rw [h i hi]
theorem pickR_local : ∀ {R : List Nat}, (∀ i ∈ R, look objs i = look objs' i) → pickR R objs = pickR R objs'
  | [], _ => rfl
  | i :: r, h => by
    simp only [pickR]
    rw [h i List.mem_cons_self, pickR_local (R := r) fun j hj => h j (List.mem_cons_of_mem _ hj)]
theorem mapIn_local : ∀ {R : List Nat}, (∀ i ∈ R, look objs i = look objs' i) → mapIn R objs = mapIn R objs'
  | [], _ => rfl
  | i :: r, h => by
    simp only [mapIn]
    rw [h i List.mem_cons_self, mapIn_local (R := r) fun j hj => h j (List.mem_cons_of_mem _ hj)]
theorem restSame_local {id : Nat} {s : List (Nat × Ob)} : ∀ {R : List Nat}, (∀ i ∈ R, look objs i = look objs' i) → restSame id R s objs = restSame id R s objs'
  | [], _ => rfl
  | i :: r, h => by
    simp only [restSame]
    rw [h i List.mem_cons_self, restSame_local (R := r) fun j hj => h j (List.mem_cons_of_mem _ hj)]
end
theorem effFr_local {E : Env} {O : Orc} {g : Nat} {as : List V} {s s' : St} (h : ∀ i ∈ reach s.objs depth (idsL as), look s.objs i = look s'.objs i) : effFr E O g as s = effFr E O g as s' := by
  have e := reach_same depth _ h
  unfold effFr
  rw [← e]
  rw [closed_local h, fixed_local h, wit_local h, pickR_local h]
  split
  · unfold effFr2
    split
    · split
      · rw [wit_local h, sameEs_local h, mapIn_local h]
        split
        · unfold effFr3
          split
          · split
            · rw [restSame_local h]
            · rfl
          · rfl
        · rfl
      · rfl
    · rfl
  · rfl

theorem supp_X {fc : FC} {base : Nat} {o : Oper} {s : St} : ∀ i ∈ supp fc base o s, i ∈ suppX fc base o s := fun i hi => by
  unfold suppX
  split
  · split
    · exact List.mem_append_right _ hi
    · exact hi
  · exact hi

theorem effX_local {E : Env} {O : Orc} {fc : FC} {base : Nat} {o : Oper} {s s' : St} (h : Agree s s' o.op.operands.toList (suppX fc base o s)) : effX E O fc base o s = effX E O fc base o s' := by
  have h0 := effOf_local (E := E) (O := O) (fc := fc) (base := base) (o := o) ⟨h.eval, fun i hi => h.objs i (supp_X i hi)⟩
  unfold effX
  rw [h0]
  cases qJ E O fc base o s' with
  | some e => rfl
  | none =>
    dsimp only
    cases ho : o.op <;> try rfl
    rename_i c
    obtain ⟨h1, h2⟩ := h
    rw [ho] at h1
    simp only [Op.operands, Call.operands] at h1
    unfold suppX supp at h2
    rw [ho] at h2
    dsimp only at h2 ⊢
    cases hc : c.callee <;> try rfl
    rename_i f
    rw [hc] at h1 h2
    dsimp only at h2 ⊢
    rw [← h1 f (by simp), ← map_local (l := c.args.toList) fun y hy => h1 y (by simp at hy ⊢; exact .inr hy)]
    unfold effNew
    cases hf : s.eval f <;> try rfl
    rename_i g first cap
    rw [hf] at h2
    cases hd : o.dst with
    | none => rfl
    | some d =>
      rw [hd] at h2
      dsimp only
      have hl : qP s (first ++ c.args.toList.map s.eval ++ cap) = qP s' (first ++ c.args.toList.map s.eval ++ cap) := lend_local (s' := s') fun i hi => h2 i (List.mem_append_right _ (reach_sub _ _ (fun j hj => by
        simp only [idsL, ids, idsL_app, List.mem_append, List.append_nil] at hj ⊢
        rcases hj with (hj | hj) | hj
        · exact .inl (.inl hj)
        · exact .inr hj
        · exact .inl (.inr hj)) i hi))
      have hn : look s.objs (qI fc base d) = look s'.objs (qI fc base d) := h2 _ (List.mem_append_left _ (by simp))
      rw [← hl]
      split
      · split
        · split
          · unfold effFreshed
            split
            · rw [hn]
            · rfl
            · rfl
          · rfl
        · exact effFr_local fun i hi => h2 i (List.mem_append_right _ (reach_sub _ _ (fun j hj => by
            simp only [idsL, ids, idsL_app, List.mem_append, List.append_nil] at hj ⊢
            rcases hj with (hj | hj) | hj
            · exact .inl (.inl hj)
            · exact .inr hj
            · exact .inl (.inr hj)) i hi))
      · split
        · split
          · split
            · unfold effThaw
              split
              · rw [hn]
              · rfl
            · rfl
          · rfl
        · rfl

theorem wantedV_local {all : Array Oper} {o : Oper} {s s' : St} (h : ∀ g b d, o.guard = some (g, b) → (all[g]?).bind (·.dst) = some d → s.get d = s'.get d) : wantedV all o s = wantedV all o s' := by
  unfold wantedV
  cases hg : o.guard with
  | none => rfl
  | some p =>
    obtain ⟨g, b⟩ := p
    dsimp only
    cases hd : (all[g]?).bind (·.dst) with
    | none => rfl
    | some d => dsimp only; rw [h g b d hg hd]
end Go.AM
end

section
/-
A region that draws its order: an effect is what the operation does.
-/
namespace Go.AM
open Go Go.RowKit

section
variable {P : Program} {E : Env} {O : Orc} {C : Cx} {D : List Deferred} {outs : List (List Value)} {st st' : St} {a : Act} {w : World} {σ : Places} {m : Option Bool}

mutual
theorem kill_none (id : Nat) (hi : σ id = none) : ∀ {v : V} {c : Value}, Rep C w σ m v c → kill id v = v
  | .agg cs, c, h => by
    simp only [Rep] at h
    obtain ⟨ds, _, hl, _⟩ := h
    simp only [kill]; rw [killL_none id hi hl]
  | .tup cs, c, h => by
    simp only [Rep] at h
    obtain ⟨ds, _, hl⟩ := h
    simp only [kill]; rw [killL_none id hi hl]
  | .clo f xs ys, c, h => by
    simp only [Rep] at h
    obtain ⟨fa, fb, _, h1, h2⟩ := h
    simp only [kill]; rw [killL_none id hi h1, killL_none id hi h2]
  | .own j off len, c, h => by
    simp only [kill]
    split
    · rename_i hj; subst hj
      simp only [Rep, hi] at h
    · rfl
  | .pre j i o r, c, h => by
    simp only [kill]
    split
    · rename_i hj; subst hj
      simp only [Rep, hi] at h
    · rfl
  | .ptr j i o, c, h => by
    simp only [kill]
    split
    · rename_i hj; subst hj
      simp only [Rep, hi] at h
    · rfl
  | .mapr j, c, h => by
    simp only [kill]
    split
    · rename_i hj; subst hj
      simp only [Rep, hi] at h
    · rfl
  | .int .., _, _ => rfl
  | .bool _, _, _ => rfl
  | .lit _, _, _ => rfl
  | .und, _, _ => rfl
  | .emp, _, _ => rfl
  | .sl .., _, _ => rfl
  | .full .., _, _ => rfl
  | .fp .., _, _ => rfl
  | .junk, _, _ => rfl
theorem killL_none (id : Nat) (hi : σ id = none) : ∀ {vs : List V} {ds : List Value}, RepL C w σ m vs ds → killL id vs = vs
  | [], _, _ => rfl
  | v :: r, ds, h => by
    simp only [RepL] at h
    obtain ⟨d, q, _, h1, h2⟩ := h
    simp only [killL]; rw [kill_none id hi h1, killL_none id hi h2]
end

theorem killAll_none (id : Nat) (hi : σ id = none) : ∀ {ls : List (List V)} {ds : List (List Value)}, RepLL C w σ ls ds → xV id ls = ls
  | [], _, _ => rfl
  | l :: r, ds, h => by
    simp only [RepLL] at h
    obtain ⟨d, q, _, h1, h2⟩ := h
    simp only [xV]; rw [killL_none id hi h1, killAll_none id hi h2]

theorem drop_same (h : Sim C D outs st a w σ) {id : Nat} (hn : look st.objs id = none) : Same (st.drop id) st := by
  have hi := h.dom id hn
  refine ⟨killL_none id hi h.slots, killAll_none id hi h.outer, fun j => ?_⟩
  simp only [St.drop, look_killObs]
  split
  · rename_i hj; subst hj; exact hn.symm
  · cases hob : look st.objs j with
    | none => rfl
    | some ob =>
      simp only [Option.map_some, zA]
      obtain ⟨loc, _, hr, _⟩ := h.objs j ob hob
      split
      · rfl
      · have : killL id ob.elems = ob.elems := by
          cases loc with
          | virt app => simp only [ObRep] at hr; rw [hr.1]; rfl
          | blk b bo es cap app =>
            simp only [ObRep] at hr
            obtain ⟨_, _, _, cur, e, ds, _, hl, _⟩ := hr
            exact killL_none id hi hl
          | mp b =>
            simp only [ObRep] at hr
            obtain ⟨_, _, _, es, ck, _, hl⟩ := hr
            exact killL_none id hi hl
        rw [this]

theorem put_congr {s s' : St} (h : Same s s') (dst : Option Nat) (v : V) : Same (s.put dst v) (s'.put dst v) := by
  refine ⟨?_, ?_, fun id => ?_⟩
  · rw [put_slots, put_slots, h.slots]
  · rw [put_outer, put_outer, h.outer]
  · rw [put_objs, put_objs, h.objs]

theorem alloc_same (h : Sim C D outs st a w σ) {id : Nat} (hn : look st.objs id = none) (ob : Ob) (dst : Option Nat) (v : V) :
    Same ((st.alloc id ob).put dst v) ((Eff.new id ob v).ap dst st) := by
  have hs := drop_same h hn
  refine put_congr (s := st.alloc id ob) (s' := { st with objs := upd st.objs id ob }) ⟨hs.slots, hs.outer, fun j => ?_⟩ dst v
  simp only [St.alloc, look_upd]
  split
  · rfl
  · exact hs.objs j

theorem eff_ok (hT : TyOk P E) (h : Sim C D outs st a w σ) {fc : FC} {base : Nat} {o : Oper} {e : Eff} (he : qJ E O fc base o st = some e) :
    ∃ s, zH E O fc base o st = some s ∧ Same s (e.ap o.dst st) := by
  unfold qJ at he
  cases hv : zF E fc o st with
  | some v =>
    rw [hv] at he
    cases he
    refine ⟨st.put o.dst v, ?_, Same.refl _⟩
    unfold zH
    split
    · rename_i c hc
      split
      · rename_i f hf
        unfold zF at hv
        rw [hc] at hv
        dsimp only at hv
        rw [hf] at hv
        cases hv
      · unfold qG; rw [hv]
    · unfold qG; rw [hv]
  | none =>
    rw [hv] at he
    dsimp only at he
    have plain : ∀ s, zG E fc base o st = some s → qG E fc base o st = some s := fun s hs => by unfold qG; rw [hv]; exact hs
    unfold qK at he
    unfold zH
    split at he
    · -- alloc
      rename_i t ho
      rw [ho]
      dsimp only
      split at he
      case h_2 => cases he
      rename_i d ti hd hti
      obtain ⟨_, _, z, _, _, _, _, _, _, hz, _, hz2, _⟩ := hT t ti hti
      have hk : ∀ i, kill i ti.zero = ti.zero := fun i => kill_none (C := C) (w := w) (σ := fun _ => none) (m := none) i rfl (hz ▸ zero_rep z hz2)
      unfold qL at he
      split at he
      case h_2 => cases he
      rename_i cs hcs hl
      split at he
      case isFalse => cases he
      rename_i hc
      cases he
      refine ⟨_, plain _ ?_, alloc_same h hl _ _ _⟩
      unfold zG
      rw [ho]
      dsimp only
      rw [hd, hti]
      dsimp only
      unfold zE
      rw [hcs]
      dsimp only
      rw [if_pos hc, hk]
    · -- box
      rename_i t x ho
      rw [ho]
      dsimp only
      split at he
      case h_2 => cases he
      rename_i d ti hd hti
      unfold qL at he
      split at he
      case h_2 => cases he
      rename_i cs hcs hl
      split at he
      case isFalse => cases he
      rename_i hc
      cases he
      have hk : kill (qI fc base d) (st.eval x) = st.eval x := kill_none _ (h.dom _ hl) (h.eval x)
      refine ⟨_, plain _ ?_, alloc_same h hl _ _ _⟩
      unfold zG
      rw [ho]
      dsimp only
      rw [hd, hti]
      dsimp only
      unfold zE
      rw [hcs]
      dsimp only
      rw [if_pos hc, hk]
    · -- buildSlice
      rename_i t n ps ho
      rw [ho]
      dsimp only
      split at he
      case h_2 => cases he
      rename_i d ei hd hei
      unfold qM at he
      split at he
      · rename_i hn
        split at he
        case isFalse => cases he
        rename_i hc
        cases he
        refine ⟨st.put o.dst .emp, plain _ ?_, Same.refl _⟩
        unfold zG
        rw [ho]
        dsimp only
        rw [hd, hei]
        dsimp only
        unfold qQ
        rw [if_pos hn, if_pos hc]
      · rename_i hn
        split at he
        case h_2 => cases he
        rename_i hl
        split at he
        case isFalse => cases he
        rename_i hc
        cases he
        obtain ⟨c1, c2, c3, c4, c5, c6, c7⟩ := hc
        refine ⟨_, plain _ ?_, alloc_same h hl _ _ _⟩
        unfold zG
        rw [ho]
        dsimp only
        rw [hd, hei]
        dsimp only
        unfold qQ zI
        rw [if_neg hn, if_pos ⟨c1, c2, c3, c4, c5⟩, c6]
        simp only [if_true]
        rw [if_pos c7]
    · -- store
      rename_i t p x ho
      rw [ho]
      dsimp only
      split at he
      case h_2 => cases he
      rename_i ti hti
      unfold zW at he
      split at he
      case h_2 => cases he
      rename_i id i c hp
      split at he
      case h_2 => cases he
      rename_i ob ds hob hds
      split at he
      case h_2 => cases he
      rename_i e' hel
      split at he
      case h_2 => cases he
      rename_i cs hcs
      split at he
      case isFalse => cases he
      rename_i hc
      cases he
      refine ⟨_, plain _ ?_, Same.refl _⟩
      unfold zG
      rw [ho]
      dsimp only
      rw [hti]
      dsimp only
      unfold zO
      rw [hp]
      dsimp only
      rw [hob, hds]
      dsimp only
      rw [hel]
      dsimp only
      rw [hcs]
      dsimp only
      rw [if_pos hc]
      rfl
    · -- mapUpdate
      rename_i t m k x ho
      rw [ho]
      dsimp only
      split at he
      case h_2 => cases he
      rename_i kt et hm
      unfold zY at he
      split at he
      case h_2 => cases he
      rename_i id hp
      split at he
      case h_2 => cases he
      rename_i ob hob
      split at he
      case h_2 => cases he
      rename_i hf
      split at he
      case isFalse => cases he
      rename_i hc
      cases he
      refine ⟨_, plain _ ?_, Same.refl _⟩
      unfold zG
      rw [ho]
      dsimp only
      rw [hm]
      dsimp only
      unfold zV
      rw [hp]
      dsimp only
      rw [hob]
      dsimp only
      rw [hf]
      dsimp only
      rw [if_pos hc]
      rfl
    · -- makeSlice
      rename_i t l c ho
      rw [ho]
      dsimp only
      split at he
      case h_2 => cases he
      rename_i d ei hd hei
      unfold qN at he
      split at he
      case h_2 => cases he
      rename_i n m hl hc hn
      split at he
      case isFalse => cases he
      rename_i hcond
      cases he
      refine ⟨_, plain _ ?_, alloc_same h hn _ _ _⟩
      unfold zG
      rw [ho]
      dsimp only
      rw [hd, hei]
      dsimp only
      unfold xX
      rw [hl, hc]
      dsimp only
      rw [if_pos hcond]
    · -- call
      rename_i c ho
      rw [ho]
      dsimp only
      split at he
      · -- append
        rename_i hc
        rw [hc]
        dsimp only
        split at he
        case h_2 => cases he
        rename_i d t t' x y hd ht ha
        split at he
        case isFalse => cases he
        rename_i htt
        split at he
        case h_2 => cases he
        rename_i ei hei
        unfold qO at he
        split at he
        case h_2 => cases he
        rename_i tt ys hx hy hl
        split at he
        case isFalse => cases he
        rename_i hcond
        cases he
        refine ⟨_, plain _ ?_, alloc_same h hl _ _ _⟩
        unfold zG
        rw [ho]
        dsimp only
        rw [hc]
        dsimp only
        rw [hd, ht, ha]
        dsimp only
        rw [if_pos htt, hei]
        dsimp only
        unfold evApp
        rw [hx]
        dsimp only
        unfold evAppend
        rw [hx] at hy
        rw [hy]
        simp only [zI, qH, onto, dropO, if_true, List.length_nil, Nat.zero_add, List.nil_append, Bool.true_and]
        rw [if_pos hcond]
      · -- a function
        rename_i f hc
        rw [hc]
        dsimp only
        unfold zX at he
        split at he
        case h_2 => cases he
        rename_i g first cap hf
        split at he
        case isFalse => cases he
        rename_i hcond
        split at he
        case h_2 => cases he
        rename_i as' has
        split at he
        case h_2 => cases he
        rename_i r hr
        split at he
        case isFalse => cases he
        rename_i hcond2
        cases he
        refine ⟨st.put o.dst r, ?_, Same.refl _⟩
        unfold evCall
        rw [hf]
        dsimp only
        rw [hcond.1]
        simp only [Bool.false_eq_true, if_false]
        rw [has]
        dsimp only
        rw [hr]
        dsimp only
        rw [if_pos hcond2.1, hcond.2]
        dsimp only
        have hempty : ∀ n, reach st.objs n [] = [] := fun n => by
          induction n with
          | zero => rfl
          | succ n ih => simp only [reach, List.flatMap_nil, List.nil_append]; exact ih
        rcases hcond2.2 with hnew | hids
        · rw [if_pos hnew]
        · split
          · rfl
          · rw [hids, hempty]; rfl
      · cases he
    · cases he

mutual
theorem eqW_eq : ∀ {a b : V}, eqW a b = true → a = b
  | .int .., b, h => by cases b <;> simp_all [eqW]
  | .bool _, b, h => by cases b <;> simp_all [eqW]
  | .emp, b, h => by cases b <;> simp_all [eqW]
  | .mapr _, b, h => by cases b <;> simp_all [eqW]
  | .agg cs, b, h => by
    cases b <;> simp [eqW] at h
    rw [eqWL_eq h]
  | .sl t cs, b, h => by
    cases b <;> simp [eqW] at h
    rw [h.1, eqWL_eq h.2]
  | .lit _, b, h => by cases b <;> simp [eqW] at h
  | .und, b, h => by cases b <;> simp [eqW] at h
  | .tup _, b, h => by cases b <;> simp [eqW] at h
  | .full .., b, h => by cases b <;> simp [eqW] at h
  | .fp .., b, h => by cases b <;> simp [eqW] at h
  | .own .., b, h => by cases b <;> simp [eqW] at h
  | .pre .., b, h => by cases b <;> simp [eqW] at h
  | .ptr .., b, h => by cases b <;> simp [eqW] at h
  | .clo .., b, h => by cases b <;> simp [eqW] at h
  | .junk, b, h => by cases b <;> simp [eqW] at h
theorem eqWL_eq : ∀ {a b : List V}, eqWL a b = true → a = b
  | [], [], _ => rfl
  | [], _ :: _, h => by simp [eqWL] at h
  | _ :: _, [], h => by simp [eqWL] at h
  | v :: r, u :: s, h => by
    simp only [eqWL, Bool.and_eq_true] at h
    rw [eqW_eq h.1, eqWL_eq h.2]
end
theorem sameO_eq {a b : Option Ob} (h : sameO a b = true) : a = b := by
  unfold sameO at h
  split at h
  · rename_i x y
    simp only [Bool.and_eq_true, beq_iff_eq] at h
    obtain ⟨⟨⟨⟨h1, h2⟩, h3⟩, h4⟩, h5⟩ := h
    obtain ⟨a1, a2, a3, a4, a5⟩ := x
    obtain ⟨b1, b2, b3, b4, b5⟩ := y
    dsimp only at *
    rw [h1, h2, h3, h4, eqWL_eq h5]
  · cases h
theorem restSame_spec {id : Nat} {a b : List (Nat × Ob)} : ∀ {R : List Nat}, restSame id R a b = true → ∀ j ∈ R, j ≠ id → look a j = look b j
  | [], _, _, hj, _ => by cases hj
  | i :: r, h, j, hj, hn => by
    simp only [restSame] at h
    rcases List.mem_cons.1 hj with rfl | hj
    · rw [if_neg hn, Bool.and_eq_true] at h
      exact sameO_eq h.1
    · split at h
      · exact restSame_spec h j hj hn
      · rw [Bool.and_eq_true] at h
        exact restSame_spec h.2 j hj hn
theorem mapIn_mem {objs : List (Nat × Ob)} {id : Nat} : ∀ {R : List Nat}, mapIn R objs = some id → id ∈ R
  | [], h => by cases h
  | i :: r, h => by
    simp only [mapIn] at h
    split at h
    · split at h
      · cases h; exact List.mem_cons_self
      · exact List.mem_cons_of_mem _ (mapIn_mem h)
    · exact List.mem_cons_of_mem _ (mapIn_mem h)
mutual
theorem ids_free : ∀ {r : V}, refFree r = true → ids r = []
  | .agg cs, h => by simp only [refFree] at h; simp only [ids, idsL_free h]
  | .tup cs, h => by simp only [refFree] at h; simp only [ids, idsL_free h]
  | .clo f a b, h => by
    simp only [refFree, Bool.and_eq_true] at h
    simp only [ids, idsL_free h.1, idsL_free h.2, List.append_nil]
  | .own .., h => by simp [refFree] at h
  | .pre .., h => by simp [refFree] at h
  | .ptr .., h => by simp [refFree] at h
  | .mapr _, h => by simp [refFree] at h
  | .int .., _ => rfl
  | .bool _, _ => rfl
  | .lit _, _ => rfl
  | .und, _ => rfl
  | .emp, _ => rfl
  | .sl .., _ => rfl
  | .full .., _ => rfl
  | .fp .., _ => rfl
  | .junk, _ => rfl
theorem idsL_free : ∀ {l : List V}, xS l = true → idsL l = []
  | [], _ => rfl
  | v :: r, h => by
    simp only [xS, Bool.and_eq_true] at h
    simp only [idsL, ids_free h.1, idsL_free h.2, List.append_nil]
end
theorem reach_none (objs : List (Nat × Ob)) : ∀ n, reach objs n [] = []
  | 0 => rfl
  | n + 1 => by simp only [reach, List.flatMap_nil, List.nil_append]; exact reach_none objs n
theorem effFr_ok {g : Nat} {as : List V} {d : Option Nat} {st : St} {e : Eff} (he : effFr E O g as st = some e) :
    (E.fc g).frame = true ∧ (E.fc g).fresh = false ∧ ∃ s, qZ O d g as st = some s ∧ Same s (e.ap d st) := by
  unfold effFr at he
  split at he
  case isFalse => cases he
  rename_i hc
  obtain ⟨c1, c2, c3, c4⟩ := hc
  refine ⟨c1, c2, ?_⟩
  unfold qZ
  rw [c3, c4, Bool.and_self, if_pos rfl]
  generalize reach st.objs depth (idsL as) = R at *
  cases hinl : O.inl 1000 g as { slots := [], outer := [R.map (wit st.objs)], objs := pickR R st.objs } with
  | none => rw [hinl] at he; cases he
  | some p =>
    obtain ⟨r, s⟩ := p
    rw [hinl] at he
    simp only [effFr2] at he
    simp only [xF]
    split at he
    case h_2 => cases he
    rename_i w' hw
    try rw [hw]
    try dsimp only
    split at he
    case isFalse => cases he
    rename_i hq
    obtain ⟨q1, q2, q3, q4⟩ := hq
    have hr := ids_free q4
    rw [hr, reach_none, List.append_nil, q1, q2, q3]
    simp only [List.all_nil, Bool.and_self, if_true]
    refine ⟨_, rfl, ?_⟩
    unfold effFr3 at he
    split at he
    case h_2 => cases he
    rename_i id hid
    split at he
    case h_2 => cases he
    rename_i ob hob
    split at he
    case isFalse => cases he
    rename_i hrest
    cases he
    refine put_congr (s := { st with objs := xH st.objs (xG R s.objs) }) (s' := { st with objs := upd st.objs id ob }) ⟨rfl, rfl, fun j => ?_⟩ d r
    have hidR := mapIn_mem hid
    show look (xH st.objs (xG R s.objs)) j = look (upd st.objs id ob) j
    rw [look_putObs, look_pick, look_upd]
    by_cases hj : j ∈ R
    · rw [if_pos (by simpa using hj)]
      by_cases hji : j = id
      · subst hji
        rw [hob, if_pos rfl]
      · rw [if_neg hji, restSame_spec hrest j hj hji]
        cases look st.objs j <;> rfl
    · rw [if_neg (by simpa using hj)]
      by_cases hji : j = id
      · subst hji; exact absurd hidR hj
      · rw [if_neg hji]

theorem effX_ok (hT : TyOk P E) (h : Sim C D outs st a w σ) {fc : FC} {base : Nat} {o : Oper} {e : Eff} (he : effX E O fc base o st = some e) :
    ∃ s, zH E O fc base o st = some s ∧ Same s (e.ap o.dst st) := by
  unfold effX at he
  split at he
  · rename_i e' he'
    cases he
    exact eff_ok hT h he'
  · split at he
    case h_2 => cases he
    rename_i c ho
    split at he
    case h_2 => cases he
    rename_i f hc
    unfold zH
    rw [ho]
    dsimp only
    rw [hc]
    dsimp only
    unfold effNew at he
    split at he
    case h_2 => cases he
    rename_i g first cap d hf hd
    unfold evCall
    rw [hf, hd]
    dsimp only
    split at he
    · rename_i hi
      rw [if_pos hi]
      split at he
      case isFalse =>
        obtain ⟨c1, c2, q, h1, h2⟩ := effFr_ok (d := some d) he
        rw [if_pos c1, if_neg (by rw [c2]; simp)]
        exact ⟨q, h1, h2⟩
      rename_i hcond
      obtain ⟨c1, c2, c3⟩ := hcond
      rw [if_pos c1, if_pos c2]
      split at he
      case h_2 => cases he
      rename_i as' has
      unfold evFresh
      try rw [has]
      try dsimp only
      rw [if_pos c3]
      cases hinl : O.inl 1000 g as' { slots := [], outer := [], objs := [] } with
      | none => rw [hinl] at he; cases he
      | some p =>
        obtain ⟨r, s⟩ := p
        rw [hinl] at he
        have own : ∀ j off len, r = .own j off len → ∃ q, freshed (qI fc base d) d st (some (r, s)) = some q ∧ Same q (e.ap (some d) st) := fun j off len hr => by
          subst hr
          simp only [effFreshed] at he
          split at he
          case h_2 => cases he
          rename_i ob hob hl
          split at he
          case isFalse => cases he
          rename_i hq
          cases he
          refine ⟨_, ?_, alloc_same h hl _ _ _⟩
          simp only [freshed, hob]
          rw [if_pos hq]
        have other : (∀ j off len, r ≠ .own j off len) → ∃ q, freshed (qI fc base d) d st (some (r, s)) = some q ∧ Same q (e.ap (some d) st) := fun hr => by
          refine ⟨st.put (some d) r, ?_, ?_⟩ <;> cases r <;> first
            | exact absurd rfl (hr _ _ _)
            | (simp only [effFreshed] at he
               split at he
               case isFalse => cases he
               rename_i hq
               first | (simp only [freshed]; rw [if_pos hq]) | (cases he; exact Same.refl _))
        by_cases hr : ∃ j off len, r = .own j off len
        · obtain ⟨j, off, len, hr⟩ := hr
          exact own j off len hr
        · exact other fun j off len h' => hr ⟨j, off, len, h'⟩
    · rename_i hi
      rw [if_neg hi]
      split at he
      case h_2 => cases he
      rename_i kk es hth
      split at he
      case h_2 => cases he
      rename_i as' has
      split at he
      case h_2 => cases he
      rename_i r hr
      try rw [has]
      try dsimp only
      try rw [hr]
      try dsimp only
      unfold effThaw at he
      split at he
      case h_2 => cases he
      rename_i vs
      split at he
      case h_2 => cases he
      rename_i hl
      split at he
      case isFalse => cases he
      rename_i hq
      cases he
      simp only [refFree, isNew, if_true, Option.bind_some, hth, xE]
      rw [if_pos hq]
      exact ⟨_, rfl, alloc_same h hl _ _ _⟩
end
end Go.AM
end

section
/-
A region that draws its order: right.
-/
namespace Go.AM
open Go Go.RowKit

def ap1 (s : St) (x : Rec) : St := x.eff.ap x.o.dst s
def F (s : St) (l : List Rec) : St := l.foldl ap1 s

theorem F_app (s : St) (l l' : List Rec) : F s (l ++ l') = F (F s l) l' := List.foldl_append
theorem F_cons (s : St) (x : Rec) (l : List Rec) : F s (x :: l) = F (ap1 s x) l := rfl

theorem ap1_len (s : St) (x : Rec) : (ap1 s x).slots.length = s.slots.length := by
  unfold ap1; rw [ap_slots]; split <;> simp

theorem slots_fold (t : Nat) : ∀ (l : List Rec) {s s' : St}, s.slots.length = s'.slots.length → s.slots[t]? = s'.slots[t]? →
    (F s l).slots[t]? = (F s' (l.filter fun x => x.o.dst == some t)).slots[t]?
  | [], _, _, _, h => h
  | x :: l, s, s', hl, h => by
    rw [F_cons, List.filter_cons]
    split
    · rename_i hd
      rw [F_cons]
      refine slots_fold t l (by rw [ap1_len, ap1_len, hl]) ?_
      have hd : x.o.dst = some t := by simpa using hd
      unfold ap1
      rw [ap_slots, ap_slots, hd]
      simp only [List.getElem?_set, if_true, hl]
    · rename_i hd
      refine slots_fold t l (by rw [ap1_len, hl]) ?_
      have hd : x.o.dst ≠ some t := by simpa using hd
      unfold ap1
      rw [ap_slots]
      cases hx : x.o.dst with
      | none => exact h
      | some d =>
        dsimp only
        rw [List.getElem?_set_ne (fun e => hd (by rw [hx, e]))]
        exact h

theorem look_fold (id : Nat) : ∀ (l : List Rec) {s s' : St}, look s.objs id = look s'.objs id →
    look (F s l).objs id = look (F s' (l.filter fun x => x.eff.writes.contains id)).objs id
  | [], _, _, h => h
  | x :: l, s, s', h => by
    rw [F_cons, List.filter_cons]
    split
    · rename_i hd
      rw [F_cons]
      refine look_fold id l ?_
      obtain ⟨ob, hob⟩ := obAt_some hd
      unfold ap1
      rw [ap_look, ap_look, hob]
    · rename_i hd
      refine look_fold id l ?_
      unfold ap1
      rw [ap_look, obAt_none (by simpa using hd)]
      exact h

theorem F_congr : ∀ (l : List Rec) {s s' : St}, Same s s' → Same (F s l) (F s' l)
  | [], _, _, h => h
  | _ :: l, _, _, h => F_congr l (ap_congr _ _ h)

theorem calm_spec {all : Array Oper} {x y : Rec} (h : calm all x y = true) : x.o.apart all y.o = true ∧ free x.eff.writes y.supp = true ∧ free y.eff.writes x.supp = true ∧ free x.eff.writes y.eff.writes = true := by
  unfold calm at h
  simp only [Bool.and_eq_true] at h
  exact ⟨h.1.1.1, h.1.1.2, h.1.2, h.2⟩

theorem free_spec {l l' : List Nat} (h : free l l' = true) : ∀ i ∈ l, i ∉ l' := fun i hi hi' => by
  unfold free at h
  rw [List.all_eq_true] at h
  have := h i hi
  simp at this
  exact this hi'

theorem F_comm {all : Array Oper} (x : Rec) : ∀ (l : List Rec) (s : St), (∀ y ∈ l, calm all x y = true) → Same (F (ap1 s x) l) (ap1 (F s l) x)
  | [], _, _ => Same.refl _
  | y :: l, s, h => by
    rw [F_cons, F_cons]
    obtain ⟨h1, _, _, h4⟩ := calm_spec (h y List.mem_cons_self)
    have hs : Same (ap1 (ap1 s x) y) (ap1 (ap1 s y) x) := (ap_comm (Oper.apart_spec h1).2.1 h4 s).symm
    exact (F_congr l hs).trans (F_comm x l _ fun z hz => h z (List.mem_cons_of_mem _ hz))

structure Recd (E : Env) (O : Orc) (fc : FC) (base : Nat) (all : Array Oper) (cl : List (List Nat)) (st : St) (rs : List Rec) : Prop where
  idx : ∀ j (x : Rec), rs[j]? = some x → x.i = j ∧ all[j]? = some x.o
  ok : ∀ j (x : Rec), rs[j]? = some x → (wantedV all x.o (F st (rs.take j)) = some true ∧ qJ E O fc base x.o (F st (rs.take j)) = some x.eff ∧ x.supp = supp fc base x.o (F st (rs.take j))) ∨
    (wantedV all x.o (F st (rs.take j)) = some false ∧ x.eff = .put .und)
  deps : ∀ j (x : Rec), rs[j]? = some x → ∀ d ∈ AM.deps all j, d < j
  pair : ∀ i j (x y : Rec), i < j → rs[i]? = some x → rs[j]? = some y → i ∈ cl.getD j [] ∨ calm all x y = true

theorem getElem?_snoc {α : Type} {l : List α} {x y : α} {j : Nat} (h : (l ++ [x])[j]? = some y) : (j < l.length ∧ l[j]? = some y) ∨ (j = l.length ∧ y = x) := by
  rw [List.getElem?_append] at h
  split at h
  · rename_i hj; exact .inl ⟨hj, h⟩
  · rename_i hj
    right
    have : j - l.length = 0 := by
      rcases Nat.eq_zero_or_pos (j - l.length) with h0 | h0
      · exact h0
      · rw [List.getElem?_eq_none (by simp; omega)] at h; cases h
    rw [this] at h
    simp at h
    exact ⟨by omega, h.symm⟩

section
variable {E : Env} {O : Orc} {fc : FC} {base : Nat} {all : Array Oper} {cl : List (List Nat)} {st : St}

theorem Recd.snoc {rs : List Rec} (h : Recd E O fc base all cl st rs) {x : Rec} (hi : x.i = rs.length) (ho : all[rs.length]? = some x.o)
    (hok : (wantedV all x.o (F st rs) = some true ∧ qJ E O fc base x.o (F st rs) = some x.eff ∧ x.supp = supp fc base x.o (F st rs)) ∨ (wantedV all x.o (F st rs) = some false ∧ x.eff = .put .und))
    (hd : ∀ d ∈ AM.deps all rs.length, d < rs.length) (hp : ∀ y ∈ rs, (cl.getD rs.length []).contains y.i = true ∨ calm all y x = true) : Recd E O fc base all cl st (rs ++ [x]) where
  idx := fun j y hy => by
    rcases getElem?_snoc hy with ⟨_, h1⟩ | ⟨rfl, rfl⟩
    · exact h.idx j y h1
    · exact ⟨hi, ho⟩
  ok := fun j y hy => by
    rcases getElem?_snoc hy with ⟨hj, h1⟩ | ⟨rfl, rfl⟩
    · rw [List.take_append_of_le_length (Nat.le_of_lt hj)]; exact h.ok j y h1
    · rw [List.take_append_of_le_length (Nat.le_refl _), List.take_length]; exact hok
  deps := fun j y hy => by
    rcases getElem?_snoc hy with ⟨_, h1⟩ | ⟨rfl, rfl⟩
    · exact h.deps j y h1
    · exact hd
  pair := fun i j y z hij hy hz => by
    rcases getElem?_snoc hz with ⟨hj, h1⟩ | ⟨rfl, rfl⟩
    · rcases getElem?_snoc hy with ⟨_, h2⟩ | ⟨rfl, rfl⟩
      · exact h.pair i j y z hij h2 h1
      · omega
    · rcases getElem?_snoc hy with ⟨_, h2⟩ | ⟨rfl, rfl⟩
      · rcases hp y (List.mem_of_getElem? h2) with h3 | h3
        · left
          rw [(h.idx i y h2).1] at h3
          simpa using h3
        · exact .inr h3
      · omega

theorem evD_rec : ∀ (ops' : List Oper) (rs : List Rec) {st' : St}, all.toList.drop rs.length = ops' → Recd E O fc base all cl st rs → evD E O fc base all cl (numbered rs.length ops') (F st rs) rs = some st' →
    ∃ rs', Recd E O fc base all cl st rs' ∧ rs'.length = all.size ∧ st' = F st rs'
  | [], rs, st', hall, h, he => by
    simp only [numbered, evD, Option.some.injEq] at he
    refine ⟨rs, h, ?_, he.symm⟩
    have h1 : all.size ≤ rs.length := by simpa using hall
    rcases Nat.lt_or_ge all.size rs.length with hlt | hge
    · have hx : rs[all.size]? = some (rs[all.size]) := List.getElem?_eq_getElem hlt
      have := (h.idx _ _ hx).2
      simp at this
    · omega
  | o :: r, rs, st', hall, h, he => by
    have ho : all[rs.length]? = some o := by
      have := congrArg (·[0]?) hall
      simpa using this
    have hr : all.toList.drop (rs.length + 1) = r := by
      rw [← List.drop_drop, hall]
      rfl
    simp only [numbered, evD] at he
    split at he
    · rename_i hw
      split at he
      case h_2 => cases he
      rename_i e hef
      split at he
      case isFalse => cases he
      rename_i hc
      simp only [Bool.and_eq_true] at hc
      have hsn := h.snoc (x := { i := rs.length, o := o, eff := e, supp := supp fc base o (F st rs) }) rfl ho (.inl ⟨hw, hef, rfl⟩)
        (fun d hd => by have := List.all_eq_true.1 hc.1 d hd; simpa using this)
        (fun y hy => by have := List.all_eq_true.1 hc.2 y hy; simpa using this)
      refine evD_rec r _ (by simpa using hr) hsn ?_
      rw [F_app]
      simpa [F, ap1] using he
    · rename_i hw
      split at he
      case isFalse => cases he
      rename_i hc
      simp only [Bool.and_eq_true] at hc
      have hsn := h.snoc (x := { i := rs.length, o := o, eff := .put .und, supp := [] }) rfl ho (.inr ⟨hw, rfl⟩)
        (fun d hd => by have := List.all_eq_true.1 hc.1 d hd; simpa using this)
        (fun y hy => by have := List.all_eq_true.1 hc.2 y hy; simpa using this)
      refine evD_rec r _ (by simpa using hr) hsn ?_
      rw [F_app]
      simpa [F, ap1, Eff.ap] using he
    · cases he

theorem clo_len (all : Array Oper) : ∀ n, (clo all n).length = n
  | 0 => rfl
  | n + 1 => by simp only [clo, List.length_append, clo_len all n, List.length_cons, List.length_nil]

theorem clo_ok (all : Array Oper) {L : Nat → Bool} (hL : ∀ j, L j = true → ∀ d ∈ AM.deps all j, L d = true) : ∀ (n i : Nat) (k : Nat), k ∈ (clo all n).getD i [] → (∀ d ∈ AM.deps all i, L d = true) → L k = true
  | 0, i, k, h, _ => by simp [clo] at h
  | n + 1, i, k, h, hd => by
    have hl := clo_len all n
    rw [List.getD_eq_getElem?_getD, clo, List.getElem?_append] at h
    split at h
    · exact clo_ok all hL n i k (by rw [List.getD_eq_getElem?_getD]; exact h) hd
    · rename_i hi
      rw [hl] at hi h
      cases hq : i - n with
      | succ q => rw [hq] at h; simp at h
      | zero =>
        have : i = n := by omega
        subst this
        rw [hq] at h
        simp only [List.getElem?_cons_zero, Option.getD_some, List.mem_filter, Bool.or_eq_true, List.any_eq_true] at h
        rcases h.2 with h1 | ⟨d, hd1, h1⟩
        · exact hd k (by simpa using h1)
        · exact clo_ok all hL i d k (by simpa using h1) (hL d (hd d hd1))

theorem filter_lt : ∀ (l : List Rec) (b n : Nat), (∀ k x, l[k]? = some x → x.i = b + k) → l.filter (fun y => decide (y.i < b + n)) = l.take n
  | [], _, _, _ => by simp
  | x :: l, b, n, h => by
    have hx := h 0 x rfl
    have hr := fun n => filter_lt l (b + 1) n fun k y hy => by rw [h (k + 1) y (by simpa using hy)]; omega
    cases n with
    | zero =>
      rw [List.take_zero, List.filter_eq_nil_iff]
      intro y hy
      obtain ⟨k, hk⟩ := List.mem_iff_getElem?.1 hy
      have := h k y hk
      simp; omega
    | succ n =>
      rw [List.filter_cons, if_pos (by simp; omega), List.take_succ_cons, ← hr n]
      congr 1
      refine List.filter_congr fun y _ => ?_
      congr 1
      simp; omega

theorem step_ok {rs : List Rec} (h : Recd E O fc base all (clo all all.size) st rs) {L : Nat → Bool} (hL : ∀ j, L j = true → ∀ d ∈ AM.deps all j, L d = true)
    {j : Nat} {x : Rec} (hx : rs[j]? = some x) (hj : L j = false) (hd : ∀ d ∈ AM.deps all j, L d = true) :
    (∀ t ∈ x.o.looksAt all, (F st (rs.filter fun y => L y.i)).slots[t]? = (F st (rs.take j)).slots[t]?) ∧
    (∀ id ∈ x.supp, look (F st (rs.filter fun y => L y.i)).objs id = look (F st (rs.take j)).objs id) ∧
    Same (F st (rs.filter fun y => L y.i || y.i == j)) (ap1 (F st (rs.filter fun y => L y.i)) x) := by
  have before : ∀ y ∈ rs, y.i < j → L y.i = false → calm all y x = true := fun y hy hlt hn => by
    obtain ⟨k, hk⟩ := List.mem_iff_getElem?.1 hy
    have hi := (h.idx k y hk).1
    rcases h.pair k j y x (by omega) hk hx with h1 | h1
    · have := clo_ok all hL _ _ _ h1 hd
      rw [← hi, hn] at this; cases this
    · exact h1
  have behind : ∀ y ∈ rs, j < y.i → L y.i = true → calm all x y = true := fun y hy hlt hn => by
    obtain ⟨k, hk⟩ := List.mem_iff_getElem?.1 hy
    have hi := (h.idx k y hk).1
    rcases h.pair j k x y (by omega) hx hk with h1 | h1
    · have := clo_ok all hL _ _ _ h1 (hL k (by rw [← hi]; exact hn))
      rw [hj] at this; cases this
    · exact h1
  have htake : rs.take j = rs.filter (fun y => decide (y.i < j)) := by
    have := filter_lt rs 0 j fun k y hy => by rw [(h.idx k y hy).1]; omega
    simpa using this.symm
  have same : ∀ (q : Rec → Bool), (∀ y, calm all y x = true → q y = false) → (∀ y, calm all x y = true → q y = false) → (∀ y, y ∈ rs → (q y && L y.i) = (q y && decide (y.i < j))) := fun q h1 h2 y hy => by
    cases hq : q y with
    | false => rfl
    | true =>
      simp only [Bool.true_and]
      rcases Nat.lt_trichotomy y.i j with hlt | heq | hgt
      · rw [decide_eq_true hlt]
        cases hly : L y.i with
        | true => rfl
        | false => rw [h1 y (before y hy hlt hly)] at hq; cases hq
      · rw [heq, hj]; simp
      · rw [decide_eq_false (by omega)]
        cases hly : L y.i with
        | false => rfl
        | true => rw [h2 y (behind y hy hgt hly)] at hq; cases hq
  refine ⟨fun t ht => ?_, fun id hid => ?_, ?_⟩
  · rw [htake, slots_fold t _ rfl rfl (s := st) (s' := st), slots_fold t (rs.filter fun y => decide (y.i < j)) rfl rfl (s := st) (s' := st), List.filter_filter, List.filter_filter]
    rw [List.filter_congr (same (fun y => y.o.dst == some t) (fun y hc => ?_) (fun y hc => ?_))]
    · have h1 := (Oper.apart_spec (calm_spec hc).1).1 t
      cases hb : (y.o.dst == some t) with
      | false => rfl
      | true => exact absurd ht (h1 (by simpa using hb))
    · have h1 := (Oper.apart_spec (calm_spec hc).1).2.2 t
      cases hb : (y.o.dst == some t) with
      | false => rfl
      | true => exact absurd ht (h1 (by simpa using hb))
  · rw [htake, look_fold id _ rfl (s := st) (s' := st), look_fold id (rs.filter fun y => decide (y.i < j)) rfl (s := st) (s' := st), List.filter_filter, List.filter_filter]
    rw [List.filter_congr (same (fun y => y.eff.writes.contains id) (fun y hc => ?_) (fun y hc => ?_))]
    · have h1 := free_spec (calm_spec hc).2.1 id
      cases hb : y.eff.writes.contains id with
      | false => rfl
      | true => exact absurd hid (h1 (by simpa using hb))
    · have h1 := free_spec (calm_spec hc).2.2.1 id
      cases hb : y.eff.writes.contains id with
      | false => rfl
      | true => exact absurd hid (h1 (by simpa using hb))
  · have hlt : j < rs.length := by
      rcases Nat.lt_or_ge j rs.length with h1 | h1
      · exact h1
      · rw [List.getElem?_eq_none h1] at hx; cases hx
    have hxe : rs[j] = x := by rw [List.getElem?_eq_getElem hlt] at hx; exact Option.some.inj hx
    have hsplit : rs = rs.take j ++ x :: rs.drop (j + 1) := by
      rw [← hxe, List.getElem_cons_drop, List.take_append_drop]
    have hxi : x.i = j := (h.idx j x hx).1
    have hA : ∀ y ∈ rs.take j, y.i < j := fun y hy => by
      rw [htake, List.mem_filter] at hy
      simpa using hy.2
    have hB : ∀ y ∈ rs.drop (j + 1), j < y.i ∧ y ∈ rs := fun y hy => by
      obtain ⟨k, hk⟩ := List.mem_iff_getElem?.1 hy
      rw [List.getElem?_drop] at hk
      exact ⟨by rw [(h.idx _ y hk).1]; omega, List.mem_of_getElem? hk⟩
    have e1 : rs.filter (fun y => L y.i || y.i == j) = (rs.take j).filter (fun y => L y.i) ++ x :: (rs.drop (j + 1)).filter (fun y => L y.i) := by
      conv => lhs; rw [hsplit]
      rw [List.filter_append, List.filter_cons, if_pos (by simp [hxi])]
      congr 1
      · refine List.filter_congr fun y hy => ?_
        have := hA y hy
        have : (y.i == j) = false := by simp; omega
        rw [this, Bool.or_false]
      · congr 1
        refine List.filter_congr fun y hy => ?_
        have := (hB y hy).1
        have : (y.i == j) = false := by simp; omega
        rw [this, Bool.or_false]
    have e2 : rs.filter (fun y => L y.i) = (rs.take j).filter (fun y => L y.i) ++ (rs.drop (j + 1)).filter (fun y => L y.i) := by
      conv => lhs; rw [hsplit]
      rw [List.filter_append, List.filter_cons, if_neg (by rw [hxi, hj]; simp)]
    rw [e1, e2, F_app, F_app, F_cons]
    refine F_comm (all := all) x _ _ fun y hy => ?_
    rw [List.mem_filter] at hy
    exact behind y (hB y hy.1).2 (hB y hy.1).1 hy.2

end

section
variable {P : Program} {E : Env} {O : Orc} {C : Cx} {D : List Deferred} {outs : List (List Value)} {st st' : St} {a : Act} {w : World} {σ : Places} {ro : Option Nat} {m : Nat} {Q : Exit → Act → World → Prop}

theorem get_of_slots {s s' : St} {t : Nat} (h : s.slots[t]? = s'.slots[t]?) : s.get t = s'.get t := by
  unfold St.get
  rw [List.getD_eq_getElem?_getD, List.getD_eq_getElem?_getD, h]

theorem drawn_ok (hT : TyOk P E) (hO : OrcOk P E O) {fc : FC} {base : Nat} {all : Array Oper} {rs : List Rec} (hr : Recd E O fc base all (clo all all.size) st rs) (hn : rs.length = all.size)
    (hQ : ∀ a' w' σ', Sim C D outs (F st rs) a' w' σ' → Q .normal a' w') : ∀ (fuel : Nat) (listed : Array Bool) {s : St} {a : Act} {w : World} {σ : Places},
    listed.size = all.size → listed.toList.count false = fuel → (∀ j, listed.getD j false = true → ∀ d ∈ deps all j, listed.getD d false = true) →
    Sim C D outs s a w σ → Same s (F st (rs.filter fun y => listed.getD y.i false)) → wpAnyIn (W ro) m P .any all Q fuel listed a w := by
  have fin : ∀ (listed : Array Bool) {s : St} {a : Act} {w : World} {σ : Places}, listed.size = all.size → Sim C D outs s a w σ → Same s (F st (rs.filter fun y => listed.getD y.i false)) →
      Region.ready .any all listed = [] → Q .normal a w := fun listed s a w σ hsz h hs hrd => by
    have full : ∀ j, j < all.size → listed.getD j false = true := by
      intro j
      induction j using Nat.strongRecOn with
      | ind j ih =>
        intro hj
        cases hl : listed.getD j false with
        | true => rfl
        | false =>
          exfalso
          have hx : rs[j]? = some rs[j] := List.getElem?_eq_getElem (by omega)
          have ho := (hr.idx j _ hx).2
          have : j ∈ Region.ready .any all listed := by
            refine mem_ready.2 ⟨?_, _, ho, fun e he hb => ?_⟩
            · have hjs : j < listed.size := by omega
              simp only [Array.getD_eq_getD_getElem?, Array.getElem?_eq_getElem hjs, Option.getD_some] at hl ⊢
              exact hl
            · have hdm : e.on ∈ deps all j := by
                unfold deps
                rw [ho]
                exact List.mem_map.2 ⟨e, List.mem_filter.2 ⟨by simpa using he, hb⟩, rfl⟩
              have hlt := hr.deps j _ hx _ hdm
              exact ih e.on hlt (by omega)
          rw [hrd] at this
          cases this
    have hf : rs.filter (fun y => listed.getD y.i false) = rs := by
      rw [List.filter_eq_self]
      intro y hy
      obtain ⟨k, hk⟩ := List.mem_iff_getElem?.1 hy
      rw [(hr.idx k y hk).1]
      refine full k ?_
      rcases Nat.lt_or_ge k rs.length with h1 | h1
      · omega
      · rw [List.getElem?_eq_none h1] at hk; cases hk
    rw [hf] at hs
    exact hQ a w σ (hs.sim h)
  intro fuel
  induction fuel with
  | zero =>
    intro listed s a w σ hsz hc hcl h hs
    have hrd : Region.ready .any all listed = [] := by
      rw [List.eq_nil_iff_forall_not_mem]
      intro j hj
      obtain ⟨hj1, o, ho, _⟩ := mem_ready.1 hj
      have hlt : j < listed.size := by
        rcases Nat.lt_or_ge j listed.size with h1 | h1
        · exact h1
        · simp [Array.getD_eq_getD_getElem?, Array.getElem?_eq_none h1] at hj1
      rw [List.count_eq_zero] at hc
      apply hc
      simp only [Array.getD_eq_getD_getElem?, Array.getElem?_eq_getElem hlt, Option.getD_some] at hj1
      rw [← hj1]
      exact Array.getElem_mem_toList hlt
    exact ⟨hrd, fin listed hsz h hs hrd⟩
  | succ fuel ih =>
    intro listed s a w σ hsz hc hcl h hs
    refine ⟨fin listed hsz h hs, fun j hj => ?_⟩
    obtain ⟨hj1, o, ho, hafter⟩ := mem_ready.1 hj
    have hlt : j < listed.size := by
      rcases Nat.lt_or_ge j listed.size with h1 | h1
      · exact h1
      · simp [Array.getD_eq_getD_getElem?, Array.getElem?_eq_none h1] at hj1
    have hj2 : listed.getD j false = false := by
      simp only [Array.getD_eq_getD_getElem?, Array.getElem?_eq_getElem hlt, Option.getD_some] at hj1 ⊢
      exact hj1
    have hx : rs[j]? = some rs[j] := List.getElem?_eq_getElem (by omega)
    generalize rs[j] = x at hx
    have hxo : x.o = o := by
      have := (hr.idx j x hx).2
      rw [ho] at this
      exact (Option.some.inj this).symm
    subst hxo
    have hdeps : ∀ d ∈ deps all j, listed.getD d false = true := fun d hd => by
      unfold deps at hd
      rw [ho] at hd
      obtain ⟨e, he, rfl⟩ := List.mem_map.1 hd
      rw [List.mem_filter] at he
      exact hafter e (by simpa using he.1) he.2
    obtain ⟨hA, hB, hC⟩ := step_ok hr (L := fun i => listed.getD i false) hcl hx hj2 hdeps
    have hgetset : ∀ i, (listed.setIfInBounds j true).getD i false = (listed.getD i false || i == j) := fun i => by
      simp only [Array.getD_eq_getD_getElem?, Array.getElem?_setIfInBounds]
      by_cases hij : j = i
      · subst hij; simp [hlt]
      · have : (i == j) = false := by simp; omega
        rw [if_neg hij, this, Bool.or_false]
    have hslot : ∀ t ∈ x.o.looksAt all, s.slots[t]? = (F st (rs.take j)).slots[t]? := fun t ht => by rw [hs.slots]; exact hA t ht
    have hw' : wantedV all x.o s = wantedV all x.o (F st (rs.take j)) := wantedV_local fun g b d hg hd => get_of_slots (hslot d (by
      unfold Oper.looksAt
      refine List.mem_append_right _ ?_
      rw [hg]
      simp [hd]))
    -- what comes next
    have next : ∀ (s1 : St) (a' : Act) (w' : World) (σ' : Places), Same s1 (ap1 s x) → Sim C D outs s1 a' w' σ' → wpAnyIn (W ro) m P .any all Q fuel (listed.setIfInBounds j true) a' w' := fun s1 a' w' σ' hs1 h1 => by
      refine ih _ (by simpa using hsz) ?_ ?_ h1 ?_
      · rw [Array.toList_setIfInBounds, List.count_set (by simpa using hlt)]
        have : listed.toList[j] = false := by
          simp only [Array.getD_eq_getD_getElem?, Array.getElem?_eq_getElem hlt, Option.getD_some] at hj2
          simpa using hj2
        rw [this, hc]
        simp
      · intro i hi d hd
        rw [hgetset] at hi ⊢
        simp only [Bool.or_eq_true] at hi ⊢
        left
        rcases hi with hi | hi
        · exact hcl i hi d hd
        · have : i = j := by simpa using hi
          subst this
          exact hdeps d hd
      · have e : (rs.filter fun y => (listed.setIfInBounds j true).getD y.i false) = rs.filter fun y => listed.getD y.i false || y.i == j := List.filter_congr fun y _ => hgetset y.i
        rw [e]
        exact hs1.trans ((ap_congr _ _ hs).trans hC.symm)
    unfold wpOpIn
    rw [ho]
    dsimp only
    rcases hr.ok j x hx with ⟨hw1, he, hsu⟩ | ⟨hw1, he⟩
    · rw [← hw'] at hw1
      rw [if_pos (wanted_ok h hw1)]
      have hag : Agree (F st (rs.take j)) s x.o.op.operands.toList (supp fc base x.o (F st (rs.take j))) := by
        refine ⟨fun y hy => ?_, fun i hi => ?_⟩
        · cases y with
          | tmp t => exact (get_of_slots (hslot t (by
              unfold Oper.looksAt
              exact List.mem_append_left _ (List.mem_filterMap.2 ⟨.tmp t, hy, rfl⟩)))).symm
          | _ => rfl
        · rw [hs.objs]
          exact (hB i (by rw [hsu]; exact hi)).symm
      rw [effOf_local hag] at he
      obtain ⟨s1, h1, h2⟩ := eff_ok hT h he
      exact evOp_ok hT hO h h1 fun a' w' σ' h' => next s1 a' w' σ' h2 h'
    · rw [← hw'] at hw1
      have hwf := wanted_ok h hw1
      rw [hwf]
      simp only [Bool.false_eq_true, if_false]
      refine ⟨fun _ _ => trivial, next (s.put x.o.dst .und) _ _ _ ?_ (h.put (v := .und) rfl)⟩
      unfold ap1
      rw [he]
      exact Same.refl _

theorem evD_ok (hT : TyOk P E) (hO : OrcOk P E O) {fc : FC} {base : Nat} {ops : Array Oper} (h : Sim C D outs st a w σ) (he : evD E O fc base ops (clo ops ops.size) (numbered 0 ops.toList) st [] = some st')
    (hQ : ∀ a' w' σ', Sim C D outs st' a' w' σ' → Q .normal a' w') : wpAnyIn (W ro) m P .any ops Q ops.size (Array.replicate ops.size false) a { w with drawn := w.drawn + 1 } := by
  have h0 : Recd E O fc base ops (clo ops ops.size) st [] := ⟨fun _ _ h => by simp at h, fun _ _ h => by simp at h, fun _ _ h => by simp at h, fun _ _ _ _ _ h => by simp at h⟩
  obtain ⟨rs, hr, hn, rfl⟩ := evD_rec ops.toList [] rfl h0 he
  have hg : ∀ j, (Array.replicate ops.size false).getD j false = false := fun j => by
    simp only [Array.getD_eq_getD_getElem?, Array.getElem?_replicate]
    split <;> rfl
  refine drawn_ok hT hO hr hn hQ ops.size _ (by simp) (by simp) (fun j hj => by rw [hg] at hj; cases hj) (h.world (w' := { w with drawn := w.drawn + 1 }) ?_) ?_
  · exact ⟨rfl, rfl, rfl, Nat.le_refl _, fun _ _ => rfl⟩
  · have : (rs.filter fun y => (Array.replicate ops.size false).getD y.i false) = [] := by
      rw [List.filter_eq_nil_iff]
      intro y _
      rw [hg]; simp
    rw [this]
    exact Same.refl _
end
end Go.AM
end

section
/-
Regions that draw their order, with operations that stand between all others: right.
-/
namespace Go.AM
open Go Go.RowKit

structure RecB (ef : Oper → St → Option Eff) (sp : Oper → St → List Nat) (all : Array Oper) (cl : List (List Nat)) (st : St) (lo : Nat) (rs : List Rec) : Prop where
  idx : ∀ j (x : Rec), rs[j]? = some x → x.i = j
  op : ∀ j (x : Rec), rs[j]? = some x → lo ≤ j → all[j]? = some x.o
  nop : ∀ j (x : Rec), rs[j]? = some x → j < lo → x.o.dst = none ∧ x.eff = .put .und
  ok : ∀ j (x : Rec), rs[j]? = some x → lo ≤ j → (wantedV all x.o (F st (rs.take j)) = some true ∧ ef x.o (F st (rs.take j)) = some x.eff ∧ x.supp = sp x.o (F st (rs.take j))) ∨
    (wantedV all x.o (F st (rs.take j)) = some false ∧ x.eff = .put .und)
  deps : ∀ j (x : Rec), rs[j]? = some x → lo ≤ j → ∀ d ∈ AM.deps all j, d < j
  pair : ∀ i j (x y : Rec), i < j → lo ≤ j → rs[i]? = some x → rs[j]? = some y → i ∈ cl.getD j [] ∨ calm all x y = true

section
variable {E : Env} {O : Orc} {fc : FC} {base : Nat} {ef : Oper → St → Option Eff} {sp : Oper → St → List Nat} {bk : Oper → St → Bool} {all : Array Oper} {cl : List (List Nat)} {st : St}

theorem RecB.snoc {lo : Nat} {rs : List Rec} (h : RecB ef sp all cl st lo rs) (hlo : lo ≤ rs.length) {x : Rec} (hi : x.i = rs.length) (ho : all[rs.length]? = some x.o)
    (hok : (wantedV all x.o (F st rs) = some true ∧ ef x.o (F st rs) = some x.eff ∧ x.supp = sp x.o (F st rs)) ∨ (wantedV all x.o (F st rs) = some false ∧ x.eff = .put .und))
    (hd : ∀ d ∈ AM.deps all rs.length, d < rs.length) (hp : ∀ y ∈ rs, (cl.getD rs.length []).contains y.i = true ∨ calm all y x = true) : RecB ef sp all cl st lo (rs ++ [x]) where
  idx := fun j y hy => by
    rcases getElem?_snoc hy with ⟨_, h1⟩ | ⟨rfl, rfl⟩
    · exact h.idx j y h1
    · exact hi
  op := fun j y hy hj => by
    rcases getElem?_snoc hy with ⟨_, h1⟩ | ⟨rfl, rfl⟩
    · exact h.op j y h1 hj
    · exact ho
  nop := fun j y hy hj => by
    rcases getElem?_snoc hy with ⟨_, h1⟩ | ⟨rfl, rfl⟩
    · exact h.nop j y h1 hj
    · omega
  ok := fun j y hy hl => by
    rcases getElem?_snoc hy with ⟨hj, h1⟩ | ⟨rfl, rfl⟩
    · rw [List.take_append_of_le_length (Nat.le_of_lt hj)]; exact h.ok j y h1 hl
    · rw [List.take_append_of_le_length (Nat.le_refl _), List.take_length]; exact hok
  deps := fun j y hy hl => by
    rcases getElem?_snoc hy with ⟨_, h1⟩ | ⟨rfl, rfl⟩
    · exact h.deps j y h1 hl
    · exact hd
  pair := fun i j y z hij hl hy hz => by
    rcases getElem?_snoc hz with ⟨hj, h1⟩ | ⟨rfl, rfl⟩
    · rcases getElem?_snoc hy with ⟨_, h2⟩ | ⟨rfl, rfl⟩
      · exact h.pair i j y z hij hl h2 h1
      · omega
    · rcases getElem?_snoc hy with ⟨_, h2⟩ | ⟨rfl, rfl⟩
      · rcases hp y (List.mem_of_getElem? h2) with h3 | h3
        · left
          rw [h.idx i y h2] at h3
          simpa using h3
        · exact .inr h3
      · omega

theorem evB_seg {lo : Nat} : ∀ (ops' : List Oper) (rs : List Rec) {st' : St}, all.toList.drop rs.length = ops' → lo ≤ rs.length → rs.length ≤ all.size → RecB ef sp all cl st lo rs →
    evB E O fc base ef sp bk all cl (numbered rs.length ops') (F st rs) rs = some st' →
    ∃ rs', RecB ef sp all cl st lo rs' ∧ lo ≤ rs'.length ∧ ((rs'.length = all.size ∧ st' = F st rs') ∨
      ∃ o s, all[rs'.length]? = some o ∧ wantedV all o (F st rs') = some true ∧ barAt all cl rs'.length = true ∧ zH E O fc base o (F st rs') = some s ∧
        evB E O fc base ef sp bk all cl (numbered (rs'.length + 1) (all.toList.drop (rs'.length + 1))) s (nops (rs'.length + 1) o) = some st')
  | [], rs, st', hall, hlo, hle, h, he => by
    simp only [numbered, evB, Option.some.injEq] at he
    refine ⟨rs, h, hlo, .inl ⟨?_, he.symm⟩⟩
    have h1 : all.size ≤ rs.length := by simpa using hall
    omega
  | o :: r, rs, st', hall, hlo, hle, h, he => by
    have ho : all[rs.length]? = some o := by
      have := congrArg (·[0]?) hall
      simpa using this
    have hlt : rs.length < all.size := (Array.getElem?_eq_some_iff.1 ho).1
    have hr : all.toList.drop (rs.length + 1) = r := by
      rw [← List.drop_drop, hall]
      rfl
    simp only [numbered, evB] at he
    split at he
    · rename_i hw
      split at he
      · rename_i e hef
        split at he
        case isFalse => cases he
        rename_i hc
        simp only [Bool.and_eq_true] at hc
        have hsn := h.snoc hlo (x := { i := rs.length, o := o, eff := e, supp := sp o (F st rs) }) rfl ho (.inl ⟨hw, hef, rfl⟩)
          (fun d hd => by have := List.all_eq_true.1 hc.1 d hd; simpa using this)
          (fun y hy => by have := List.all_eq_true.1 hc.2 y hy; simpa using this)
        refine evB_seg r _ (by simpa using hr) (by simp; omega) (by simp; omega) hsn ?_
        rw [F_app]
        simpa [F, ap1] using he
      · rename_i hef
        split at he
        case isFalse => cases he
        rename_i hc
        simp only [Bool.and_eq_true] at hc
        split at he
        case h_2 => cases he
        rename_i s hs
        refine ⟨rs, h, hlo, .inr ⟨o, s, ho, hw, hc.2, hs, ?_⟩⟩
        rw [hr]
        exact he
    · rename_i hw
      split at he
      case isFalse => cases he
      rename_i hc
      simp only [Bool.and_eq_true] at hc
      have hsn := h.snoc hlo (x := { i := rs.length, o := o, eff := .put .und, supp := [] }) rfl ho (.inr ⟨hw, rfl⟩)
        (fun d hd => by have := List.all_eq_true.1 hc.1 d hd; simpa using this)
        (fun y hy => by have := List.all_eq_true.1 hc.2 y hy; simpa using this)
      refine evB_seg r _ (by simpa using hr) (by simp; omega) (by simp; omega) hsn ?_
      rw [F_app]
      simpa [F, ap1, Eff.ap] using he
    · cases he

theorem step_okB {lo : Nat} {rs : List Rec} (h : RecB ef sp all cl st lo rs) {L : Nat → Bool} (hL : ∀ j, L j = true → ∀ d ∈ AM.deps all j, L d = true) (hC : ∀ i k, k ∈ cl.getD i [] → (∀ d ∈ AM.deps all i, L d = true) → L k = true)
    {j : Nat} {x : Rec} (hlo : lo ≤ j) (hx : rs[j]? = some x) (hj : L j = false) (hd : ∀ d ∈ AM.deps all j, L d = true) :
    (∀ t ∈ x.o.looksAt all, (F st (rs.filter fun y => L y.i)).slots[t]? = (F st (rs.take j)).slots[t]?) ∧
    (∀ id ∈ x.supp, look (F st (rs.filter fun y => L y.i)).objs id = look (F st (rs.take j)).objs id) ∧
    Same (F st (rs.filter fun y => L y.i || y.i == j)) (ap1 (F st (rs.filter fun y => L y.i)) x) := by
  have before : ∀ y ∈ rs, y.i < j → L y.i = false → calm all y x = true := fun y hy hlt hn => by
    obtain ⟨k, hk⟩ := List.mem_iff_getElem?.1 hy
    have hi := h.idx k y hk
    rcases h.pair k j y x (by omega) hlo hk hx with h1 | h1
    · have := hC _ _ h1 hd
      rw [← hi, hn] at this; cases this
    · exact h1
  have behind : ∀ y ∈ rs, j < y.i → L y.i = true → calm all x y = true := fun y hy hlt hn => by
    obtain ⟨k, hk⟩ := List.mem_iff_getElem?.1 hy
    have hi := h.idx k y hk
    rcases h.pair j k x y (by omega) (by omega) hx hk with h1 | h1
    · have := hC _ _ h1 (hL k (by rw [← hi]; exact hn))
      rw [hj] at this; cases this
    · exact h1
  have htake : rs.take j = rs.filter (fun y => decide (y.i < j)) := by
    have := filter_lt rs 0 j fun k y hy => by rw [h.idx k y hy]; omega
    simpa using this.symm
  have same : ∀ (q : Rec → Bool), (∀ y, calm all y x = true → q y = false) → (∀ y, calm all x y = true → q y = false) → (∀ y, y ∈ rs → (q y && L y.i) = (q y && decide (y.i < j))) := fun q h1 h2 y hy => by
    cases hq : q y with
    | false => rfl
    | true =>
      simp only [Bool.true_and]
      rcases Nat.lt_trichotomy y.i j with hlt | heq | hgt
      · rw [decide_eq_true hlt]
        cases hly : L y.i with
        | true => rfl
        | false => rw [h1 y (before y hy hlt hly)] at hq; cases hq
      · rw [heq, hj]; simp
      · rw [decide_eq_false (by omega)]
        cases hly : L y.i with
        | false => rfl
        | true => rw [h2 y (behind y hy hgt hly)] at hq; cases hq
  refine ⟨fun t ht => ?_, fun id hid => ?_, ?_⟩
  · rw [htake, slots_fold t _ rfl rfl (s := st) (s' := st), slots_fold t (rs.filter fun y => decide (y.i < j)) rfl rfl (s := st) (s' := st), List.filter_filter, List.filter_filter]
    rw [List.filter_congr (same (fun y => y.o.dst == some t) (fun y hc => ?_) (fun y hc => ?_))]
    · have h1 := (Oper.apart_spec (calm_spec hc).1).1 t
      cases hb : (y.o.dst == some t) with
      | false => rfl
      | true => exact absurd ht (h1 (by simpa using hb))
    · have h1 := (Oper.apart_spec (calm_spec hc).1).2.2 t
      cases hb : (y.o.dst == some t) with
      | false => rfl
      | true => exact absurd ht (h1 (by simpa using hb))
  · rw [htake, look_fold id _ rfl (s := st) (s' := st), look_fold id (rs.filter fun y => decide (y.i < j)) rfl (s := st) (s' := st), List.filter_filter, List.filter_filter]
    rw [List.filter_congr (same (fun y => y.eff.writes.contains id) (fun y hc => ?_) (fun y hc => ?_))]
    · have h1 := free_spec (calm_spec hc).2.1 id
      cases hb : y.eff.writes.contains id with
      | false => rfl
      | true => exact absurd hid (h1 (by simpa using hb))
    · have h1 := free_spec (calm_spec hc).2.2.1 id
      cases hb : y.eff.writes.contains id with
      | false => rfl
      | true => exact absurd hid (h1 (by simpa using hb))
  · have hlt : j < rs.length := by
      rcases Nat.lt_or_ge j rs.length with h1 | h1
      · exact h1
      · rw [List.getElem?_eq_none h1] at hx; cases hx
    have hxe : rs[j] = x := by rw [List.getElem?_eq_getElem hlt] at hx; exact Option.some.inj hx
    have hsplit : rs = rs.take j ++ x :: rs.drop (j + 1) := by
      rw [← hxe, List.getElem_cons_drop, List.take_append_drop]
    have hxi : x.i = j := h.idx j x hx
    have hA : ∀ y ∈ rs.take j, y.i < j := fun y hy => by
      rw [htake, List.mem_filter] at hy
      simpa using hy.2
    have hB : ∀ y ∈ rs.drop (j + 1), j < y.i ∧ y ∈ rs := fun y hy => by
      obtain ⟨k, hk⟩ := List.mem_iff_getElem?.1 hy
      rw [List.getElem?_drop] at hk
      exact ⟨by rw [h.idx _ y hk]; omega, List.mem_of_getElem? hk⟩
    have e1 : rs.filter (fun y => L y.i || y.i == j) = (rs.take j).filter (fun y => L y.i) ++ x :: (rs.drop (j + 1)).filter (fun y => L y.i) := by
      conv => lhs; rw [hsplit]
      rw [List.filter_append, List.filter_cons, if_pos (by simp [hxi])]
      congr 1
      · refine List.filter_congr fun y hy => ?_
        have := hA y hy
        have : (y.i == j) = false := by simp; omega
        rw [this, Bool.or_false]
      · congr 1
        refine List.filter_congr fun y hy => ?_
        have := (hB y hy).1
        have : (y.i == j) = false := by simp; omega
        rw [this, Bool.or_false]
    have e2 : rs.filter (fun y => L y.i) = (rs.take j).filter (fun y => L y.i) ++ (rs.drop (j + 1)).filter (fun y => L y.i) := by
      conv => lhs; rw [hsplit]
      rw [List.filter_append, List.filter_cons, if_neg (by rw [hxi, hj]; simp)]
    rw [e1, e2, F_app, F_app, F_cons]
    refine F_comm (all := all) x _ _ fun y hy => ?_
    rw [List.mem_filter] at hy
    exact behind y (hB y hy.1).2 (hB y hy.1).1 hy.2


theorem nops_get {n j : Nat} {o : Oper} {x : Rec} (h : (nops n o)[j]? = some x) : x.i = j ∧ j < n ∧ x.o.dst = none ∧ x.eff = .put .und := by
  unfold nops at h
  rw [List.getElem?_map] at h
  obtain ⟨i, hi, rfl⟩ := Option.map_eq_some_iff.1 h
  obtain ⟨h1, h2⟩ := List.getElem?_eq_some_iff.1 hi
  simp at h1 h2
  subst h2
  exact ⟨rfl, h1, rfl, rfl⟩

theorem nops_len (n : Nat) (o : Oper) : (nops n o).length = n := by simp [nops]

theorem F_nop (s : St) : ∀ (l : List Rec), (∀ x ∈ l, x.o.dst = none ∧ x.eff = .put .und) → F s l = s
  | [], _ => rfl
  | x :: l, h => by
    rw [F_cons]
    have hx := h x List.mem_cons_self
    have : ap1 s x = s := by unfold ap1; rw [hx.1, hx.2]; rfl
    rw [this]
    exact F_nop s l fun y hy => h y (List.mem_cons_of_mem _ hy)

theorem RecB.nops (n : Nat) (o : Oper) : RecB ef sp all cl st n (nops n o) where
  idx := fun j x h => (nops_get h).1
  op := fun j x h hj => by have := (nops_get h).2.1; omega
  nop := fun j x h _ => (nops_get h).2.2
  ok := fun j x h hj => by have := (nops_get h).2.1; omega
  deps := fun j x h hj => by have := (nops_get h).2.1; omega
  pair := fun i j x y hij hj _ h => by have := (nops_get h).2.1; omega

end

section
variable {P : Program} {E : Env} {O : Orc} {C : Cx} {D : List Deferred} {outs : List (List Value)} {st st' : St} {a : Act} {w : World} {σ : Places} {ro : Option Nat} {m : Nat} {Q : Exit → Act → World → Prop}

structure EfOk (P : Program) (E : Env) (O : Orc) (fc : FC) (base : Nat) (ef : Oper → St → Option Eff) (sp : Oper → St → List Nat) : Prop where
  loc : ∀ o s s', Agree s s' o.op.operands.toList (sp o s) → ef o s = ef o s'
  ok : ∀ {C : Cx} {D : List Deferred} {outs : List (List Value)} {st : St} {a : Act} {w : World} {σ : Places} {o : Oper} {e : Eff}, Sim C D outs st a w σ → ef o st = some e → ∃ s, zH E O fc base o st = some s ∧ Same s (e.ap o.dst st)

theorem efOk_of (hT : TyOk P E) {fc : FC} {base : Nat} : EfOk P E O fc base (qJ E O fc base) (supp fc base) := ⟨fun _ _ _ h => effOf_local h, fun h he => eff_ok hT h he⟩
theorem efOk_X (hT : TyOk P E) {fc : FC} {base : Nat} : EfOk P E O fc base (effX E O fc base) (suppX fc base) := ⟨fun _ _ _ h => effX_local h, fun h he => effX_ok hT h he⟩

def ClOk (all : Array Oper) (cl : List (List Nat)) (ld : Nat) : Prop :=
  ∀ L : Nat → Bool, (∀ j, L j = true → ∀ d ∈ deps all j, L d = true) → (∀ j, j < ld → L j = true) → ∀ i k, k ∈ cl.getD i [] → (∀ d ∈ deps all i, L d = true) → L k = true

theorem seg_ok (hT : TyOk P E) (hO : OrcOk P E O) {fc : FC} {base : Nat} {ef : Oper → St → Option Eff} {sp : Oper → St → List Nat} (hE : EfOk P E O fc base ef sp) {all : Array Oper} {cl : List (List Nat)} {ld lo : Nat} {rs : List Rec} (hCl : ClOk all cl ld) (hld : ld ≤ lo) (hlr : lo ≤ rs.length) (hr : RecB ef sp all cl st lo rs) (hle : rs.length ≤ all.size)
    (hbar : ∀ j, rs.length ≤ j → j < all.size → ∀ L : Nat → Bool, (∀ j, L j = true → ∀ d ∈ deps all j, L d = true) → (∀ j, j < ld → L j = true) → (∀ d ∈ deps all j, L d = true) → ∀ i, i < rs.length → L i = true)
    (hQ : ∀ (fuel : Nat) (listed : Array Bool) (a : Act) (w : World) (σ : Places), listed.size = all.size → listed.toList.count false = fuel → (∀ j, listed.getD j false = true → ∀ d ∈ deps all j, listed.getD d false = true) →
      (∀ j, j < rs.length → listed.getD j false = true) → (∀ j, rs.length ≤ j → listed.getD j false = false) → Sim C D outs (F st rs) a w σ → wpAnyIn (W ro) m P .any all Q fuel listed a w) :
    ∀ (fuel : Nat) (listed : Array Bool) {s : St} {a : Act} {w : World} {σ : Places},
    listed.size = all.size → listed.toList.count false = fuel → (∀ j, listed.getD j false = true → ∀ d ∈ deps all j, listed.getD d false = true) →
    (∀ j, j < lo → j < rs.length → listed.getD j false = true) → (∀ j, rs.length ≤ j → listed.getD j false = false) →
    Sim C D outs s a w σ → Same s (F st (rs.filter fun y => listed.getD y.i false)) → wpAnyIn (W ro) m P .any all Q fuel listed a w := by
  intro fuel
  induction fuel with
  | zero =>
    intro listed s a w σ hsz hc hcl hlow hhi h hs
    have full : ∀ j, j < all.size → listed.getD j false = true := fun j hj => by
      rw [List.count_eq_zero] at hc
      have hjs : j < listed.size := by omega
      cases hl : listed.getD j false with
      | true => rfl
      | false =>
        exfalso
        apply hc
        simp only [Array.getD_eq_getD_getElem?, Array.getElem?_eq_getElem hjs, Option.getD_some] at hl
        rw [← hl]
        exact Array.getElem_mem_toList hjs
    have hf : rs.filter (fun y => listed.getD y.i false) = rs := by
      rw [List.filter_eq_self]
      intro y hy
      obtain ⟨k, hk⟩ := List.mem_iff_getElem?.1 hy
      rw [hr.idx k y hk]
      have := (List.getElem?_eq_some_iff.1 hk).1
      exact full k (by omega)
    rw [hf] at hs
    exact hQ 0 listed a w σ hsz hc hcl (fun j hj => full j (by omega)) hhi (hs.sim h)
  | succ fuel ih =>
    intro listed s a w σ hsz hc hcl hlow hhi h hs
    by_cases hfull : ∀ j, j < rs.length → listed.getD j false = true
    · have hf : rs.filter (fun y => listed.getD y.i false) = rs := by
        rw [List.filter_eq_self]
        intro y hy
        obtain ⟨k, hk⟩ := List.mem_iff_getElem?.1 hy
        rw [hr.idx k y hk]
        exact hfull k (List.getElem?_eq_some_iff.1 hk).1
      rw [hf] at hs
      exact hQ _ listed a w σ hsz hc hcl hfull hhi (hs.sim h)
    · refine ⟨fun hrd => ?_, fun j hj => ?_⟩
      · exfalso
        apply hfull
        intro j
        induction j using Nat.strongRecOn with
        | ind j ihj =>
          intro hj
          cases hl : listed.getD j false with
          | true => rfl
          | false =>
            exfalso
            have hx : rs[j]? = some rs[j] := List.getElem?_eq_getElem hj
            have hlo : lo ≤ j := by
              rcases Nat.lt_or_ge j lo with h1 | h1
              · rw [hlow j h1 hj] at hl; cases hl
              · exact h1
            have ho := hr.op j _ hx hlo
            have : j ∈ Region.ready .any all listed := by
              refine mem_ready.2 ⟨?_, _, ho, fun e he hb => ?_⟩
              · have hjs : j < listed.size := by omega
                simp only [Array.getD_eq_getD_getElem?, Array.getElem?_eq_getElem hjs, Option.getD_some] at hl ⊢
                exact hl
              · have hdm : e.on ∈ deps all j := by
                  unfold deps
                  rw [ho]
                  exact List.mem_map.2 ⟨e, List.mem_filter.2 ⟨by simpa using he, hb⟩, rfl⟩
                have hlt := hr.deps j _ hx hlo _ hdm
                exact ihj e.on hlt (by omega)
            rw [hrd] at this
            cases this
      · obtain ⟨hj1, o, ho, hafter⟩ := mem_ready.1 hj
        have hlt : j < listed.size := by
          rcases Nat.lt_or_ge j listed.size with h1 | h1
          · exact h1
          · simp [Array.getD_eq_getD_getElem?, Array.getElem?_eq_none h1] at hj1
        have hj2 : listed.getD j false = false := by
          simp only [Array.getD_eq_getD_getElem?, Array.getElem?_eq_getElem hlt, Option.getD_some] at hj1 ⊢
          exact hj1
        have hdeps : ∀ d ∈ deps all j, listed.getD d false = true := fun d hd => by
          unfold deps at hd
          rw [ho] at hd
          obtain ⟨e, he, rfl⟩ := List.mem_map.1 hd
          rw [List.mem_filter] at he
          exact hafter e (by simpa using he.1) he.2
        have hjr : j < rs.length := by
          rcases Nat.lt_or_ge j rs.length with h1 | h1
          · exact h1
          · exact absurd (hbar j h1 (by omega) (fun i => listed.getD i false) hcl (fun j hj => hlow j (by omega) (by omega)) hdeps) hfull
        have hlo : lo ≤ j := by
          rcases Nat.lt_or_ge j lo with h1 | h1
          · rw [hlow j h1 hjr] at hj2; cases hj2
          · exact h1
        have hx : rs[j]? = some rs[j] := List.getElem?_eq_getElem hjr
        generalize rs[j] = x at hx
        have hxo : x.o = o := by
          have := hr.op j x hx hlo
          rw [ho] at this
          exact (Option.some.inj this).symm
        subst hxo
        obtain ⟨hA, hB, hC⟩ := step_okB hr (L := fun i => listed.getD i false) hcl (hCl _ hcl fun j hj => hlow j (by omega) (by omega)) hlo hx hj2 hdeps
        have hgetset : ∀ i, (listed.setIfInBounds j true).getD i false = (listed.getD i false || i == j) := fun i => by
          simp only [Array.getD_eq_getD_getElem?, Array.getElem?_setIfInBounds]
          by_cases hij : j = i
          · subst hij; simp [hlt]
          · have : (i == j) = false := by simp; omega
            rw [if_neg hij, this, Bool.or_false]
        have hslot : ∀ t ∈ x.o.looksAt all, s.slots[t]? = (F st (rs.take j)).slots[t]? := fun t ht => by rw [hs.slots]; exact hA t ht
        have hw' : wantedV all x.o s = wantedV all x.o (F st (rs.take j)) := wantedV_local fun g b d hg hd => get_of_slots (hslot d (by
          unfold Oper.looksAt
          refine List.mem_append_right _ ?_
          rw [hg]
          simp [hd]))
        have next : ∀ (s1 : St) (a' : Act) (w' : World) (σ' : Places), Same s1 (ap1 s x) → Sim C D outs s1 a' w' σ' → wpAnyIn (W ro) m P .any all Q fuel (listed.setIfInBounds j true) a' w' := fun s1 a' w' σ' hs1 h1 => by
          refine ih _ (by simpa using hsz) ?_ ?_ ?_ ?_ h1 ?_
          · rw [Array.toList_setIfInBounds, List.count_set (by simpa using hlt)]
            have : listed.toList[j] = false := by
              simp only [Array.getD_eq_getD_getElem?, Array.getElem?_eq_getElem hlt, Option.getD_some] at hj2
              simpa using hj2
            rw [this, hc]
            simp
          · intro i hi d hd
            rw [hgetset] at hi ⊢
            simp only [Bool.or_eq_true] at hi ⊢
            left
            rcases hi with hi | hi
            · exact hcl i hi d hd
            · have : i = j := by simpa using hi
              subst this
              exact hdeps d hd
          · intro i hi hir
            rw [hgetset, hlow i hi hir]; rfl
          · intro i hi
            rw [hgetset, hhi i hi]
            have : (i == j) = false := by simp; omega
            rw [this]; rfl
          · have e : (rs.filter fun y => (listed.setIfInBounds j true).getD y.i false) = rs.filter fun y => listed.getD y.i false || y.i == j := List.filter_congr fun y _ => hgetset y.i
            rw [e]
            exact hs1.trans ((ap_congr _ _ hs).trans hC.symm)
        unfold wpOpIn
        rw [ho]
        dsimp only
        rcases hr.ok j x hx hlo with ⟨hw1, he, hsu⟩ | ⟨hw1, he⟩
        · rw [← hw'] at hw1
          rw [if_pos (wanted_ok h hw1)]
          have hag : Agree (F st (rs.take j)) s x.o.op.operands.toList (sp x.o (F st (rs.take j))) := by
            refine ⟨fun y hy => ?_, fun i hi => ?_⟩
            · cases y with
              | tmp t => exact (get_of_slots (hslot t (by
                  unfold Oper.looksAt
                  exact List.mem_append_left _ (List.mem_filterMap.2 ⟨.tmp t, hy, rfl⟩)))).symm
              | _ => rfl
            · rw [hs.objs]
              exact (hB i (by rw [hsu]; exact hi)).symm
          rw [hE.loc _ _ _ hag] at he
          obtain ⟨s1, h1, h2⟩ := hE.ok h he
          exact evOp_ok hT hO h h1 fun a' w' σ' h' => next s1 a' w' σ' h2 h'
        · rw [← hw'] at hw1
          have hwf := wanted_ok h hw1
          rw [hwf]
          simp only [Bool.false_eq_true, if_false]
          refine ⟨fun _ _ => trivial, next (s.put x.o.dst .und) _ _ _ ?_ (h.put (v := .und) rfl)⟩
          unfold ap1
          rw [he]
          exact Same.refl _

theorem evB_from (hT : TyOk P E) (hO : OrcOk P E O) {fc : FC} {base : Nat} {ef : Oper → St → Option Eff} {sp : Oper → St → List Nat} (hE : EfOk P E O fc base ef sp) {bk : Oper → St → Bool} {all : Array Oper} {cl : List (List Nat)} {ld : Nat} (hCl : ClOk all cl ld) (hQ : ∀ a' w' σ', Sim C D outs st' a' w' σ' → Q .normal a' w') :
    ∀ (n lo : Nat) (rs0 : List Rec) {st : St}, all.size - lo = n → lo ≤ all.size → ld ≤ lo → rs0.length = lo → RecB ef sp all cl st lo rs0 → (∀ x ∈ rs0, x.o.dst = none ∧ x.eff = .put .und) →
      evB E O fc base ef sp bk all cl (numbered lo (all.toList.drop lo)) st rs0 = some st' →
    ∀ (fuel : Nat) (listed : Array Bool) {a : Act} {w : World} {σ : Places}, listed.size = all.size → listed.toList.count false = fuel → (∀ j, listed.getD j false = true → ∀ d ∈ deps all j, listed.getD d false = true) →
      (∀ j, j < lo → listed.getD j false = true) → (∀ j, lo ≤ j → listed.getD j false = false) → Sim C D outs st a w σ → wpAnyIn (W ro) m P .any all Q fuel listed a w := by
  intro n
  induction n using Nat.strongRecOn with
  | ind n ihn =>
    intro lo rs0 st hn hlo hldl hlen h0 hnop he fuel listed a w σ hsz hc hcl hlow hhi h
    subst hlen
    obtain ⟨rs, hr, hlr, hcase⟩ := evB_seg (st := st) _ rs0 rfl (Nat.le_refl _) hlo h0 (by rw [F_nop st rs0 hnop]; exact he)
    have hrle : rs.length ≤ all.size := by
      rcases hcase with ⟨h1, _⟩ | ⟨o, s, ho, _⟩
      · omega
      · exact Nat.le_of_lt (Array.getElem?_eq_some_iff.1 ho).1
    have hstart : Same st (F st (rs.filter fun y => listed.getD y.i false)) := by
      rw [F_nop st (rs.filter fun y => listed.getD y.i false)]
      · exact Same.refl _
      · intro x hx
        rw [List.mem_filter] at hx
        obtain ⟨k, hk⟩ := List.mem_iff_getElem?.1 hx.1
        have hi := hr.idx k x hk
        have hkl : k < rs0.length := by
          rcases Nat.lt_or_ge k rs0.length with h1 | h1
          · exact h1
          · have := hhi k h1
            rw [hi, this] at hx
            cases hx.2
        exact hr.nop k x hk hkl
    rcases hcase with ⟨hfin, rfl⟩ | ⟨o, s, ho, hw, hb, hs, hnext⟩
    · refine seg_ok hT hO hE hCl hldl hlr hr hrle (fun j h1 h2 => by omega) ?_ fuel listed hsz hc hcl (fun j hj _ => hlow j hj) (fun j hj => hhi j (by omega)) h hstart
      intro fuel listed a w σ hsz hc hcl hl1 hl2 h
      have hcz : listed.toList.count false = 0 := by
        rw [List.count_eq_zero]
        intro hm
        obtain ⟨j, hj⟩ := List.mem_iff_getElem?.1 hm
        rw [Array.getElem?_toList] at hj
        have hjl := (Array.getElem?_eq_some_iff.1 hj).1
        have := hl1 j (by omega)
        simp only [Array.getD_eq_getD_getElem?, hj, Option.getD_some] at this
        cases this
      have hf0 : fuel = 0 := by omega
      subst hf0
      have hrd : Region.ready .any all listed = [] := by
        rw [List.eq_nil_iff_forall_not_mem]
        intro j hj
        obtain ⟨hj1, o, ho, _⟩ := mem_ready.1 hj
        have hlt : j < listed.size := by
          rcases Nat.lt_or_ge j listed.size with h1 | h1
          · exact h1
          · simp [Array.getD_eq_getD_getElem?, Array.getElem?_eq_none h1] at hj1
        have := hl1 j (by omega)
        simp only [Array.getD_eq_getD_getElem?, Array.getElem?_eq_getElem hlt, Option.getD_some] at hj1 this
        rw [hj1] at this
        cases this
      exact ⟨hrd, hQ a w σ h⟩
    · have hklt : rs.length < all.size := (Array.getElem?_eq_some_iff.1 ho).1
      unfold barAt at hb
      simp only [Bool.and_eq_true] at hb
      have hbd : ∀ d ∈ deps all rs.length, d < rs.length := fun d hd => by have := List.all_eq_true.1 hb.1.1 d hd; simpa using this
      have hbk : ∀ k, k < rs.length → k ∈ cl.getD rs.length [] := fun k hk => by have := List.all_eq_true.1 hb.1.2 k (List.mem_range.2 hk); simpa using this
      have hbj : ∀ j, j < all.size → rs.length < j → rs.length ∈ cl.getD j [] := fun j hj hkj => by
        have := List.all_eq_true.1 hb.2 j (List.mem_range.2 hj)
        simp only [Bool.or_eq_true, decide_eq_true_eq] at this
        rcases this with h1 | h1
        · omega
        · simpa using h1
      refine seg_ok hT hO hE hCl hldl hlr hr hrle ?_ ?_ fuel listed hsz hc hcl (fun j hj _ => hlow j hj) (fun j hj => hhi j (by omega)) h hstart
      · intro j h1 h2 L hL hl0 hd i hi
        rcases Nat.eq_or_lt_of_le h1 with rfl | h3
        · exact hCl L hL hl0 _ _ (hbk i hi) hd
        · have hk := hCl L hL hl0 _ _ (hbj j h2 h3) hd
          exact hCl L hL hl0 _ _ (hbk i hi) (hL _ hk)
      · intro fuel listed a w σ hsz hc hcl hl1 hl2 h
        have hkl : rs.length < listed.size := by omega
        have hk2 : listed.getD rs.length false = false := hl2 _ (Nat.le_refl _)
        have hkget : listed.toList[rs.length] = false := by
          simp only [Array.getD_eq_getD_getElem?, Array.getElem?_eq_getElem hkl, Option.getD_some] at hk2
          simpa using hk2
        cases fuel with
        | zero =>
          exfalso
          rw [List.count_eq_zero] at hc
          apply hc
          rw [← hkget]
          exact List.getElem_mem _
        | succ fuel =>
          refine ⟨fun hrd => ?_, fun j hj => ?_⟩
          · exfalso
            have : rs.length ∈ Region.ready .any all listed := by
              refine mem_ready.2 ⟨?_, _, ho, fun e he hb => ?_⟩
              · simp only [Array.getD_eq_getD_getElem?, Array.getElem?_eq_getElem hkl, Option.getD_some] at hk2 ⊢
                exact hk2
              · have hdm : e.on ∈ deps all rs.length := by
                  unfold deps
                  rw [ho]
                  exact List.mem_map.2 ⟨e, List.mem_filter.2 ⟨by simpa using he, hb⟩, rfl⟩
                exact hl1 _ (hbd _ hdm)
            rw [hrd] at this
            cases this
          · obtain ⟨hj1, o', ho', hafter⟩ := mem_ready.1 hj
            have hlt : j < listed.size := by
              rcases Nat.lt_or_ge j listed.size with h1 | h1
              · exact h1
              · simp [Array.getD_eq_getD_getElem?, Array.getElem?_eq_none h1] at hj1
            have hj2 : listed.getD j false = false := by
              simp only [Array.getD_eq_getD_getElem?, Array.getElem?_eq_getElem hlt, Option.getD_some] at hj1 ⊢
              exact hj1
            have hdeps : ∀ d ∈ deps all j, listed.getD d false = true := fun d hd => by
              unfold deps at hd
              rw [ho'] at hd
              obtain ⟨e, he, rfl⟩ := List.mem_map.1 hd
              rw [List.mem_filter] at he
              exact hafter e (by simpa using he.1) he.2
            have hjk : j = rs.length := by
              rcases Nat.lt_trichotomy j rs.length with h1 | h1 | h1
              · rw [hl1 j h1] at hj2; cases hj2
              · exact h1
              · have := hCl (fun i => listed.getD i false) hcl (fun i hi => hl1 i (by omega)) _ _ (hbj j (by omega) h1) hdeps
                rw [hk2] at this
                cases this
            subst hjk
            have hgetset : ∀ i, (listed.setIfInBounds rs.length true).getD i false = (listed.getD i false || i == rs.length) := fun i => by
              simp only [Array.getD_eq_getD_getElem?, Array.getElem?_setIfInBounds]
              by_cases hij : rs.length = i
              · subst hij; simp [hlt]
              · have : (i == rs.length) = false := by simp; omega
                rw [if_neg hij, this, Bool.or_false]
            unfold wpOpIn
            rw [ho]
            dsimp only
            rw [if_pos (wanted_ok h hw)]
            refine evOp_ok hT hO h hs fun a' w' σ' h' => ?_
            refine ihn (all.size - (rs.length + 1)) (by omega) (rs.length + 1) (nops (rs.length + 1) o) rfl (by omega) (by omega) (nops_len _ _) (RecB.nops _ _) (fun x hx => ?_) hnext fuel _ (by simpa using hsz) ?_ ?_ ?_ ?_ h'
            · obtain ⟨k, hk⟩ := List.mem_iff_getElem?.1 hx
              exact (nops_get hk).2.2
            · rw [Array.toList_setIfInBounds, List.count_set (by simpa using hlt), hkget, hc]
              simp
            · intro i hi d hd
              rw [hgetset] at hi ⊢
              simp only [Bool.or_eq_true] at hi ⊢
              left
              rcases hi with hi | hi
              · exact hcl i hi d hd
              · have : i = rs.length := by simpa using hi
                subst this
                exact hdeps d hd
            · intro i hi
              rw [hgetset]
              rcases Nat.lt_or_ge i rs.length with h1 | h1
              · rw [hl1 i h1]; rfl
              · have : (i == rs.length) = true := by simp; omega
                rw [this, Bool.or_true]
            · intro i hi
              rw [hgetset, hl2 i (by omega)]
              have : (i == rs.length) = false := by simp; omega
              rw [this]; rfl

theorem evB_ok (hT : TyOk P E) (hO : OrcOk P E O) {fc : FC} {base : Nat} {ef : Oper → St → Option Eff} {sp : Oper → St → List Nat} (hE : EfOk P E O fc base ef sp) {bk : Oper → St → Bool} {ops : Array Oper} (h : Sim C D outs st a w σ) (he : evB E O fc base ef sp bk ops (clo ops ops.size) (numbered 0 ops.toList) st [] = some st')
    (hQ : ∀ a' w' σ', Sim C D outs st' a' w' σ' → Q .normal a' w') : wpAnyIn (W ro) m P .any ops Q ops.size (Array.replicate ops.size false) a { w with drawn := w.drawn + 1 } := by
  have hg : ∀ j, (Array.replicate ops.size false).getD j false = false := fun j => by
    simp only [Array.getD_eq_getD_getElem?, Array.getElem?_replicate]
    split <;> rfl
  refine evB_from (cl := clo ops ops.size) (ld := 0) hT hO hE (fun L hL _ i k hk hd => clo_ok ops hL _ _ _ hk hd) hQ ops.size 0 [] rfl (Nat.zero_le _) (Nat.le_refl _) rfl ⟨fun _ _ h => by simp at h, fun _ _ h => by simp at h, fun _ _ h => by simp at h, fun _ _ h => by simp at h, fun _ _ h => by simp at h, fun _ _ _ _ _ _ h => by simp at h⟩ (fun _ h => by cases h) he
    ops.size _ (by simp) (by simp) (fun j hj => by rw [hg] at hj; cases hj) (fun j hj => by omega) (fun j _ => hg j) (h.world (w' := { w with drawn := w.drawn + 1 }) ?_)
  exact ⟨rfl, rfl, rfl, Nat.le_refl _, fun _ _ => rfl⟩
end
end Go.AM
end

section
/-
Regions that draw their order, whose first operation may be taken first: right.
-/
namespace Go.AM
open Go Go.RowKit

def NoDefer (ops : Array Oper) : Prop := ∀ (j : Nat) (o : Oper) c, ops[j]? = some o → o.op ≠ .defer c

section
variable {P : Program} {ro : Option Nat} {m : Nat} {ops : Array Oper} {Q : Exit → Act → World → Prop}

theorem upon_ro {o : Oper} {a : Act} {K : Act → World → Prop} {r : Result Next} : o.uponIn (W ro) m P a K Q r = o.uponIn (W none) m P a K Q r := by
  cases r with
  | ok x w => cases x <;> rfl
  | halt x w => cases x <;> rfl

theorem wpOp_ro (hd : NoDefer ops) {i : Nat} {K : Act → World → Prop} {a : Act} {w : World} : wpOpIn (W ro) m P ops Q i K a w = wpOpIn (W none) m P ops Q i K a w := by
  unfold wpOpIn
  cases ho : ops[i]? with
  | none => rfl
  | some o =>
    dsimp only
    split
    · unfold Oper.wpIn
      rw [Oper.semAt_eq _ _ _ (fun c => hd i o c ho), Oper.semAt_eq _ _ _ (fun c => hd i o c ho), upon_ro]
      rfl
    · rfl

theorem wpAny_ro (hd : NoDefer ops) : ∀ (fuel : Nat) (listed : Array Bool) (a : Act) (w : World), wpAnyIn (W ro) m P .any ops Q fuel listed a w = wpAnyIn (W none) m P .any ops Q fuel listed a w
  | 0, _, _, _ => rfl
  | fuel + 1, listed, a, w => by
    have ih : ∀ i, wpAnyIn (W ro) m P .any ops Q fuel (listed.setIfInBounds i true) = wpAnyIn (W none) m P .any ops Q fuel (listed.setIfInBounds i true) := fun i => funext fun a => funext fun w => wpAny_ro hd fuel _ a w
    simp only [wpAnyIn, ih, wpOp_ro (ro := ro) hd]

variable {Q' : Exit → Act → World → Prop}

theorem wpOp_monoQ (hQ : ∀ e a w, Q e a w → Q' e a w) {i : Nat} {K K' : Act → World → Prop} (hK : ∀ a w, K a w → K' a w) {a : Act} {w : World} (h : wpOpIn (W ro) m P ops Q i K a w) : wpOpIn (W ro) m P ops Q' i K' a w := by
  unfold wpOpIn at *
  cases ho : ops[i]? with
  | none => rw [ho] at h; exact hK _ _ h
  | some o =>
    rw [ho] at h
    dsimp only at h ⊢
    split
    · rename_i hw
      rw [if_pos hw] at h
      unfold Oper.wpIn at *
      refine ⟨h.1, ?_⟩
      have h := h.2
      generalize (o.semAt (W ro).round a.eval).run P w = r at *
      cases r with
      | ok x w' =>
        cases x <;> simp only [Oper.uponIn] at h ⊢
        case value u => exact hK _ _ h
        case skip => exact hK _ _ h
        case defer d => exact hK _ _ h
        case enter f args =>
          refine ⟨h.1, CallsIn.mono h.2 fun e w'' he => ?_⟩
          cases e with
          | returned u => exact hK _ _ he
          | panicked c => exact hQ _ _ _ he
          | outgrown => exact Exists.elim he fun a1 h1 => Exists.elim h1 fun w1 h2 => ⟨a1, w1, hQ _ _ _ h2⟩
        case row row args => exact ⟨h.1, RowsIn.mono h.2 fun u w'' he => hK _ _ he⟩
        case round l f tmps assign body =>
          refine ⟨h.1, RoundIn.mono h.2 fun e w'' he => ?_⟩
          cases e with
          | returned u => exact hK _ _ he
          | panicked c => exact hQ _ _ _ he
          | outgrown => exact Exists.elim he fun a1 h1 => Exists.elim h1 fun w1 h2 => ⟨a1, w1, hQ _ _ _ h2⟩
      | halt x w' =>
        cases x <;> simp only [Oper.uponIn] at h ⊢
        case panic u => exact hQ _ _ _ h
    · rename_i hw
      rw [if_neg hw] at h
      exact ⟨h.1, hK _ _ h.2⟩

theorem wpAny_monoQ (hQ : ∀ e a w, Q e a w → Q' e a w) : ∀ (fuel : Nat) (listed : Array Bool) (a : Act) (w : World), wpAnyIn (W ro) m P .any ops Q fuel listed a w → wpAnyIn (W ro) m P .any ops Q' fuel listed a w
  | 0, _, _, _, h => ⟨h.1, hQ _ _ _ h.2⟩
  | fuel + 1, listed, a, w, h => ⟨fun hr => hQ _ _ _ (h.1 hr), fun i hi => wpOp_monoQ hQ (fun a w => wpAny_monoQ hQ fuel _ a w) (h.2 i hi)⟩
end

section
variable {P : Program} {E : Env} {O : Orc} {C : Cx} {D : List Deferred} {outs : List (List Value)} {st st' : St} {a : Act} {w : World} {σ : Places} {ro : Option Nat} {m : Nat} {Q : Exit → Act → World → Prop}

theorem cloL_ok (ops : Array Oper) : ClOk ops (cloL ops) 1 := fun L hL hl i k hk hd => by
  unfold cloL at hk
  rw [List.getD_eq_getElem?_getD, List.getElem?_map] at hk
  cases hc : (clo ops ops.size)[i]? with
  | none => rw [hc] at hk; simp at hk
  | some l =>
    rw [hc] at hk
    simp only [Option.map_some, Option.getD_some, List.mem_cons] at hk
    rcases hk with rfl | hk
    · exact hl 0 (by omega)
    · exact clo_ok ops hL ops.size i k (by rw [List.getD_eq_getElem?_getD, hc]; exact hk) hd

def onlyN (Q : Exit → Act → World → Prop) : Exit → Act → World → Prop
  | .normal, a, w => Q .normal a w
  | _, _, _ => False

theorem evLead_ok (hT : TyOk P E) (hO : OrcOk P E O) {fc : FC} {base : Nat} {ops : Array Oper} (h : Sim C D outs st a w σ) (he : evLead E O fc base ops st = some st')
    (hQ : ∀ a' w' σ', Sim C D outs st' a' w' σ' → Q .normal a' w') : wpAnyIn (W ro) m P .any ops Q ops.size (Array.replicate ops.size false) a { w with drawn := w.drawn + 1 } := by
  unfold evLead at he
  cases ho : ops[0]? with
  | none => rw [ho] at he; cases he
  | some o =>
    rw [ho] at he
    dsimp only at he
    split at he
    case h_2 => cases he
    rename_i v hv
    split at he
    case isFalse => cases he
    rename_i hok
    have hok' := hok
    unfold leadOk at hok
    rw [ho] at hok
    simp only [Bool.and_eq_true] at hok
    obtain ⟨⟨⟨⟨⟨hmove, hguard⟩, hafter⟩, hsel⟩, hdef⟩, hfree⟩ := hok
    have hsz : 0 < ops.size := (Array.getElem?_eq_some_iff.1 ho).1
    have hnd : NoDefer ops := fun j o c hj hc => by
      have := List.all_eq_true.1 hdef o (Array.mem_toList_iff.2 (Array.mem_of_getElem? hj))
      rw [hc] at this
      cases this
    cases hop : o.op with
    | move x =>
      have hvx : v = st.eval x := by
        unfold zF at hv
        rw [hop] at hv
        exact (Option.some.inj hv).symm
      subst hvx
      have hg : o.guard = none := by simpa using hguard
      have hw : ∀ a' : Act, Region.wanted o (yielded ops a'.tmps) = true := fun a' => by unfold Region.wanted; rw [hg]
      have hy : YieldsFenced P ops o (a.eval x) a := ⟨.inl ⟨hw a, fun w => by unfold execOp; rw [hop]; rfl⟩, fun w => by unfold Oper.about; rw [hop]⟩
      have hdeps0 : deps ops 0 = [] := by
        unfold deps
        rw [ho]
        have : o.after = #[] := by simpa using hafter
        dsimp only
        rw [this]
        rfl
      have hrdy : (Region.ready .any ops (Array.replicate ops.size false)).contains 0 = true := by
        have : 0 ∈ Region.ready .any ops (Array.replicate ops.size false) := by
          refine mem_ready.2 ⟨?_, o, ho, fun e he => ?_⟩
          · simp [Array.getD_eq_getD_getElem?, hsz]
          · have : o.after = #[] := by simpa using hafter
            rw [this] at he
            simp at he
        simpa using this
      have hgs : ∀ j, ((Array.replicate ops.size false).setIfInBounds 0 true).getD j false = (j == 0) := fun j => by
        simp only [Array.getD_eq_getD_getElem?, Array.getElem?_setIfInBounds, Array.getElem?_replicate]
        by_cases hj : 0 = j
        · subst hj; simp [hsz]
        · rw [if_neg hj]
          have : (j == 0) = false := by simp; omega
          rw [this]
          split <;> rfl
      rw [wpAny_ro hnd]
      refine wpAny_monoQ (Q := onlyN Q) (fun e a w h => by cases e <;> first | exact h | exact h.elim) _ _ _ _ ?_
      obtain ⟨k, hk⟩ : ∃ k, ops.size = k + 1 := ⟨ops.size - 1, by omega⟩
      have main : wpAnyIn (W none) m P .any ops (onlyN Q) k ((Array.replicate ops.size false).setIfInBounds 0 true) (a.put o.dst (a.eval x)) { w with drawn := w.drawn + 1 } := by
        have hnop : ∀ y ∈ nops 1 o, y.o.dst = none ∧ y.eff = .put .und := fun y hy => by
          obtain ⟨i, hi⟩ := List.mem_iff_getElem?.1 hy
          exact (nops_get hi).2.2
        refine evB_from (Q := onlyN Q) (cl := cloL ops) (ld := 1) hT hO (efOk_of hT) (cloL_ok ops) (st' := st') (fun a' w' σ' h' => hQ a' w' σ' h') (ops.size - 1) 1 (nops 1 o) rfl (by omega) (Nat.le_refl _) (nops_len _ _) (RecB.nops _ _) hnop he
          k ((Array.replicate ops.size false).setIfInBounds 0 true) (by simp) ?_ (fun j hj d hd => ?_) (fun j hj => ?_) (fun j hj => ?_) (σ := σ) ((h.world (w' := { w with drawn := w.drawn + 1 }) ⟨rfl, rfl, rfl, Nat.le_refl _, fun _ _ => rfl⟩).put ?_)
        · rw [Array.toList_setIfInBounds, List.count_set (by simpa using hsz)]
          simp
          omega
        · rw [hgs] at hj
          have : j = 0 := by simpa using hj
          subst this
          rw [hdeps0] at hd
          cases hd
        · rw [hgs]
          have : j = 0 := by omega
          subst this
          rfl
        · rw [hgs]
          have : ¬ j = 0 := by omega
          simpa using this
        · exact (h.world (w' := { w with drawn := w.drawn + 1 }) ⟨rfl, rfl, rfl, Nat.le_refl _, fun _ _ => rfl⟩).eval x
      have := wpAnyIn_take (F := W none) (n := m) (Q := onlyN Q) (fuel := k) (w := { w with drawn := w.drawn + 1 }) rfl ho hsel hfree hrdy (fun c a w h => h.elim) hy main
      rw [hk] at this ⊢
      exact this
    | _ => rw [hop] at hmove; cases hmove
end
end Go.AM
end

section
/-
More fuel and a greater oracle change no answer.
-/
namespace Go.AM
open Go

structure Orc.le (O O' : Orc) : Prop where
  call : ∀ g as r, O.call g as = some r → O'.call g as = some r
  inl : ∀ b g as st r, O.inl b g as st = some r → O'.inl b g as st = some r

theorem Orc.le.refl (O : Orc) : O.le O := ⟨fun _ _ _ h => h, fun _ _ _ _ _ h => h⟩

theorem Orc.le.trans {O O' O'' : Orc} (h : O.le O') (h' : O'.le O'') : O.le O'' := ⟨fun g as r e => h'.call g as r (h.call g as r e), fun b g as st r e => h'.inl b g as st r (h.inl b g as st r e)⟩

section
variable {E : Env} {O O' : Orc} {fc : FC} {base : Nat}

theorem evCall_mono (hO : O.le O') {dst : Option Nat} {f : V} {args : List V} {st st' : St} (h : evCall E O fc base dst f args st = some st') : evCall E O' fc base dst f args st = some st' := by
  unfold evCall at h ⊢
  cases f <;> try exact h
  dsimp only at h ⊢
  split at h
  · rename_i hi
    rw [if_pos hi]
    split at h
    · rename_i hf
      rw [if_pos hf]
      split at h
      · rename_i hfr
        rw [if_pos hfr]
        unfold evFresh at h ⊢
        split at h
        case h_2 => cases h
        split at h
        case isFalse => cases h
        rename_i hc
        rw [if_pos hc]
        cases hi2 : O.inl 1000 _ _ _ with
        | none => rw [hi2] at h; cases h
        | some p => rw [hi2] at h; rw [hO.inl _ _ _ _ _ hi2]; exact h
      · rename_i hfr
        rw [if_neg hfr]
        unfold qZ at h ⊢
        split at h
        case isFalse => cases h
        rename_i hc
        rw [if_pos hc]
        cases hi2 : O.inl 1000 _ _ _ with
        | none => rw [hi2] at h; cases h
        | some p => rw [hi2] at h; rw [hO.inl _ _ _ _ _ hi2]; exact h
    · rename_i hf
      rw [if_neg hf]
      split at h
      · rename_i r s hs
        rw [hO.inl _ _ _ _ _ hs]
        exact h
      · cases h
  · rename_i hi
    rw [if_neg hi]
    split at h
    · split at h
      · rename_i r hr
        rw [hO.call _ _ _ hr]
        exact h
      · cases h
    · cases h

theorem evOp_mono (hO : O.le O') {o : Oper} {st st' : St} (h : zH E O fc base o st = some st') : zH E O' fc base o st = some st' := by
  unfold zH at h ⊢
  split at h
  · rename_i c _
    split at h
    · exact evCall_mono hO h
    · exact h
  · exact h

theorem evOps_mono (hO : O.le O') {all : Array Oper} : ∀ (l : List Oper) {st st' : St}, evOps E O fc base all l st = some st' → evOps E O' fc base all l st = some st'
  | [], _, _, h => h
  | o :: r, st, st', h => by
    simp only [evOps] at h ⊢
    split at h
    · split at h
      · rename_i s hs
        rw [evOp_mono hO hs]
        exact evOps_mono hO r h
      · cases h
    · exact evOps_mono hO r h
    · cases h

theorem effOf_mono (hO : O.le O') {o : Oper} {st : St} {e : Eff} (h : qJ E O fc base o st = some e) : qJ E O' fc base o st = some e := by
  unfold qJ at h ⊢
  split
  · rename_i v hv
    rw [hv] at h
    exact h
  · rename_i hv
    rw [hv] at h
    dsimp only at h
    unfold qK at h ⊢
    split at h <;> try exact h
    split at h <;> try exact h
    unfold zX at h ⊢
    split at h <;> try exact h
    split at h
    case isFalse => cases h
    rename_i hc
    rw [if_pos hc]
    split at h
    · split at h
      · rename_i r hr
        rw [hO.call _ _ _ hr]
        exact h
      · cases h
    · cases h

theorem evD_mono (hO : O.le O') {all : Array Oper} {cl : List (List Nat)} : ∀ (l : List (Nat × Oper)) {st st' : St} {rs : List Rec}, evD E O fc base all cl l st rs = some st' → evD E O' fc base all cl l st rs = some st'
  | [], _, _, _, h => h
  | (i, o) :: r, st, st', rs, h => by
    simp only [evD] at h ⊢
    split at h
    · split at h
      · rename_i e he
        rw [effOf_mono hO he]
        dsimp only at h ⊢
        try dsimp only
        split at h
        · rename_i hc
          rw [if_pos hc]
          exact evD_mono hO r h
        · cases h
      · cases h
    · split at h
      · rename_i hc
        rw [if_pos hc]
        exact evD_mono hO r h
      · cases h
    · cases h

theorem evRegion_mono (hO : O.le O') {ops : Array Oper} {draw : Bool} {st st' : St} (h : evRegion E O fc base ops draw st = some st') : evRegion E O' fc base ops draw st = some st' := by
  unfold evRegion at h ⊢
  split
  · rename_i hd
    rw [if_pos hd] at h
    exact evD_mono hO _ h
  · rename_i hd
    rw [if_neg hd] at h
    exact evOps_mono hO _ h

theorem effOf_bar {o : Oper} {st : St} (hb : isBar E o st = true) (h : qJ E O fc base o st = none) : qJ E O' fc base o st = none := by
  unfold qJ at h ⊢
  cases hv : zF E fc o st with
  | some v => rw [hv] at h; cases h
  | none =>
    rw [hv] at h
    dsimp only at h ⊢
    unfold isBar at hb
    unfold qK at h ⊢
    split at hb
    case h_2 => cases hb
    rename_i c ho
    rw [ho] at h ⊢
    dsimp only at h ⊢
    split at hb
    · rename_i f hc
      rw [hc] at h ⊢
      dsimp only at h ⊢
      split at hb
      case h_2 => cases hb
      rename_i g a b hg
      rw [hg]
      unfold zX
      dsimp only
      rw [hb, if_neg (by simp)]
    · rename_i hc
      rw [hc] at h ⊢
      exact h
    · cases hb

theorem effOf_barL {o : Oper} {st : St} (hb : isBarL E o st = true) (h : qJ E O fc base o st = none) : qJ E O' fc base o st = none := by
  unfold isBarL at hb
  split at hb
  · rename_i t n parts ho
    unfold qJ at h ⊢
    cases hv : zF E fc o st with
    | some v => rw [hv] at h; cases h
    | none =>
      rw [hv] at h
      dsimp only at h ⊢
      unfold qK at h ⊢
      rw [ho] at h ⊢
      exact h
  · exact effOf_bar hb h

theorem isBar_L {o : Oper} {st : St} (h : isBar E o st = true) : isBarL E o st = true := by
  unfold isBarL
  split
  · rfl
  · exact h

structure EfLe (bk : Oper → St → Bool) (ef ef' : Oper → St → Option Eff) : Prop where
  some : ∀ o st e, ef o st = .some e → ef' o st = .some e
  bar : ∀ o st, bk o st = true → ef o st = none → ef' o st = none

theorem efLe_of (hO : O.le O') {bk : Oper → St → Bool} (hbk : ∀ o st, bk o st = true → isBarL E o st = true) : EfLe bk (qJ E O fc base) (qJ E O' fc base) :=
  ⟨fun _ _ _ h => effOf_mono hO h, fun o st hb h => effOf_barL (hbk o st hb) h⟩

theorem effFr_mono (hO : O.le O') {g : Nat} {as : List V} {st : St} {e : Eff} (h : effFr E O g as st = some e) : effFr E O' g as st = some e := by
  unfold effFr at h ⊢
  split at h
  case isFalse => cases h
  rename_i hc
  rw [if_pos hc]
  cases hi2 : O.inl 1000 g as { slots := [], outer := [(reach st.objs depth (idsL as)).map (wit st.objs)], objs := pickR (reach st.objs depth (idsL as)) st.objs } with
  | none => rw [hi2] at h; cases h
  | some p => rw [hi2] at h; rw [hO.inl _ _ _ _ _ hi2]; exact h
theorem effNew_mono (hO : O.le O') {dst : Option Nat} {f : V} {args : List V} {st : St} {e : Eff} (h : effNew E O fc base dst f args st = some e) : effNew E O' fc base dst f args st = some e := by
  unfold effNew at h ⊢
  split at h
  case h_2 => cases h
  split at h
  · rename_i hi
    rw [if_pos hi]
    split at h
    case isFalse =>
      rename_i hc
      rw [if_neg hc]
      exact effFr_mono hO h
    rename_i hc
    rw [if_pos hc]
    split at h
    · cases hi2 : O.inl 1000 _ _ _ with
      | none => rw [hi2] at h; cases h
      | some p => rw [hi2] at h; rw [hO.inl _ _ _ _ _ hi2]; exact h
    · cases h
  · rename_i hi
    rw [if_neg hi]
    split at h
    · split at h
      · split at h
        · rename_i r hr
          rw [hO.call _ _ _ hr]
          exact h
        · cases h
      · cases h
    · cases h

theorem isBarX_bar {o : Oper} {st : St} (h : isBarX E o st = true) : isBar E o st = true := by
  unfold isBarX at h
  unfold isBar
  split at h
  · split at h
    · split at h
      · rw [Bool.and_eq_true] at h; exact h.1
      · cases h
    · rfl
    · cases h
  · cases h

theorem effX_none {o : Oper} {st : St} (h : effX E O fc base o st = none) : qJ E O fc base o st = none := by
  unfold effX at h
  split at h
  · cases h
  · assumption

theorem effNew_bar {o : Oper} {st : St} (hb : isBarX E o st = true) {c : Call} {f : Operand} (ho : o.op = .call c) (hc : c.callee = .value f) : effNew E O fc base o.dst (st.eval f) (c.args.toList.map st.eval) st = none := by
  unfold isBarX at hb
  rw [ho] at hb
  dsimp only at hb
  rw [hc] at hb
  dsimp only at hb
  unfold effNew
  split at hb
  case h_2 => cases hb
  rename_i g a b hg
  rw [hg]
  rw [Bool.and_eq_true] at hb
  cases o.dst with
  | none => rfl
  | some d =>
    dsimp only
    rw [if_pos hb.1, if_neg]
    · unfold effFr
      rw [if_neg]
      intro hh
      rw [hh.1] at hb
      cases hb.2
    · intro hh
      rw [hh.1] at hb
      cases hb.2

theorem efLe_X (hO : O.le O') : EfLe (isBarX E) (effX E O fc base) (effX E O' fc base) where
  some := fun o st e h => by
    unfold effX at h ⊢
    cases he : qJ E O fc base o st with
    | some e' => rw [he] at h; rw [effOf_mono hO he]; exact h
    | none =>
      rw [he] at h
      dsimp only at h
      split at h
      case h_2 => cases h
      rename_i c ho
      split at h
      case h_2 => cases h
      rename_i f hc
      have h2 := effNew_mono hO h
      cases he' : qJ E O' fc base o st with
      | none => dsimp only; exact h2
      | some e' =>
        exfalso
        -- an effect of its own and a new object exclude each other
        unfold qJ at he he'
        have hv : zF E fc o st = none := by unfold zF; rw [ho]; dsimp only; rw [hc]
        rw [hv] at he he'
        unfold qK at he he'
        rw [ho] at he he'
        dsimp only at he he'
        rw [hc] at he he'
        dsimp only at he he'
        unfold effNew at h
        split at h
        case h_2 => cases h
        rename_i g first cap d hf hd
        unfold zX at he'
        rw [hf, hd] at he'
        dsimp only at he'
        split at h
        · rename_i hi
          rw [if_neg (fun hh => by rw [hi] at hh; cases hh.1)] at he'
          cases he'
        · split at h
          · rename_i hl
            rw [if_neg (fun hh => by
              have := hh.2
              simp only [Option.bind_some] at this
              rw [hl] at this
              cases this)] at he'
            cases he'
          · cases h
  bar := fun o st hb h => by
    have h1 := effX_none h
    have h2 := effOf_bar (O' := O') (isBarX_bar hb) h1
    unfold effX
    rw [h2]
    dsimp only
    split
    · rename_i c ho
      split
      · rename_i f hc
        exact effNew_bar hb ho hc
      · rfl
    · rfl

theorem evB_mono (hO : O.le O') {ef ef' : Oper → St → Option Eff} {sp : Oper → St → List Nat} {bk : Oper → St → Bool} (hE : EfLe bk ef ef') {all : Array Oper} {cl : List (List Nat)} : ∀ (l : List (Nat × Oper)) {st st' : St} {rs : List Rec}, evB E O fc base ef sp bk all cl l st rs = some st' → evB E O' fc base ef' sp bk all cl l st rs = some st'
  | [], _, _, _, h => h
  | (i, o) :: r, st, st', rs, h => by
    simp only [evB] at h ⊢
    split at h
    · split at h
      · rename_i e he
        rw [hE.some _ _ _ he]
        dsimp only at h ⊢
        split at h
        · rename_i hc
          rw [if_pos hc]
          exact evB_mono hO hE r h
        · cases h
      · rename_i he
        split at h
        case isFalse => cases h
        rename_i hb
        rw [hE.bar _ _ (Bool.and_eq_true_iff.1 hb).1 he]
        dsimp only
        rw [if_pos hb]
        split at h
        case h_2 => cases h
        rename_i s hs
        rw [evOp_mono hO hs]
        exact evB_mono hO hE r h
    · split at h
      · rename_i hc
        rw [if_pos hc]
        exact evB_mono hO hE r h
      · cases h
    · cases h

theorem evReg_mono (hO : O.le O') {ops : Array Oper} {draw : Bool} {st st' : St} (h : evReg E O fc base ops draw st = some st') : evReg E O' fc base ops draw st = some st' := by
  unfold evReg at h ⊢
  cases draw with
  | false => exact evRegion_mono hO h
  | true =>
    dsimp only at h ⊢
    cases hl : fc.lead with
    | true =>
      rw [hl] at h
      dsimp only [regL] at h ⊢
      unfold evLead at h ⊢
      split at h
      case h_2 => cases h
      split at h
      case h_2 => cases h
      split at h
      case isFalse => cases h
      rename_i hc
      rw [if_pos hc]
      exact evB_mono hO (efLe_of hO fun _ _ h => h) _ h
    | false =>
      rw [hl] at h
      dsimp only [regL] at h ⊢
      cases hb : fc.bar with
      | true =>
        rw [hb] at h
        dsimp only [regG] at h ⊢
        cases ht : fc.tew with
        | true => rw [ht] at h; exact evB_mono hO (efLe_X hO) _ h
        | false => rw [ht] at h; exact evB_mono hO (efLe_of hO fun _ _ h => isBar_L h) _ h
      | false => rw [hb] at h; exact evRegion_mono hO h

theorem roundsIn_mono {run run' : Code → St → Option (Ex × St)} (h : ∀ c s r, run c s = some r → run' c s = some r) {ps : List Nat} {assign body : Code} :
    ∀ {xss : List (List V)} {st : St} {r : Ex × St}, roundsIn run ps assign body xss st = some r → roundsIn run' ps assign body xss st = some r
  | [], _, _, hr => hr
  | xs :: xss, st, r, hr => by
    simp only [roundsIn] at hr ⊢
    cases ha : run assign { tidy st with slots := xP ((tidy st).outer.headD []) ps xs } with
    | none => rw [ha] at hr; cases hr
    | some p =>
      obtain ⟨e, s⟩ := p
      rw [ha] at hr
      rw [h _ _ _ ha]
      cases e with
      | normal =>
        dsimp only at hr ⊢
        cases hb : run body s with
        | none => rw [hb] at hr; cases hr
        | some p =>
          obtain ⟨e, s'⟩ := p
          rw [hb] at hr
          rw [h _ _ _ hb]
          cases e with
          | normal => exact roundsIn_mono h hr
          | exit id => exact hr
          | ret => exact hr
      | exit id => cases hr
      | ret => cases hr

theorem popped_mono {r r' : Option (Ex × St)} (h : ∀ {q}, r = some q → r' = some q) {p : Ex × St} (hp : popped r = some p) : popped r' = some p := by
  cases r with
  | none => cases hp
  | some q => rw [h rfl]; exact hp

theorem ev_mono (hO : O.le O') : ∀ {n n' : Nat} (_ : n ≤ n') (c : Code) {st : St} {r : Ex × St}, ev E O fc base n c st = some r → ev E O' fc base n' c st = some r := by
  intro n
  induction n with
  | zero => intro n' _ c st r h; simp [ev] at h
  | succ n ih =>
    intro n' hn c st r h
    obtain ⟨k, rfl⟩ : ∃ k, n' = k + 1 := ⟨n' - 1, by omega⟩
    have hk : n ≤ k := by omega
    simp only [ev] at h ⊢
    cases c <;> dsimp only at h ⊢ <;> try exact h
    · split at h
      · rename_i s hs
        rw [evReg_mono hO hs]
        exact h
      · cases h
    · rename_i x y
      cases hx : ev E O fc base n x st with
      | none => rw [hx] at h; cases h
      | some p =>
        obtain ⟨e, s⟩ := p
        rw [hx] at h
        rw [ih hk _ hx]
        cases e
        · exact ih hk _ h
        · exact h
        · exact h
    · split at h
      · rename_i t ht
        exact ih hk _ h
      · cases h
    · rename_i id b
      cases hx : ev E O fc base n b st with
      | none => rw [hx] at h; cases h
      | some p =>
        obtain ⟨e, s⟩ := p
        rw [hx] at h
        rw [ih hk _ hx]
        cases e <;> exact h
    · rename_i b
      cases hx : ev E O fc base n b (zC fc b st) with
      | none => rw [hx] at h; cases h
      | some p =>
        obtain ⟨e, s⟩ := p
        rw [hx] at h
        rw [ih hk _ hx]
        cases e
        · exact ih hk _ h
        · exact h
        · exact h
    · rename_i g ps assign body
      split at h
      · rename_i xss _
        exact popped_mono (roundsIn_mono (fun c s r h => ih hk c h)) h
      · cases h
    · exact ih hk _ h

theorem evFn_mono (hO : O.le O') {n n' : Nat} (hn : n ≤ n') {base f : Nat} {args : List V} {st : St} {r : V × St} (h : evFn E O n base f args st = some r) : evFn E O' n' base f args st = some r := by
  unfold evFn at h ⊢
  split at h
  · split at h
    · rename_i c hc
      cases hx : ev E O (E.fc f) base n c { st with slots := args ++ List.replicate (‹Func›.ntmps - args.length) .und } with
      | none => rw [hx] at h; cases h
      | some p => rw [hx] at h; rw [ev_mono hO hn _ hx]; exact h
    · cases h
  · cases h

theorem orc_mono {X : Ext} : ∀ {n n' : Nat}, n ≤ n' → (orc E X n).le (orc E X n') := by
  intro n
  induction n with
  | zero =>
    intro n' _
    cases n' with
    | zero => exact Orc.le.refl _
    | succ k =>
      refine ⟨fun g as r h => ?_, fun b g as st r h => ?_⟩
      · simp only [orc] at h ⊢; rw [h]
      · simp only [orc] at h ⊢; rw [h]
  | succ n ih =>
    intro n' hn
    obtain ⟨k, rfl⟩ : ∃ k, n' = k + 1 := ⟨n' - 1, by omega⟩
    have hk : n ≤ k := by omega
    refine ⟨fun g as r h => ?_, fun b g as st r h => ?_⟩
    · simp only [orc] at h ⊢
      split at h
      · exact h
      · cases hx : evFn E (orc E X n) n 0 g as { slots := [], outer := [], objs := [] } with
        | none => rw [hx] at h; cases h
        | some p => rw [hx] at h; rw [evFn_mono (ih hk) hk hx]; exact h
    · simp only [orc] at h ⊢
      split at h
      · exact h
      · exact evFn_mono (ih hk) hk h

end
end Go.AM
end

section
/-
A loop over a function whose yields are known: right.
-/
namespace Go.AM
open Go Go.RowKit

def exOf : Ex → Exit
  | .normal => .normal
  | .exit id => .exit id
  | .ret => .ret

section
variable {P : Program} {E : Env} {C : Cx} {D : List Deferred} {outs : List (List Value)} {st st' : St} {a : Act} {w w' : World} {σ σ' : Places} {m : Nat}

def RunOk (P : Program) (run : Code → St → Option (Ex × St)) : Prop :=
  ∀ (l m : Nat) (c : Code), xO c = true → ∀ {C : Cx} {D : List Deferred} {outs : List (List Value)} {st st' : St} {e : Ex} {a : Act} {w : World} {σ : Places} {Q : Exit → Act → World → Prop},
    Sim C D outs st a w σ → run c st = some (e, st') → (∀ a' w' σ', Sim C D outs st' a' w' σ' → Q (exOf e) a' w') → c.wpIn (W (some l)) m P Q a w

theorem reach_nil (objs : List (Nat × Ob)) : ∀ n, reach objs n [] = []
  | 0 => rfl
  | n + 1 => by simp [reach, reach_nil objs n]

theorem setAll_rep {mo : Option Bool} : ∀ (ps : List Nat) (vs xs : List V) (ds ys : List Value), RepL C w σ mo vs ds → RepL C w σ mo xs ys → xs.length = ps.length →
    RepL C w σ mo (xP vs ps xs) ((ps.zip ys).foldl (fun t p => t.setIfInBounds p.1 p.2) ds.toArray).toList
  | [], vs, [], ds, ys, h, h', _ => by
    simp only [RepL] at h'
    subst h'
    simpa [xP] using h
  | p :: ps, vs, x :: xs, ds, ys, h, h', hl => by
    simp only [RepL] at h'
    obtain ⟨y, r, rfl, hy, hr⟩ := h'
    have := setAll_rep ps (vs.set p x) xs (ds.set p y) r (RepL.set p h hy) hr (by simpa using hl)
    simpa [xP] using this
  | [], vs, _ :: _, ds, ys, h, h', hl => by simp at hl
  | _ :: _, vs, [], ds, ys, h, h', hl => by simp at hl

theorem mask_ok {mo : Option Bool} (keep : List Nat) : ∀ (i : Nat) (vs : List V) (ds : List Value), RepL C w σ mo vs ds → RepL C w σ mo (xQ keep i vs) ds
  | _, [], _, h => h
  | i, v :: vs, _, h => by
    simp only [RepL, xQ] at h ⊢
    obtain ⟨d, r, rfl, hd, hr⟩ := h
    refine ⟨d, r, rfl, ?_, mask_ok keep (i + 1) vs r hr⟩
    split
    · exact hd
    · trivial

theorem norm_ok (h : Sim C D outs st a w σ) (keep : List Nat) : ∃ σ', Sim C D outs (norm keep st) a w σ' ∧ ∀ b, Held σ' b → Held σ b := by
  have h1 : Sim C D outs { st with slots := xQ keep 0 st.slots } a w σ := { h with slots := mask_ok keep 0 _ _ h.slots }
  obtain ⟨σ', h2, h3⟩ := h1.dropL (l := ((({ st with slots := xQ keep 0 st.slots } : St).objs.map (·.1)).filter fun i => !(reach ({ st with slots := xQ keep 0 st.slots } : St).objs depth (idsL ({ st with slots := xQ keep 0 st.slots } : St).slots ++ idsLL ({ st with slots := xQ keep 0 st.slots } : St).outer)).contains i))
  exact ⟨σ', h2, h3⟩

theorem tidy_ok (h : Sim C D outs { st with slots := [] } ⟨#[], []⟩ w σ) : ∃ σ', Sim C D outs { tidy st with slots := [] } ⟨#[], []⟩ w σ' ∧ ∀ b, Held σ' b → Held σ b := by
  obtain ⟨σ', h1, h2⟩ := norm_ok h []
  exact ⟨σ', { h1 with slots := rfl }, h2⟩

theorem Sim.slotless (h : Sim C D outs st a w σ) : Sim C D outs { st with slots := [] } { a with tmps := #[] } w σ := { h with slots := rfl, still := h.still }

def jumpOf : Ex → Option Code
  | .normal => none
  | .ret => some .ret
  | .exit id => some (.exit id)

structure Lay (l : Nat) (rec : Loop) (W : World) : Prop where
  loop : W.heap[l + 1]? = some (.loop rec)
  calls : W.heap[l]? = some (.deferred (some []))

theorem round_ok {run : Code → St → Option (Ex × St)} (hrun : RunOk P run) {assign body : Code} (ha : xO assign = true) (hb : xO body = true) {ps : Array Nat} {xs : List V} {ys : List Value}
    {fn : Nat} {l : Nat} {tmps : List Value} {pending : Option Code} {s sa sb : St} {e : Ex} {W0 : World}
    (hs : Sim C [] (tmps :: outs) { s with slots := [] } ⟨#[], []⟩ W0 σ) (hB : C.B ≤ l) (hZ : ∀ b, C.Z b → b < l)
    (hL : Lay l { state := .ready, pending := pending, fn := fn, tmps := tmps.toArray, params := ps, assign := assign, body := body, defers := l } W0)
    (hx : xs.length = ps.size) (hxy : RepL C W0 σ none xs ys)
    (h1 : run assign { s with slots := xP (s.outer.headD []) ps.toList xs } = some (.normal, sa)) (h2 : run body sa = some (e, sb)) {R : Ending → World → Prop}
    (hR : ∀ W' σ', Sim C [] (tmps :: outs) { sb with slots := [] } ⟨#[], []⟩ W' σ' →
      Lay l { state := if (jumpOf e).isNone then .ready else .done, pending := jumpOf e, fn := fn, tmps := tmps.toArray, params := ps, assign := assign, body := body, defers := l } W' → W0.heap.size ≤ W'.heap.size →
      (∀ b, b < W0.heap.size → ¬ Held σ b → b ≠ l + 1 → W'.heap[b]? = W0.heap[b]? ∧ ¬ Held σ' b) → R (.returned (.bool (jumpOf e).isNone)) W') :
    YieldAt Fence.wide m P (l + 1) ys.toArray W0 R := by
  have hlen : ys.length = xs.length := hxy.length
  have hy := run_yield (P := P) (args := ys.toArray) hL.loop (by simp [hlen, hx])
  refine ⟨_, _, _, _, hy, roundIn_of_wpIn trivial ?_⟩
  have hnh : ∀ {W : World} {σ : Places} {C' : Cx} {D' : List Deferred} {os : List (List Value)} {t : St} {b : Act} {r : Nat} {o : Obj}, Sim C' D' os t b W σ → W.heap[r]? = some o → o.isCells = false → (∀ es ck, o ≠ .map es ck) → ¬ Held σ r := fun hS hr ho hm => hS.unheld hr ho hm
  obtain ⟨hslots, hout⟩ : RepL C W0 σ none (s.outer.headD []) tmps ∧ True := by
    have := hs.outer
    cases ho : s.outer with
    | nil => rw [show ({ s with slots := [] } : St).outer = s.outer from rfl, ho] at this; simp [RepLL] at this
    | cons s0 out =>
      rw [show ({ s with slots := [] } : St).outer = s.outer from rfl, ho] at this
      obtain ⟨d, q, hdq, hd, _⟩ := this
      simp only [List.cons.injEq] at hdq
      obtain ⟨rfl, rfl⟩ := hdq
      exact ⟨hd, trivial⟩
  have hsa : Sim C [] (tmps :: outs) { s with slots := xP (s.outer.headD []) ps.toList xs } { tmps := (ps.zip ys.toArray).foldl (fun t p => t.setIfInBounds p.1 p.2) tmps.toArray, defers := [] } W0 σ := by
    refine { hs with slots := ?_, still := hs.still }
    have := setAll_rep ps.toList _ xs tmps ys hslots hxy (by simpa using hx)
    rw [← Array.foldl_toList, Array.toList_zip]
    exact this
  refine hrun (l + 1) m assign ha (hsa.focus true rfl) h1 fun a1 W1 σ1 hs1 => ?_
  have hs1' : Sim C [] (tmps :: outs) sa ⟨a1.tmps, []⟩ W1 σ1 := hs1.back hsa.below hsa.still rfl rfl
  have hz1 : ∀ b, b < W0.heap.size → ¬ Held σ b → W1.heap[b]? = W0.heap[b]? ∧ ¬ Held σ1 b := fun b hlt hn => ⟨(hs1.still.zed b ⟨hlt, hn⟩).2.2, (hs1.still.zed b ⟨hlt, hn⟩).1⟩
  have hlt1 : l + 1 < W0.heap.size := (Array.getElem?_eq_some_iff.1 hL.loop).1
  have hl1 := (hz1 (l + 1) hlt1 (hnh hs hL.loop rfl (fun _ _ e => by cases e))).1.trans hL.loop
  have hk1 := (hz1 l (by omega) (hnh hs hL.calls rfl (fun _ _ e => by cases e))).1.trans hL.calls
  have hnl : ¬ C.Z (l + 1) := fun h => by have := hZ _ h; omega
  refine ⟨_, run_beginRound hl1 rfl, ?_⟩
  have hs2 := hs1'.turn rfl hl1 rfl (hn := hs1'.unheld hl1 rfl) (o' := .loop { state := .busy, pending := pending, fn := fn, tmps := tmps.toArray, params := ps, assign := assign, body := body, defers := l }) rfl (by omega) hnl
  have hlt2 : l + 1 < W1.heap.size := (Array.getElem?_eq_some_iff.1 hl1).1
  refine hrun (l + 1) m body hb (hs2.focus (a' := a1) true rfl) h2 fun a3 W3 σ3 hs3 => ?_
  have hs3' : Sim C [] (tmps :: outs) sb ⟨a3.tmps, []⟩ W3 σ3 := hs3.back hs2.below hs2.still rfl rfl
  obtain ⟨W2, hW2⟩ : ∃ W2, W1.putObj (l + 1) (.loop { state := .busy, pending := pending, fn := fn, tmps := tmps.toArray, params := ps, assign := assign, body := body, defers := l }) = W2 := ⟨_, rfl⟩
  rw [hW2] at hs2 hs3
  have hsz2 : W2.heap.size = W1.heap.size := by rw [← hW2]; exact World.putObj_size
  have hl2 : W2.heap[l + 1]? = some (.loop { state := .busy, pending := pending, fn := fn, tmps := tmps.toArray, params := ps, assign := assign, body := body, defers := l }) := by rw [← hW2]; exact World.putObj_heap_same hlt2
  have hk2 : W2.heap[l]? = some (.deferred (some [])) := by rw [← hW2]; exact (World.putObj_heap_other (by omega)).trans hk1
  have hz3 : ∀ b, b < W2.heap.size → ¬ Held σ1 b → W3.heap[b]? = W2.heap[b]? ∧ ¬ Held σ3 b := fun b hlt hn => ⟨(hs3.still.zed b ⟨hlt, hn⟩).2.2, (hs3.still.zed b ⟨hlt, hn⟩).1⟩
  have hl3 := (hz3 (l + 1) (by omega) (hnh hs2 hl2 rfl (fun _ _ e => by cases e))).1.trans hl2
  have hk3 := (hz3 l (by omega) (hnh hs2 hk2 rfl (fun _ _ e => by cases e))).1.trans hk2
  have hlt3 : l + 1 < W3.heap.size := (Array.getElem?_eq_some_iff.1 hl3).1
  have hs1z : W0.heap.size ≤ W1.heap.size := hs1.below.size
  have hs3z : W2.heap.size ≤ W3.heap.size := hs3.below.size
  have fin : ∀ jump : Option Code, jump = jumpOf e → ∃ v w', (Instr.endRound (l + 1) jump).run P W3 = .ok v w' ∧ R (.returned v) w' := by
    rintro jump rfl
    refine ⟨_, _, run_endRound _ hl3, hR _ σ3 (hs3'.slotless.turn rfl hl3 rfl rfl (hs3'.slotless.unheld hl3 rfl) (by omega) hnl) ⟨World.putObj_heap_same hlt3, (World.putObj_heap_other (by omega)).trans hk3⟩ (by rw [World.putObj_size]; omega) fun b hb0 hn hne => ?_⟩
    obtain ⟨h5, h6⟩ := hz1 b hb0 hn
    obtain ⟨h7, h8⟩ := hz3 b (by omega) h6
    have h9 : W2.heap[b]? = W1.heap[b]? := by rw [← hW2]; exact World.putObj_heap_other hne
    exact ⟨(World.putObj_heap_other hne).trans (h7.trans (h9.trans h5)), h8⟩
  cases e with
  | normal => exact fin none rfl
  | exit id => exact fin (some (.exit id)) rfl
  | ret => exact fin (some .ret) rfl

theorem leave_ok (hmk : C.mrk = true) (h : Sim C D outs st a w σ) {s' : St} {W' : World} {σ1 : Places} (hs : Sim (C.at w σ true) [] (a.tmps.toList :: outs) { s' with slots := [] } ⟨#[], []⟩ W' σ1)
    {s0 : List V} {out : List (List V)} (ho : s'.outer = s0 :: out) {rec : Loop} (hL : Lay w.heap.size rec W') (hrec : rec.state ≠ .busy) :
    ∃ W4, (Instr.endLoop (w.heap.size + 1)).run P W' = .ok rec.pending W4 ∧ Sim C D outs { s' with slots := s0, outer := out } { a with defers := { target := .collected w.heap.size, args := #[] } :: a.defers } W4 σ1 := by
  have hnz : ¬ (C.at w σ true).Z (w.heap.size + 1) := fun hz => by have := hz.1; omega
  have hlt : w.heap.size + 1 < W'.heap.size := (Array.getElem?_eq_some_iff.1 hL.loop).1
  refine ⟨_, run_endLoop hL.loop hrec, ?_⟩
  have h2 := hs.turn rfl hL.loop rfl (hn := hs.unheld hL.loop rfl) (o' := .loop { rec with state := .exhausted }) rfl (show C.B ≤ _ by have := h.base; omega) hnz
  have hcalls : (W'.putObj (w.heap.size + 1) (.loop { rec with state := .exhausted })).heap[w.heap.size]? = some (.deferred (some [])) := (World.putObj_heap_other (by omega)).trans hL.calls
  generalize W'.putObj (w.heap.size + 1) (.loop { rec with state := .exhausted }) = W4 at h2 hcalls
  have hout := h2.outer
  rw [show ({ s' with slots := [] } : St).outer = s'.outer from rfl, ho] at hout
  obtain ⟨d, q, hdq, hd, hq⟩ := hout
  simp only [List.cons.injEq] at hdq
  obtain ⟨rfl, rfl⟩ := hdq
  have h3 : Sim (C.at w σ true) [] outs { s' with slots := s0, outer := out } { a with defers := [] } W4 σ1 := ⟨hd, hq, h2.objs, h2.dom, h2.inj, h2.held, h2.below, h2.base, h2.old, h2.still⟩
  have h4 : Sim C D outs { s' with slots := s0, outer := out } a W4 σ1 := h3.back h.below h.still rfl rfl
  obtain ⟨ms, hms, _, hnd, hm⟩ := h.still.marks
  obtain ⟨ms2, hms2, _, _, hm2⟩ := h4.still.marks
  obtain rfl : ms2 = ms := List.append_cancel_right (hms2.symm.trans hms)
  refine { h4 with still := ⟨⟨_ :: ms2, by rw [hms2]; rfl, .inr hmk, List.nodup_cons.2 ⟨fun hmem => ?_, hnd⟩, fun d hd => ?_⟩, h4.still.zed, h4.still.hid⟩ }
  · obtain ⟨r, h5, _, h6, _⟩ := hm _ hmem
    simp only [Deferred.mk.injEq, Target.collected.injEq, and_true] at h5
    omega
  · rcases List.mem_cons.1 hd with rfl | hd
    · exact ⟨_, rfl, ⟨h.base, fun hz => by have := (h.still.zed _ hz).2.1; omega⟩, (Array.getElem?_eq_some_iff.1 hcalls).1, h4.unheld hcalls rfl, hcalls⟩
    · exact hm2 d hd

theorem range_ok {run : Code → St → Option (Ex × St)} (hrun : RunOk P run) (hS : SeqsOk P E) (hmk : C.mrk = true) (h : Sim C D outs st a w σ) {g : Operand} {ps : Array Nat} {assign body : Code} {xss : List (List V)}
    (hseq : xN E ps assign body (st.eval g) st = some xss) {e : Ex} (he : popped (roundsIn run ps.toList assign body xss { st with outer := st.slots :: st.outer }) = some (e, st'))
    {Q : Exit → Act → World → Prop} (hQ : ∀ a' w' σ', Sim C D outs st' a' w' σ' → Q (exOf e) a' w') : (Code.rangeFunc g ps assign body).wpIn (W none) m P Q a w := by
  unfold xN at hseq
  split at hseq
  case h_2 => cases hseq
  rename_i f cap hge
  split at hseq
  case isFalse => cases hseq
  rename_i hc
  obtain ⟨hids, ha, hb⟩ := hc
  split at hseq
  case h_2 => cases hseq
  rename_i as hlend
  split at hseq
  case h_2 => cases hseq
  rename_i k xss' hx
  split at hseq
  case isFalse => cases hseq
  rename_i hk
  cases hseq
  have hg := h.eval g
  rw [hge] at hg
  obtain ⟨fa, fb, hgv, hfa, hfb⟩ := hg
  simp only [RepL] at hfa
  subst hfa
  obtain ⟨Fo, hFo, hrep, _, hFo2⟩ := lend_ok h hfb hlend
  have hFo3 : ∀ b, Fo b → ¬ Held σ b := fun b hb => by
    rcases hFo2 b hb with h1 | ⟨id, h1, _⟩
    · exact h1.1
    · rw [hids, reach_nil] at h1; cases h1
  obtain ⟨⟨fn', hf1, hf2, hf3⟩, hplain, hcall⟩ := hS f as k xss hx
  obtain ⟨e0, s', hr, s0, out, hout, hst⟩ : ∃ e0 s', roundsIn run ps.toList assign body xss { st with outer := st.slots :: st.outer } = some (e0, s') ∧ ∃ s0 out, s'.outer = s0 :: out ∧ (e, st') = (e0, { s' with slots := s0, outer := out }) := by
    unfold popped at he
    split at he
    · rename_i e0 s' hr
      split at he
      · rename_i s0 out ho
        cases he
        exact ⟨_, _, hr, _, _, ho, rfl⟩
      · cases he
    · cases he
  cases hst
  refine wpIn_rangeFunc ?_
  intro fn _
  obtain ⟨yss, hylen, hyrep, hiter⟩ := hcall (m - 1) w Fo fb hFo hrep
  let rec_ (s : LoopState) (pe : Option Code) : Loop := { state := s, pending := pe, fn := fn, tmps := a.tmps, params := ps, assign := assign, body := body, defers := w.heap.size }
  obtain ⟨W1, hW1⟩ : ∃ W1, (w.alloc (.deferred (some []))).alloc (.loop (rec_ .ready none)) = W1 := ⟨_, rfl⟩
  have hbW : Below w.heap.size w W1 := by rw [← hW1]; exact ((Below.refl _ w).alloc (Nat.le_refl _) _).alloc (by simp) _
  have hL1 : Lay w.heap.size (rec_ .ready none) W1 := by
    rw [← hW1]
    refine ⟨?_, ?_⟩
    · have := World.alloc_heap_new (w.alloc (.deferred (some []))) (.loop (rec_ .ready none))
      rwa [World.size_alloc] at this
    · exact (Below.heap_alloc _ _ _ (by simp)).trans (World.alloc_heap_new w _)
  have hs1 : Sim (C.at w σ true) [] (a.tmps.toList :: outs) { st with slots := [], outer := st.slots :: st.outer } ⟨#[], []⟩ w σ := by
    have hf1 : Sim (C.at w σ true) a.defers outs st a w σ := h.focus true rfl
    exact ⟨rfl, ⟨_, _, rfl, hf1.slots, hf1.outer⟩, hf1.objs, hf1.dom, hf1.inj, hf1.held, hf1.below, hf1.base, hf1.old, Still.refl hf1.still.zed hf1.still.hid⟩
  have hB : (C.at w σ true).B ≤ w.heap.size := h.base
  have hZ : ∀ b, (C.at w σ true).Z b → b < w.heap.size := fun b hb => hb.1
  refine ⟨w.heap.size + 1, [{ target := .collected w.heap.size, args := #[] }], W1, { target := .fn (.func f) fb.toArray, args := #[.func (.yield (w.heap.size + 1)) #[] #[]] }, W1, f,
    #[.func (.yield (w.heap.size + 1)) #[] #[]] ++ fb.toArray, W1, by rw [← hW1]; exact run_enterLoop_outer _ _ _ _ _, ?_, fun _ _ => trivial, ?_, fun hh => by simp [W, Fence.wide] at hh, ?_⟩
  · simp only [_root_.Go.resolve, hgv]
    simp [go_sem]
  · simp only [invoke, callFunc, run_program, Sem.run_bind, Result.andThen_ok, hf1, hf3, hf2, Bool.false_eq_true, if_false, Sem.run_pure]
  · refine (hiter (w.heap.size + 1)
      (fun i K A => ∃ s σ1, roundsIn run ps.toList assign body (xss.drop i) s = some (e, s') ∧ Sim (C.at w σ true) [] (a.tmps.toList :: outs) { s with slots := [] } ⟨#[], []⟩ A σ1 ∧
        (∀ b, K b → b < A.heap.size ∧ ¬ Held σ1 b ∧ b ≠ w.heap.size + 1) ∧ Lay w.heap.size (rec_ .ready none) A)
      (fun A => e ≠ .normal ∧ ∃ σ1, Sim (C.at w σ true) [] (a.tmps.toList :: outs) { s' with slots := [] } ⟨#[], []⟩ A σ1 ∧ Lay w.heap.size (rec_ .done (jumpOf e)) A) _ hbW ⟨?_, ?_, ?_⟩
      ⟨_, σ, hr, hs1.world hbW, fun b hb => ⟨by have := hFo b hb; have := hbW.size; omega, hFo3 b hb, by have := hFo b hb; omega⟩, hL1⟩).mono ?_
    · rintro i K A B ⟨s, σ1, h1, h2, h3, h4⟩ hAB
      refine ⟨s, σ1, h1, h2.world hAB, fun b hb => ?_, ⟨(hAB.block _ (Array.getElem?_eq_some_iff.1 h4.loop).1).trans h4.loop, (hAB.block _ (Array.getElem?_eq_some_iff.1 h4.calls).1).trans h4.calls⟩⟩
      have hA := (Array.getElem?_eq_some_iff.1 h4.loop).1
      have := hAB.size
      rcases hb with hb | hb
      · have := (h3 b hb).1
        exact ⟨by omega, (h3 b hb).2⟩
      · exact ⟨hb.2, fun hh => by have := (h2.held b hh).2; omega, by omega⟩
    · rintro A B ⟨h1, σ1, h2, h4⟩ hAB
      exact ⟨h1, σ1, h2.world hAB, ⟨(hAB.block _ (Array.getElem?_eq_some_iff.1 h4.loop).1).trans h4.loop, (hAB.block _ (Array.getElem?_eq_some_iff.1 h4.calls).1).trans h4.calls⟩⟩
    · rintro i ys K A ⟨s, σ1, h1, h2, h3, h4⟩ hys
      have hi : i < xss.length := by rw [← hylen]; exact (List.getElem?_eq_some_iff.1 hys).1
      obtain ⟨xs, hxs⟩ : ∃ xs, xss[i]? = some xs := ⟨_, List.getElem?_eq_getElem hi⟩
      have hmem : xs ∈ xss := List.mem_of_getElem? hxs
      have hdrop : xss.drop i = xs :: xss.drop (i + 1) := by
        rw [List.drop_eq_getElem_cons hi]
        congr 1
        rw [List.getElem?_eq_getElem hi] at hxs
        exact Option.some.inj hxs
      rw [hdrop] at h1
      simp only [roundsIn] at h1
      obtain ⟨σ2, h2, hsub⟩ := tidy_ok h2
      replace h3 : ∀ b, K b → b < A.heap.size ∧ ¬ Held σ2 b ∧ b ≠ w.heap.size + 1 := fun b hb => ⟨(h3 b hb).1, fun hh => (h3 b hb).2.1 (hsub b hh), (h3 b hb).2.2⟩
      have hxy : RepL (C.at w σ true) A σ2 none xs ys := RepL.plain xs (hplain xs hmem).2 (hyrep i xs ys hxs hys)
      split at h1
      case h_2 => cases h1
      rename_i sa hsa
      split at h1
      · rename_i sb hsb
        refine round_ok hrun ha hb h2 hB hZ (pending := none) (fn := fn) (tmps := a.tmps.toList) h4 ((hplain xs hmem).1.trans hk) hxy hsa hsb fun W' σ' h5 h6 h7 h8 => .inl ⟨rfl, ⟨sb, σ', h1, h5, fun b hb => ?_, h6⟩, h7, fun b hb => ?_⟩
        · obtain ⟨k1, k2, k3⟩ := h3 b hb
          exact ⟨by omega, (h8 b k1 k2 k3).2, k3⟩
        · obtain ⟨k1, k2, k3⟩ := h3 b hb
          exact (h8 b k1 k2 k3).1
      · rename_i hne
        have hen : e ≠ .normal := fun he => by subst he; exact hne _ h1
        refine round_ok hrun ha hb h2 hB hZ (pending := none) (fn := fn) (tmps := a.tmps.toList) h4 ((hplain xs hmem).1.trans hk) hxy hsa h1 fun W' σ' h5 h6 h7 h8 => .inr ⟨?_, hen, σ', h5, ?_⟩
        · cases e with
          | normal => exact absurd rfl hen
          | exit id => rfl
          | ret => rfl
        · cases e with
          | normal => exact absurd rfl hen
          | exit id => exact h6
          | ret => exact h6
    · rintro en W2 ⟨⟨v, rfl⟩, (⟨K, s, σ1, h1, h2, _, h4⟩ | ⟨hen, σ1, h2, h4⟩)⟩
      · rw [hylen, List.drop_length] at h1
        simp only [roundsIn, Option.some.injEq, Prod.mk.injEq] at h1
        obtain ⟨rfl, rfl⟩ := h1
        obtain ⟨σ2, h2, _⟩ := tidy_ok h2
        obtain ⟨W4, h5, h6⟩ := leave_ok (P := P) hmk h h2 hout h4 (by simp [rec_])
        exact ⟨none, W4, h5, hQ _ _ _ h6⟩
      · obtain ⟨W4, h5, h6⟩ := leave_ok (P := P) hmk h h2 hout h4 (by simp [rec_])
        cases e with
        | normal => exact absurd rfl hen
        | exit id => exact ⟨some (.exit id), W4, h5, wpIn_exit (hQ _ _ _ h6)⟩
        | ret => exact ⟨some .ret, W4, h5, wpIn_ret (hQ _ _ _ h6)⟩

end
end Go.AM
end

section
/-
The abstract machine on code and on functions: right.
-/
namespace Go.AM
open Go Go.RowKit

section
variable {P : Program} {E : Env} {O : Orc} {C : Cx} {D : List Deferred} {outs : List (List Value)} {st st' : St} {a : Act} {w : World} {σ : Places} {m : Nat}

theorem normOf_ok (h : Sim C D outs st a w σ) (fc : FC) (b : Code) : ∃ σ', Sim C D outs (zC fc b st) a w σ' := by
  unfold zC
  split
  · split
    · split
      · exact ⟨σ, { h with slots := mask_ok _ 0 _ _ h.slots }⟩
      · obtain ⟨σ', h1, _⟩ := norm_ok h ‹_›; exact ⟨σ', h1⟩
    · exact ⟨σ, h⟩
  · exact ⟨σ, h⟩

def noJump (Q : Exit → Act → World → Prop) : Exit → Act → World → Prop
  | .goto _, _, _ => False
  | e, a, w => Q e a w

theorem wpIn_scope_straight {F : Fence} {n : Nat} {P : Program} {a : Act} {w : World} {Q : Exit → Act → World → Prop} {c : Code} (h : c.wpIn F n P (noJump Q) a w) : (Code.scope c).wpIn F n P Q a w := by
  intro b k cs hro hb hr
  have s1 : ∀ {a : Act} {w : World}, step P (lone (b.atR a (.code (.scope c) :: k)) cs w) = .next (lone (b.atR a (.code c :: .inScope c :: k)) cs w) :=
    step_lone_go (by simp [stepG, stepG.exec, Frame.atR])
  have s2 : ∀ {a : Act} {w : World}, step P (lone (b.atR a (.inScope c :: k)) cs w) = .next (lone (b.atR a k) cs w) :=
    step_lone_go (by simp [stepG, stepG.exec, Frame.atR])
  have h0 : (lone (b.atR a (.code (.scope c) :: k)) cs w).fenced P F := fenced_calm hb hr rfl
  obtain ⟨e, a₁, w₁, hq, harr⟩ := h b (.inScope c :: k) cs hro hb hr
  cases e with
  | normal => exact ⟨.normal, a₁, w₁, hq, .head h0 s1 (StepsIn.trans harr (.one (fenced_calm hb hr rfl) s2))⟩
  | exit id =>
    have hx : exitTo id (.inScope c :: k) = exitTo id k := by simp [exitTo]
    exact ⟨.exit id, a₁, w₁, hq, fun k' hk => .head h0 s1 (harr.1 k' (by rw [hx]; exact hk)),
      fun hr' hk => let ⟨k₁, h1, h2⟩ := harr.2 hr' (by rw [hx]; exact hk); ⟨k₁, h1, .head h0 s1 h2⟩⟩
  | goto l => exact hq.elim
  | ret => exact ⟨_, a₁, w₁, hq, .of_steps (.one h0 s1) harr⟩
  | panic ch => exact ⟨_, a₁, w₁, hq, .of_steps (.one h0 s1) harr⟩
  | outgrown => exact ⟨_, a₁, w₁, hq, .of_steps (.one h0 s1) harr⟩

theorem ev_ok (hT : TyOk P E) (hS : SeqsOk P E) (hO : OrcOk P E O) (hm : P.follows .mixedOrders = true) {fc : FC} {base : Nat} : ∀ (n : Nat) (ro : Option Nat) (m : Nat) (c : Code) {C : Cx}, (ro = none ∧ C.mrk = true ∨ xO c = true) →
    ∀ {D : List Deferred} {outs : List (List Value)} {st st' : St} {e : Ex} {a : Act} {w : World} {σ : Places} {Q : Exit → Act → World → Prop},
    Sim C D outs st a w σ → ev E O fc base n c st = some (e, st') → (∀ a' w' σ', Sim C D outs st' a' w' σ' → Q (exOf e) a' w') → c.wpIn (W ro) m P Q a w := by
  intro n
  induction n with
  | zero => intro ro m c C _ D outs st st' e a w σ Q _ he; simp [ev] at he
  | succ n ih0 =>
    intro ro m c C hro D outs st st' e a w σ Q h he hQ
    have ih : ∀ (c : Code), (ro = none ∧ C.mrk = true ∨ xO c = true) → ∀ {st st' : St} {e : Ex} {a : Act} {w : World} {σ : Places} {Q : Exit → Act → World → Prop},
        Sim C D outs st a w σ → ev E O fc base n c st = some (e, st') → (∀ a' w' σ', Sim C D outs st' a' w' σ' → Q (exOf e) a' w') → c.wpIn (W ro) m P Q a w := fun c hc => ih0 ro m c hc
    simp only [ev] at he
    split at he
    · cases he; exact wpIn_skip (hQ _ _ _ h)
    · rename_i id ops draw
      split at he
      case h_2 => cases he
      rename_i s hs
      cases he
      unfold evReg at hs
      cases draw with
      | true =>
        dsimp only at hs
        cases hld : fc.lead with
        | true =>
          rw [hld] at hs
          exact wpIn_region_any hm (evLead_ok hT hO h hs (fun a' w' σ' h' => hQ a' w' σ' h'))
        | false =>
          rw [hld] at hs
          dsimp only [regL] at hs
          cases hbar : fc.bar with
          | true =>
            rw [hbar] at hs
            dsimp only [regG] at hs
            cases htw : fc.tew with
            | true => rw [htw] at hs; exact wpIn_region_any hm (evB_ok hT hO (efOk_X hT) h hs (fun a' w' σ' h' => hQ a' w' σ' h'))
            | false => rw [htw] at hs; exact wpIn_region_any hm (evB_ok hT hO (efOk_of hT) h hs (fun a' w' σ' h' => hQ a' w' σ' h'))
          | false =>
            rw [hbar] at hs
            simp only [regG, evRegion, if_true] at hs
            exact wpIn_region_any hm (evD_ok hT hO h hs (fun a' w' σ' h' => hQ a' w' σ' h'))
      | false =>
        simp only [evRegion, Bool.false_eq_true, if_false] at hs
        have := evOps_ok (Q := Q) (ro := ro) (m := m) hT hO (st' := st') (D := D) (C := C) (outs := outs) (fun a' w' σ' h' => hQ a' w' σ' h') 0 ops.toList (fun i => by simp) (by simp) h hs
        rw [Array.length_toList] at this
        exact wpIn_region (by rw [List.range_eq_range']; exact this)
    · rename_i x y
      refine wpIn_seq ?_
      split at he
      · rename_i s hs
        refine ih x (hro.imp_right fun hr => (Bool.and_eq_true_iff.1 hr).1) h hs fun a' w' σ' h' => ?_
        exact ih y (hro.imp_right fun hr => (Bool.and_eq_true_iff.1 hr).2) h' he hQ
      · rename_i r hr
        refine ih x (hro.imp_right fun hr => (Bool.and_eq_true_iff.1 hr).1) h he fun a' w' σ' h' => ?_
        cases e with
        | normal => exact absurd he (hr _)
        | exit id => exact hQ _ _ _ h'
        | ret => exact hQ _ _ _ h'
    · rename_i c x y
      split at he
      case h_2 => cases he
      rename_i t ht
      have hc := h.eval c
      rw [ht] at hc
      simp only [Rep] at hc
      refine wpIn_cond hc ?_
      cases t
      · exact ih _ (hro.imp_right fun hr => (Bool.and_eq_true_iff.1 hr).2) h he hQ
      · exact ih _ (hro.imp_right fun hr => (Bool.and_eq_true_iff.1 hr).1) h he hQ
    · rename_i id b
      refine wpIn_block ?_
      split at he
      · rename_i i s hs
        refine ih b (hro.imp_right fun hr => hr) h hs fun a' w' σ' h' => ?_
        simp only [exOf, Exit.inBlock]
        split at he
        · rename_i hi
          cases he
          rw [if_pos hi]
          exact hQ _ _ _ h'
        · rename_i hi
          cases he
          rw [if_neg hi]
          exact hQ _ _ _ h'
      · rename_i r hr
        refine ih b (hro.imp_right fun hr => hr) h he fun a' w' σ' h' => ?_
        cases e with
        | normal => exact hQ _ _ _ h'
        | exit id => exact absurd he (hr _ _)
        | ret => exact hQ _ _ _ h'
    · rename_i b
      refine wpIn_loop_rounds (n + 1) ?_
      -- round by round
      have rounds : ∀ (k : Nat), k ≤ n → ∀ {st : St} {a : Act} {w : World} {σ : Places}, Sim C D outs st a w σ → ev E O fc base (k + 1) (.loop b) st = some (e, st') →
          Code.roundsIn (W ro) m P b Q (k + 1) a w := by
        intro k
        induction k with
        | zero =>
          intro _ st a w σ h he
          simp only [ev] at he
          cases he
        | succ k ihk =>
          intro hk st a w σ h he
          rw [roundsIn_succ]
          obtain ⟨σ', h2⟩ := normOf_ok h fc b
          have up : ∀ r, ev E O fc base (k + 1) b (zC fc b st) = some r → ev E O fc base n b (zC fc b st) = some r := fun r hr => ev_mono (Orc.le.refl O) (by omega) b hr
          rw [ev] at he
          split at he
          · rename_i s hs
            exact ih b (hro.imp_right fun hr => hr) h2 (up _ hs) fun a' w' σ' h' => ihk (by omega) h' he
          · rename_i hr
            refine ih b (hro.imp_right fun hr => hr) h2 (up _ he) fun a' w' σ' h' => ?_
            cases e with
            | normal => exact absurd he (hr _)
            | exit id => exact hQ _ _ _ h'
            | ret => exact hQ _ _ _ h'
      exact rounds n (Nat.le_refl _) h (by rw [ev]; exact he)
    · rename_i g ps assign body
      rcases hro with ⟨rfl, hmk⟩ | hr
      · split at he
        case h_2 => cases he
        rename_i xss hx
        exact range_ok (fun l m c hc => ih0 (some l) m c (.inr hc)) hS hmk h hx he hQ
      · cases hr
    · cases he; exact wpIn_exit (hQ _ _ _ h)
    · cases he; exact wpIn_ret (hQ _ _ _ h)
    · cases he; exact wpIn_label (hQ _ _ _ h)
    · rename_i b
      refine wpIn_scope_straight ?_
      refine ih b (hro.imp_right fun hr => hr) h he fun a' w' σ' h' => ?_
      cases e with
      | normal => exact hQ _ _ _ h'
      | exit id => exact hQ _ _ _ h'
      | ret => exact hQ _ _ _ h'
    · cases he

end
end Go.AM
end

section
/-
The abstract machine on functions: right.
-/
namespace Go.AM
open Go Go.RowKit

structure EnvOk (P : Program) (E : Env) : Prop where
  ty : TyOk P E
  fn : ∀ f fn, E.fn f = some fn → P.funcs[f]? = some fn ∧ (fn.name == "runtime.NumGoroutine") = false
  seq : SeqsOk P E

section
variable {P : Program} {E : Env} {O : Orc} {C : Cx} {D : List Deferred} {outs : List (List Value)} {st st' : St} {a : Act} {w : World} {σ : Places} {m : Nat}

theorem loadVar_of_at {t : TypeId} {p v : Value} (h : (Instr.loadAt t p).run P w = .ok v w) : (do loadVar t (← asAddr p) : Sem Value).run P w = .ok v w := by
  unfold Instr.loadAt at h
  cases p with
  | pointer q =>
    cases q with
    | some q => exact h
    | none => simp [Instr.sureAddr] at h
  | _ => simp [Instr.sureAddr] at h

def resRun (tmps : Array Value) : ResultVar → Sem Value
  | .tmp t => pure (tmps.getD t undef)
  | .cell p t => do loadVar t (← asAddr (tmps.getD p undef))

theorem results_run (fn : Func) (tmps : Array Value) : results fn tmps = (do
    let vs ← fn.results.mapM (resRun tmps)
    pure (if h : vs.size = 1 then vs[0] else .tuple vs)) := by
  unfold results resRun
  rfl

theorem resultV_ok (hT : TyOk P E) (h : Sim C D outs st a w σ) {r : ResultVar} {v : V} (he : resultV E st r = some v) :
    ∃ c, (resRun a.tmps r).run P w = .ok c w ∧ Rep C w σ none v c := by
  cases r with
  | tmp t =>
    simp only [resultV, Option.some.injEq] at he
    subst he
    exact ⟨_, by simp [resRun], h.get t⟩
  | cell p t =>
    simp only [resultV] at he
    split at he
    · rename_i ti hti
      obtain ⟨cv, h1, h2⟩ := evLoad_ok hT h hti (h.get p) he
      exact ⟨cv, loadVar_of_at h1, h2⟩
    · cases he

theorem resultVs_ok (hT : TyOk P E) (h : Sim C D outs st a w σ) : ∀ (l : List ResultVar) {vs : List V}, allM (resultV E st) l = some vs →
    ∃ cs, (l.mapM (resRun a.tmps)).run P w = .ok cs w ∧ RepL C w σ none vs cs
  | [], vs, he => by simp only [allM] at he; cases he; exact ⟨[], by simp, rfl⟩
  | r :: l, vs, he => by
    simp only [allM] at he
    split at he
    case h_2 => cases he
    rename_i b hb
    split at he
    case h_2 => cases he
    rename_i bs hbs
    cases he
    obtain ⟨c, h1, h2⟩ := resultV_ok hT h hb
    obtain ⟨cs, h3, h4⟩ := resultVs_ok hT h l hbs
    refine ⟨c :: cs, ?_, c, cs, rfl, h2, h4⟩
    rw [List.mapM_cons]
    simp only [Sem.run_bind, h1, h3, Result.andThen_ok, Sem.run_pure]

theorem results_ok (hT : TyOk P E) (h : Sim C D outs st a w σ) {fn : Func} {v : V} (he : qD E fn st = some v) :
    ∃ c, (results fn a.tmps).run P w = .ok c w ∧ Rep C w σ none v c := by
  unfold qD at he
  split at he
  case h_3 => cases he
  all_goals
    rename_i hs
    obtain ⟨cs, h1, h2⟩ := resultVs_ok hT h _ hs
    cases he
    rw [results_run, Array.mapM_eq_mapM_toList]
    simp only [map_eq_pure_bind, bind_assoc, pure_bind, Sem.run_bind, h1, Result.andThen_ok, Sem.run_pure]
  · obtain ⟨d, r, rfl, hd, hr⟩ := h2
    simp only [RepL] at hr
    subst hr
    exact ⟨d, by simp, hd⟩
  · rename_i vs hvs
    have hl := h2.length
    have hn : ¬ cs.toArray.size = 1 := fun h' => by
      have : vs.length = 1 := by rw [← hl]; simpa using h'
      match vs, this with
      | [v], _ => exact hvs v rfl
    simp only [dif_neg hn]
    exact ⟨_, rfl, cs, rfl, h2⟩

theorem evFn_callable (hE : EnvOk P E) {n base f : Nat} {args : List V} {r : V} (he : evFn E O n base f args st = some (r, st')) : Callable P f := by
  unfold evFn at he
  split at he
  case h_2 => cases he
  rename_i fn hfn
  split at he
  case h_2 => cases he
  rename_i c hc
  obtain ⟨hP, hname⟩ := hE.fn f fn hfn
  exact ⟨fn, hP, by rw [hc]; rfl, hname⟩

theorem leaves_ok {fn : Func} {R : Ending → World → Prop} (h : Sim C [] outs st a w σ) (hR : ∀ w', Sim C [] outs st { a with defers := [] } w' σ → ∃ v, (results fn a.tmps).run P w' = .ok v w' ∧ R (.returned v) w') :
    LeavesInM Fence.wide m P fn a.tmps R a.defers .returning w := by
  obtain ⟨ms, hms, hx, hnd, hm⟩ := h.still.marks
  rw [List.append_nil] at hms
  rw [hms]
  have h0 : Sim C [] outs st { a with defers := [] } w σ := { h with still := Still.refl h.still.zed h.still.hid }
  clear h hms hx
  induction ms generalizing w with
  | nil => exact hR w h0
  | cons d ms ih =>
    obtain ⟨r, rfl, ⟨hB, hZ⟩, hlt, hh, hr⟩ := hm d List.mem_cons_self
    refine ⟨by simp, .inl ⟨r, _, rfl, run_takeDeferred hr, ih (List.nodup_cons.1 hnd).2 (fun d' hd' => ?_) (h0.turn rfl hr rfl rfl (h0.unheld hr rfl) hB hZ)⟩⟩
    obtain ⟨r', h1, h2, h3, h4, h5⟩ := hm d' (List.mem_cons_of_mem _ hd')
    refine ⟨r', h1, h2, by rw [World.putObj_size]; exact h3, h4, (World.putObj_heap_other fun e => ?_).trans h5⟩
    subst e
    exact (List.nodup_cons.1 hnd).1 (h1 ▸ hd')

theorem evFn_wp (hE : EnvOk P E) (hO : OrcOk P E O) (hm : P.follows .mixedOrders = true) {n base f : Nat} {args : List V} {cargs : List Value} {r : V}
    (hmk : C.mrk = true) (h : Sim C [] outs { st with slots := [] } ⟨#[], []⟩ w σ) (hr : RepL C w σ none args cargs) (he : evFn E O n base f args st = some (r, st')) :
    Callable P f ∧ CallsIn Fence.wide m P f cargs.toArray w fun e w' => ∃ c a σ', e = .returned c ∧ Sim C [] outs st' a w' σ' ∧ Rep C w' σ' none r c := by
  unfold evFn at he
  split at he
  case h_2 => cases he
  rename_i fn hfn
  split at he
  case h_2 => cases he
  rename_i c hc
  obtain ⟨hP, hname⟩ := hE.fn f fn hfn
  refine ⟨⟨fn, hP, by rw [hc]; rfl, hname⟩, callsIn_of_wp_marks hP hc trivial ?_⟩
  have h1 : Sim C [] outs { st with slots := args ++ List.replicate (fn.ntmps - args.length) .und } { tmps := cargs.toArray ++ Array.replicate (fn.ntmps - cargs.toArray.size) undef, defers := [] } w σ := by
    refine { h with slots := ?_, still := h.still }
    simp only [Array.toList_append, Array.toList_replicate, List.size_toArray]
    refine RepL.app hr ?_
    rw [hr.length]
    generalize fn.ntmps - args.length = k
    induction k with
    | zero => rfl
    | succ k ih => exact ⟨_, _, by rw [List.replicate_succ], rfl, ih⟩
  have fin : ∀ (e : Ex) (s : St), ev E O (E.fc f) base n c { st with slots := args ++ List.replicate (fn.ntmps - args.length) .und } = some (e, s) → (e = .normal ∨ e = .ret) → qD E fn s = some r → s = st' →
      c.wpIn Fence.wide m P (bodyPostM Fence.wide m P fn fun e w' => ∃ c a σ', e = .returned c ∧ Sim C [] outs st' a w' σ' ∧ Rep C w' σ' none r c) { tmps := cargs.toArray ++ Array.replicate (fn.ntmps - cargs.toArray.size) undef, defers := [] } w := by
    rintro e s hev hex hres rfl
    refine ev_ok hE.ty hE.seq hO hm n none m c (.inl ⟨rfl, hmk⟩) h1 hev fun a' w' σ' h' => ?_
    have key := leaves_ok (fn := fn) (m := m) h' (R := fun e w' => ∃ c a σ', e = .returned c ∧ Sim C [] outs s a w' σ' ∧ Rep C w' σ' none r c) fun w2 h2 => by
      obtain ⟨cv, h3, h4⟩ := results_ok hE.ty h2 hres
      exact ⟨cv, h3, cv, _, σ', rfl, h2, h4⟩
    rcases hex with rfl | rfl
    · exact key
    · exact key
  split at he
  · rename_i s hs
    split at he
    · rename_i r' hr'
      cases he
      exact fin _ _ hs (.inl rfl) hr' rfl
    · cases he
  · rename_i s hs
    split at he
    · rename_i r' hr'
      cases he
      exact fin _ _ hs (.inr rfl) hr' rfl
    · cases he
  · cases he

structure ExtOk (P : Program) (X : Ext) : Prop where
  call : ∀ g args r, X.call g args = some r → CallOk P g args r
  inl : ∀ base g args st r st', X.inl base g args st = some (r, st') → InlOk P g args st r st'

theorem orc_ok (hE : EnvOk P E) {X : Ext} (hX : ExtOk P X) (hm : P.follows .mixedOrders = true) : ∀ n, OrcOk P E (orc E X n)
  | 0 => ⟨hX.call, hX.inl⟩
  | n + 1 => by
    have ih := orc_ok hE hX hm n
    refine ⟨fun g args r h => ?_, fun base g args st r st' h => ?_⟩
    · simp only [orc] at h
      split at h
      · rename_i r' hr'
        cases h
        exact hX.call g args r hr'
      · split at h
        case h_2 => cases h
        rename_i r' s hs
        have main : ∀ (m : Nat) (w : World) (Fo : Nat → Prop) (cargs : List Value), (∀ b, Fo b → b < w.heap.size) →
            RepL ⟨Fo, w.heap.size, w, fun _ => False, true, fun _ => False⟩ w (fun _ => none) none args cargs →
            Callable P g ∧ CallsIn Fence.wide m P g cargs.toArray w fun e w' => ∃ c a σ', e = .returned c ∧ Sim ⟨Fo, w.heap.size, w, fun _ => False, true, fun _ => False⟩ [] [] s a w' σ' ∧ Rep ⟨Fo, w.heap.size, w, fun _ => False, true, fun _ => False⟩ w' σ' none r' c := by
          intro m w Fo cargs hFo hr
          refine evFn_wp (st := { slots := [], outer := [], objs := [] }) hE ih hm rfl ?_ hr hs
          refine ⟨rfl, rfl, ?_, fun _ _ => rfl, ?_, ?_, Below.refl _ _, Nat.le_refl _, hFo, Still.refl (fun _ hb => hb.elim) fun _ hb => hb.elim⟩
          · intro id ob h; simp [look] at h
          · intro i j li lj b h; cases h
          · rintro b ⟨id, l, h, _⟩; cases h
        refine ⟨evFn_callable hE hs, fun m w Fo cargs hFo hr => ?_⟩
        · refine (main m w Fo cargs hFo hr).2.mono fun e w' he => ?_
          obtain ⟨c, a, σ', rfl, h1, h2⟩ := he
          have hok : ∀ t b, okB ⟨Fo, w.heap.size, w, fun _ => False, true, fun _ => False⟩ w' σ' t b → okB ⟨Fo, w.heap.size, w, fun _ => False, true, fun _ => False⟩ w' (fun _ => none) t b :=
            fun t b hb => ⟨(fun ⟨_, _, hi, _⟩ => by cases hi), hb.2⟩
          obtain ⟨h3, h4⟩ := (resolve_ok (C' := ⟨Fo, w.heap.size, w, fun _ => False, true, fun _ => False⟩) (σ' := fun _ => none) h1 (reach s.objs depth (ids r')) hok
            (fun id _ b bo es cap app hl => ⟨fun ⟨_, _, hi, _⟩ => by (cases hi), (h1.held b (.of hl)).2, .inl ⟨(h1.held b (.of hl)).1, h1.seen (.of hl)⟩, fun _ => h1.unfrozen hl⟩) depth).1
            r' c r h2 (fun i hi => hi) h
          exact ⟨c, rfl, h1.below, h3, h4⟩
    · simp only [orc] at h
      split at h
      · rename_i r' hr'
        cases h
        exact hX.inl base g args st r st' hr'
      · refine ⟨evFn_callable hE h, fun m C outs w σ cargs hmk h1 h2 => ?_⟩
        · refine (evFn_wp hE ih hm hmk h1 h2 h).2.mono fun e w' he => ?_
          obtain ⟨c, a, σ', rfl, h3, h4⟩ := he
          exact ⟨c, σ', rfl, { h3 with slots := rfl, still := Still.refl h3.still.zed h3.still.hid }, h4⟩

end
end Go.AM
end

