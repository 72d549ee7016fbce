/-
The operations, seventh part: addresses, parts, numbers; and all of them together.
-/
import Derived.Test.YtdipdaajicceoaaAmOpsF
import Derived.Laws.StructEq
namespace Go.AM
open Go Go.RowKit

section
variable {P : Program} {E : Env} {C : Cx} {D : List Deferred} {outs : List (List Value)} {st st' : St} {a : Act} {w : World} {σ : Places}

theorem evFieldAddr_ok (hT : TyOk P E) {t f : Nat} {fs : List (Nat × Nat)} (hfs : fieldsOf E t = some fs) {x v : V} {cx : Value} (hx : Rep C w σ none x cx) (he : evFieldAddr E fs f x = some v) :
    ∃ cv, (Instr.fieldAt t cx f).run P w = .ok cv w ∧ Rep C w σ none v cv := by
  obtain ⟨gs, hu, hgs⟩ := fieldsOf_ok hT hfs
  unfold evFieldAddr at he
  split at he
  case h_2 => cases he
  rename_i off ft hf
  split at he
  case h_2 => cases he
  rename_i fi hfi
  split at he
  case isFalse => cases he
  rename_i hpos
  obtain ⟨d2, i2, z2, _, _, hi2, hsz2, _⟩ := hT _ fi hfi
  obtain ⟨g, hg, hgo⟩ : ∃ g, gs[f]? = some g ∧ (g.offset, g.type) = (off, ft) := by
    rw [← hgs, List.getElem?_map, Array.getElem?_toList] at hf
    exact Option.map_eq_some_iff.1 hf
  cases hgo
  have hsz : ∀ ad : Addr, (fieldPlace ad g).run P w = .ok (ad.add g.offset) w := fun ad => by
    unfold fieldPlace
    simp only [Sem.run_bind, run_sizeOf hi2, Result.andThen_ok]
    rw [if_neg (by omega)]
    rfl
  have hrun : ∀ ad : Addr, (Instr.fieldAt t (.pointer (some ad)) f).run P w = .ok (.pointer (some (ad.add g.offset))) w := fun ad => by
    unfold Instr.fieldAt
    simp [run_underlying hu, hg, Instr.sureAddr, hsz]
  split at he
  · cases he
    simp only [Rep] at hx
    split at hx
    · exact hx.elim
    · exact hx.elim
    · subst hx
      rename_i b bo es cap app hloc
      refine ⟨_, hrun _, ?_⟩
      simp [Rep, hloc, Addr.add_lit, Nat.add_assoc]
  · cases he
    obtain ⟨hf', b, off0, ds, rfl, hb, hl, h1, hlie⟩ := hx
    exact ⟨_, hrun _, hf', b, off0, ds, by simp [Addr.add_lit, Nat.add_assoc], hb, hl, h1, hlie⟩
  · cases he

theorem part_ok {m : Option Bool} {t : TypeId} {ti : TI} {d : TypeDesc} {i : TypeInfo} (hd : P.underlying t = some d) (ht : tyIs ti.ty d = true) (hi : P.info? t = some i) (hsz : i.size = ti.size)
    {c : Nat} {cs : List V} {ds : List Value} (hl : RepL C w σ m cs ds) (h1 : ∀ u ∈ ds, u.oneCell' = true) {v : V} (hp : part ti.ty.isAgg ti.size cs c = some v) :
    ∃ cv, (Go.part t ds.toArray c).run P w = .ok cv w ∧ Rep C w σ m v cv := by
  unfold Go.part
  simp only [Sem.run_bind, isAgg_run hd ht, Result.andThen_ok]
  unfold AM.part at hp
  split at hp
  · rename_i hagg
    split at hp
    case isFalse => cases hp
    rename_i hle
    cases hp
    refine ⟨.agg ((ds.drop c).take ti.size).toArray, ?_, ⟨_, rfl, (hl.drop c).take ti.size, fun u hu => h1 u (List.mem_of_mem_drop (List.mem_of_mem_take hu))⟩⟩
    simp only [hagg, if_true, Sem.run_bind, run_sizeOf hi, hsz, Result.andThen_ok, Sem.run_pure]
    congr 2
    apply Array.toList_inj.1
    simp
  · rename_i hagg
    obtain ⟨u, hu, hr⟩ := hl.get c hp
    exact ⟨u, by simp [hagg, hu], hr⟩

theorem evField_ok (hT : TyOk P E) {t f : Nat} {fs : List (Nat × Nat)} (hfs : fieldsOf E t = some fs) {x v : V} {cx : Value} (hx : Rep C w σ none x cx) (he : evField E fs f x = some v) :
    ∃ cv, (Instr.field t cx f).run P w = .ok cv w ∧ Rep C w σ none v cv := by
  obtain ⟨gs, hu, hgs⟩ := fieldsOf_ok hT hfs
  unfold evField at he
  split at he
  case h_2 => cases he
  rename_i off ft cs hf
  split at he
  case h_2 => cases he
  rename_i fi hfi
  obtain ⟨d2, i2, z2, hd2, ht2, hi2, hsz2, _⟩ := hT _ fi hfi
  obtain ⟨g, hg, hgo⟩ : ∃ g, gs[f]? = some g ∧ (g.offset, g.type) = (off, ft) := by
    rw [← hgs, List.getElem?_map, Array.getElem?_toList] at hf
    exact Option.map_eq_some_iff.1 hf
  cases hgo
  obtain ⟨ds, rfl, hl, h1⟩ := hx
  obtain ⟨cv, hr, hrep⟩ := part_ok (P := P) hd2 ht2 hi2 hsz2 hl h1 he
  refine ⟨cv, ?_, hrep⟩
  unfold Instr.field
  simp [run_underlying hu, hg, asAgg, hr]

theorem evIndexS_ok (hT : TyOk P E) (h : Sim C D outs st a w σ) {t : Nat} {ei : TI} (hs : sliceOf E t = some ei) {x v : V} {cx : Value} (hx : Rep C w σ none x cx) {k : IntKind} {i : Int}
    (he : evIndexS ei x i st = some v) : ∃ cv, (Instr.indexAt t cx (.int k i)).run P w = .ok cv w ∧ Rep C w σ none v cv := by
  obtain ⟨e, hu, hte⟩ := sliceOf_ok hT hs
  obtain ⟨d', i', z, hd, ht, hi', hsz, hby, hz, hzv, hzs, hz1, _⟩ := hT e ei hte
  have hrun : ∀ (ad : Addr) (n cap : Nat), 0 ≤ i → i < n → (Instr.indexAt t (.slice (some ad) n cap) (.int k i)).run P w = .ok (.pointer (some (ad.add (i.toNat * ei.size)))) w := fun ad n cap h0 h1 => by
    unfold Instr.indexAt
    simp [asIntOf, run_underlying hu, h0, h1, run_sizeOf hi', hsz]
  unfold evIndexS at he
  split at he
  · rename_i t' vs
    split at he
    case isFalse => cases he
    rename_i h0
    split at he
    case h_2 => cases he
    rename_i y hy
    split at he
    case h_2 => cases he
    rename_i cs hcs
    split at he
    case isFalse => cases he
    rename_i hlen
    cases he
    obtain ⟨hf, p, cap, rfl, hle, hv⟩ := hx
    have hlt : i.toNat < vs.length := (List.getElem?_eq_some_iff.1 hy).1
    rcases hv with rfl | ⟨b, off, es, ds, rfl, hb, hl, hw, hes, hlie⟩
    · simp at hlt
    · obtain ⟨dv, hdv, hrv⟩ := hl.get i.toNat hy
      obtain ⟨hcl, hcone, hclen, hcof⟩ := cells?_ok hrv hcs
      have hese : es = ei.size := by rw [← hlen, ← hclen]; exact ((hw dv (List.mem_of_getElem? hdv)).1).symm
      subst hese
      exact ⟨_, hrun _ _ _ h0 (by omega), refFreeL_cells hcs (refFree_mem hf hy), b, off + i.toNat * ei.size, dv.cells.toList, by simp [Addr.add_lit], hb, hcl, hcone, hlie.one hdv⟩
  · rename_i id off len
    split at he
    case h_2 => cases he
    rename_i ob hob
    split at he
    case isFalse => cases he
    rename_i hc
    obtain ⟨h0, h1, hobes⟩ := hc
    cases he
    obtain ⟨loc, hloc, hrep, hfl⟩ := h.objs id ob hob
    simp only [Rep, hloc] at hx ⊢
    cases loc with
    | virt app => obtain ⟨_, hl0, _⟩ := hx; omega
    | blk b bo es cap app =>
      obtain ⟨p, cp, rfl, hlc, ha⟩ := hx
      have hese : es = ei.size := by rw [← hobes]; exact hrep.1.symm
      rcases ha with ⟨h2, _⟩ | ⟨ha, _⟩
      · omega
      · subst ha
        refine ⟨_, hrun _ _ _ h0 h1, ?_⟩
        simp only [Addr.add_lit, hese, Nat.add_mul, Nat.add_assoc, Nat.add_zero]
  · cases he

theorem evIndexA_ok (hT : TyOk P E) {t n : Nat} {ei : TI} (hs : arrayOf E t = some (n, ei)) {x v : V} {cx : Value} (hx : Rep C w σ none x cx) {k : IntKind} {i : Int}
    (he : evIndexA n ei x i = some v) : ∃ cv, (Instr.indexAt t cx (.int k i)).run P w = .ok cv w ∧ Rep C w σ none v cv := by
  obtain ⟨e, hu, hte⟩ := arrayOf_ok hT hs
  obtain ⟨d', i', z, hd, ht, hi', hsz, hby, hz, hzv, hzs, hz1, _⟩ := hT e ei hte
  unfold evIndexA at he
  split at he
  case isFalse => cases he
  rename_i hc
  have hrun : ∀ (ad : Addr), (Instr.indexAt t (.pointer (some ad)) (.int k i)).run P w = .ok (.pointer (some (ad.add (i.toNat * ei.size)))) w := fun ad => by
    unfold Instr.indexAt
    simp [asIntOf, run_underlying hu, Instr.sureAddr, hc.1, hc.2, run_sizeOf hi', hsz]
  split at he
  · cases he
    simp only [Rep] at hx
    split at hx
    · exact hx.elim
    · exact hx.elim
    · subst hx
      rename_i b bo es cap app hloc
      refine ⟨_, hrun _, ?_⟩
      simp [Rep, hloc, Addr.add_lit, Nat.add_assoc]
  · cases he
    obtain ⟨hf', b, off0, ds, rfl, hb, hl, h1, hlie⟩ := hx
    exact ⟨_, hrun _, hf', b, off0, ds, by simp [Addr.add_lit, Nat.add_assoc], hb, hl, h1, hlie⟩
  · cases he

theorem evIndexV_ok (hT : TyOk P E) {t n : Nat} {ei : TI} (hs : arrayOf E t = some (n, ei)) {x v : V} {cx : Value} (hx : Rep C w σ none x cx) {k : IntKind} {i : Int}
    (he : evIndexV n ei x i = some v) : ∃ cv, (Instr.index t cx (.int k i)).run P w = .ok cv w ∧ Rep C w σ none v cv := by
  obtain ⟨e, hu, hte⟩ := arrayOf_ok hT hs
  obtain ⟨d', i', z, hd, ht, hi', hsz, hby, hz, hzv, hzs, hz1, _⟩ := hT e ei hte
  unfold evIndexV at he
  split at he
  case h_2 => cases he
  rename_i cs
  split at he
  case isFalse => cases he
  rename_i hc
  obtain ⟨ds, rfl, hl, h1⟩ := hx
  obtain ⟨cv, hr, hrep⟩ := part_ok (P := P) hd ht hi' hsz hl h1 he
  refine ⟨cv, ?_, hrep⟩
  unfold Instr.index
  simp [asIntOf, run_underlying hu, hc.1, hc.2, run_sizeOf hi', hsz, hr]

theorem evExtract_ok {x v : V} {cx : Value} {i : Nat} (hx : Rep C w σ none x cx) (he : evExtract x i = some v) : ∃ cv, (Instr.extract cx i).run P w = .ok cv w ∧ Rep C w σ none v cv := by
  unfold evExtract at he
  split at he
  case h_2 => cases he
  obtain ⟨ds, rfl, hl⟩ := hx
  obtain ⟨d, hd, hr⟩ := hl.get i he
  exact ⟨d, by simp [Instr.extract, hd], hr⟩

theorem evBin_ok {op : BinOp} {t : TypeId} {x y : Operand} {u v r : V} {cu cv : Value} (hu : Rep C w σ none u cu) (hv : Rep C w σ none v cv) (he : evBin op u v = some r) :
    ∃ c, (do eqGuard op t x y cu cv; binOp op t cu cv : Sem Value).run P w = .ok c w ∧ Rep C w σ none r c := by
  unfold evBin at he
  split at he
  all_goals first
    | cases he
      done
    | (split at he
       case isFalse => cases he
       rename_i hc
       cases he
       simp only [Rep] at hu hv
       subst hu hv
       first
         | (obtain ⟨hk, hb⟩ := hc
            subst hk
            refine ⟨_, ?_, rfl⟩
            simp [eqGuard, binOp, Op.intDiv, hb])
         | (subst hc
            refine ⟨_, ?_, rfl⟩
            simp [eqGuard, binOp, Op.intArith, Op.intBits, Op.intCmp, bitsI])
         | (refine ⟨_, ?_, rfl⟩
            have hb : ¬ (_ : Int) < 0 := Int.not_lt.2 hc
            simp [eqGuard, binOp, Op.shift, hb]))

theorem eqT_ok (hT : TyOk P E) : ∀ (n : Nat), (∀ (t : Nat) (x y : V) (cx cy : Value) (b : Bool) (w : World) (σ : Places), Rep C w σ none x cx → Rep C w σ none y cy → eqT E n t x y = some b → ∀ N, n ≤ N → (Op.equalIn N t cx cy).run P w = .ok b w) ∧
    (∀ (gs : List Field) (cs ds : List V) (us vs : List Value) (b : Bool) (w : World) (σ : Places), RepL C w σ none cs us → RepL C w σ none ds vs → (∀ u ∈ us, u.oneCell' = true) → (∀ u ∈ vs, u.oneCell' = true) → gs.all (fun g => g.name != "_") = true →
      eqF E n (gs.map fun g => (g.offset, g.type)) cs ds = some b → ∀ N, n ≤ N → (Op.eqFields N us.toArray vs.toArray gs).run P w = .ok b w) := by
  have fields : ∀ n, (∀ (t : Nat) (x y : V) (cx cy : Value) (b : Bool) (w : World) (σ : Places), Rep C w σ none x cx → Rep C w σ none y cy → eqT E n t x y = some b → ∀ N, n ≤ N → (Op.equalIn N t cx cy).run P w = .ok b w) →
      (∀ (gs : List Field) (cs ds : List V) (us vs : List Value) (b : Bool) (w : World) (σ : Places), RepL C w σ none cs us → RepL C w σ none ds vs → (∀ u ∈ us, u.oneCell' = true) → (∀ u ∈ vs, u.oneCell' = true) → gs.all (fun g => g.name != "_") = true →
      eqF E n (gs.map fun g => (g.offset, g.type)) cs ds = some b → ∀ N, n ≤ N → (Op.eqFields N us.toArray vs.toArray gs).run P w = .ok b w) := by
    intro n hn gs
    induction gs with
    | nil => intro cs ds us vs b w σ _ _ _ _ _ he N _; simp only [List.map_nil, eqF, eqG] at he; cases he; simp [Op.eqFields]
    | cons g gs ih =>
      intro cs ds us vs b w σ h1 h2 h3 h4 hg he N hN
      simp only [List.map_cons, eqF, eqG] at he
      split at he
      case h_2 => cases he
      rename_i fi hfi
      split at he
      case h_2 => cases he
      rename_i x y hx hy
      split at he
      case h_2 => cases he
      rename_i bb c hb hc
      cases he
      obtain ⟨d2, i2, z2, hd2, ht2, hi2, hsz2, _⟩ := hT _ fi hfi
      obtain ⟨ux, hrx, hpx⟩ := part_ok (P := P) (w := w) hd2 ht2 hi2 hsz2 h1 h3 hx
      obtain ⟨uy, hry, hpy⟩ := part_ok (P := P) (w := w) hd2 ht2 hi2 hsz2 h2 h4 hy
      simp only [List.all_cons, Bool.and_eq_true, bne_iff_ne] at hg
      have e1 := hn g.type x y ux uy bb w σ hpx hpy hb N hN
      have e2 := ih cs ds us vs c w σ h1 h2 h3 h4 hg.2 hc N hN
      simp only [Op.eqFields, hg.1, ne_eq, not_false_eq_true, if_true, Sem.run_bind, hrx, hry, Result.andThen_ok, e1]
      cases bb
      · simp
      · simpa using e2
  intro n
  induction n with
  | zero => exact ⟨fun t x y cx cy b w σ _ _ he => by simp [eqT] at he, fields 0 fun t x y cx cy b w σ _ _ he => by simp [eqT] at he⟩
  | succ n ih =>
    have main : ∀ (t : Nat) (x y : V) (cx cy : Value) (b : Bool) (w : World) (σ : Places), Rep C w σ none x cx → Rep C w σ none y cy → eqT E (n + 1) t x y = some b → ∀ N, n + 1 ≤ N → (Op.equalIn N t cx cy).run P w = .ok b w := by
      intro t x y cx cy b w σ hx hy he N hN
      obtain ⟨N, rfl⟩ : ∃ M, N = M + 1 := ⟨N - 1, by omega⟩
      simp only [eqT] at he
      split at he
      case h_2 => cases he
      rename_i ti hti
      obtain ⟨d, i, z, hd, ht, hi, hsz, hby, hz, hzv, hzs, hz1, heq⟩ := hT t ti hti
      split at he
      · rename_i k0 k a' k' b' hty
        split at he
        case isFalse => cases he
        rename_i hk
        cases he
        subst hk
        simp only [Rep] at hx hy
        subst hx hy
        rw [hty] at ht
        cases d <;> simp [tyIs] at ht
        exact run_equalIn_int w N t k _ a' b' hd
      · rename_i a' b' hty
        cases he
        simp only [Rep] at hx hy
        subst hx hy
        rw [hty] at ht
        cases d <;> simp [tyIs] at ht
        exact run_equalIn_bool w N t a' b' hd
      · rename_i fs cs ds hty
        split at he
        case isFalse => cases he
        rename_i hq
        obtain ⟨us, rfl, hl, h1⟩ := hx
        obtain ⟨vs, rfl, hl', h1'⟩ := hy
        rw [hty] at ht
        cases d <;> simp [tyIs] at ht
        rename_i gs
        obtain ⟨hp, _, hall⟩ := heq hq
        have hft : P.fieldsOf t = gs := by simp [Program.fieldsOf, hd]
        rw [run_equalIn_struct w N t _ _ (by rw [hft]; exact hd) hp, hft]
        refine ih.2 gs.toList cs ds us vs b w σ hl hl' h1 h1' hall ?_ N (by omega)
        rw [ht]; exact he
      · cases he
    exact ⟨main, fields (n + 1) main⟩

theorem evCmp_ok (hT : TyOk P E) {op : BinOp} {t : Nat} {x y : Operand} {u v r : V} {cu cv : Value} (hu : Rep C w σ none u cu) (hv : Rep C w σ none v cv) (he : evCmp E op t u v = some r) (hnint : ∀ k n, u ≠ .int k n) :
    ∃ c, (do eqGuard op t x y cu cv; binOp op t cu cv : Sem Value).run P w = .ok c w ∧ Rep C w σ none r c := by
  have key : ∀ b, eqT E 8 t u v = some b → (op = .eql ∨ op = .neq) → (eqGuard op t x y cu cv).run P w = .ok () w ∧ (binOp .eql t cu cv).run P w = .ok (.bool b) w ∧ (binOp .neq t cu cv).run P w = .ok (.bool (!b)) w := by
    intro b hb hop
    have h1 := (eqT_ok (C := C) hT 8).1 t u v cu cv b w σ hu hv hb 10000 (by omega)
    simp only [eqT] at hb
    split at hb
    case h_2 => cases hb
    rename_i ti hti
    obtain ⟨d, i, z, hd, ht, hi, hsz, hby, hz, hzv, hzs, hz1, heq⟩ := hT t ti hti
    split at hb
    · rename_i k a' k' b' _; exact absurd rfl (hnint k a')
    · simp only [Rep] at hu hv
      subst hu hv
      refine ⟨by rcases hop with rfl | rfl <;> simp [eqGuard], ?_, ?_⟩ <;> simp [binOp, Op.equal, Op.maxDepth, h1]
    · split at hb
      case isFalse => cases hb
      rename_i hq
      obtain ⟨us, rfl, _, _⟩ := hu
      obtain ⟨vs, rfl, _, _⟩ := hv
      exact ⟨run_eqGuard_agg w op t x y _ _ (heq hq).2.1, by rw [run_eql_struct, h1]; rfl, by rw [run_neq_struct, h1]; rfl⟩
    · cases hb
  unfold evCmp at he
  split at he
  · obtain ⟨b, hb, rfl⟩ := Option.map_eq_some_iff.1 he
    obtain ⟨h1, h2, _⟩ := key b hb (.inl rfl)
    exact ⟨.bool b, by simp only [Sem.run_bind, h1, Result.andThen_ok, h2], rfl⟩
  · obtain ⟨b, hb, rfl⟩ := Option.map_eq_some_iff.1 he
    obtain ⟨h1, _, h2⟩ := key b hb (.inr rfl)
    exact ⟨.bool (!b), by simp only [Sem.run_bind, h1, Result.andThen_ok, h2], rfl⟩
  · cases he

theorem evUn_ok {op : UnOp} {u r : V} {cu : Value} (hu : Rep C w σ none u cu) (he : evUn op u = some r) : ∃ c, (Op.unary op cu).run P w = .ok c w ∧ Rep C w σ none r c := by
  unfold evUn at he
  split at he
  · cases he; simp only [Rep] at hu; subst hu; exact ⟨_, by simp [Op.unary, Op.intArith], rfl⟩
  · cases he; simp only [Rep] at hu; subst hu; exact ⟨_, by simp [Op.unary], rfl⟩
  · cases he

theorem minV_ok (big : Bool) : ∀ (vs : List V) (ds : List Value) (u r : V) (cu : Value), RepL C w σ none vs ds → Rep C w σ none u cu → minV big u vs = some r →
    ∃ c, (ds.foldlM (if big then Builtin.max2 else Builtin.min2) cu).run P w = .ok c w ∧ Rep C w σ none r c
  | [], ds, u, r, cu, hl, hu, he => by
    simp only [RepL] at hl; subst hl
    simp only [minV] at he; cases he
    exact ⟨cu, by simp, hu⟩
  | v :: vs, ds, u, r, cu, hl, hu, he => by
    simp only [RepL] at hl
    obtain ⟨d, q, rfl, hd, hq⟩ := hl
    cases u <;> cases v <;> simp only [minV] at he <;> try (cases he; done)
    rename_i k x k' y
    split at he
    case isFalse => cases he
    rename_i hk
    subst hk
    simp only [Rep] at hu hd
    subst hu hd
    have hstep : ((if big then Builtin.max2 else Builtin.min2) (.int k x) (.int k y)).run P w = .ok (.int k (if big then (if x < y then y else x) else (if y < x then y else x))) w := by
      cases big <;> simp [Builtin.max2, Builtin.min2]
    obtain ⟨c, hr, hrep⟩ := minV_ok big vs q (.int k (if big then (if x < y then y else x) else (if y < x then y else x))) r (.int k (if big then (if x < y then y else x) else (if y < x then y else x))) hq rfl he
    exact ⟨c, by simp only [List.foldlM_cons, Sem.run_bind, hstep, Result.andThen_ok, hr], hrep⟩

theorem evNilCheck_ok {o : Oper} {x : Operand} (ho : o.op = .nilCheck x) {v r : V} (h : Sim C D outs st a w σ) (hv : v = st.eval x) (he : evNilCheck v = some r) :
    ∃ c, (execOp a.eval o).run P w = .ok (.value c) w ∧ Rep C w σ none r c := by
  have hx := h.eval x
  rw [← hv] at hx
  unfold execOp
  rw [ho]
  unfold evNilCheck at he
  split at he
  · cases he
    have hx' := hx
    simp only [Rep] at hx
    split at hx
    · exact hx.elim
    · exact hx.elim
    · exact ⟨_, by simp [hx], hx'⟩
  · cases he
    have hx' := hx
    obtain ⟨hf', b, off0, ds, hc, _⟩ := hx
    exact ⟨a.eval x, by simp [hc], hx'⟩
  · cases he
    have hx' := hx
    obtain ⟨fa, fb, hc, _⟩ := hx
    exact ⟨a.eval x, by simp [hc], hx'⟩
  · cases he

theorem repL_eval (h : Sim C D outs st a w σ) : ∀ (l : List Operand), RepL C w σ none (l.map st.eval) (l.map a.eval)
  | [] => rfl
  | x :: l => ⟨_, _, rfl, h.eval x, repL_eval h l⟩

theorem optInt_ok (h : Sim C D outs st a w σ) (x : Option Operand) : optOk (optInt st x) (x.map a.eval) := by
  cases x with
  | none => exact .inr (.inl ⟨rfl, rfl⟩)
  | some y =>
    have hy := h.eval y
    simp only [optOk, optInt, Option.map_some]
    cases hv : st.eval y with
    | int k n => rw [hv] at hy; simp only [Rep] at hy; exact .inr (.inr ⟨n, k, rfl, by rw [hy]⟩)
    | _ => exact .inl rfl

theorem isNilSlice_eval {x : Operand} (h : isNilSlice x = true) : a.eval x = .slice none 0 0 := by
  unfold isNilSlice at h
  split at h
  · rfl
  · cases h

theorem evVar_alloc (hT : TyOk P E) (h : Sim C D outs st a w σ) {e id d : Nat} {ti : TI} (hti : E.ty e = some ti) (he : evVar id d ti ti.zero st = some st') :
    ∃ cv w' σ', (Instr.alloc e true (.tuple #[])).run P w = .ok cv w' ∧ Sim C D outs st' (a.put (some d) cv) w' σ' := by
  obtain ⟨d', i, z, hd, ht, hi, hsz, hby, hz, hzv, hzs, hz1, _⟩ := hT e ti hti
  have hx : Rep C w σ none ti.zero z := by rw [hzv]; exact zero_rep z hz1
  obtain ⟨hsim, _⟩ := evVar_ok h hx he e
  refine ⟨_, _, _, ?_, hsim⟩
  simp [Instr.alloc, zeroValue, typeInfo, hi, hz, newVar, newRow]

theorem run_builtin {o : Oper} {c : Call} {b : Builtin} (ho : o.op = .call c) (hc : c.callee = .builtin b) {cv : Value} {w' : World}
    (hr : (builtin b c.argTypes o.type (c.args.map fun | .const _ => true | _ => false) (c.args.map a.eval)).run P w = .ok (.value cv) w') : (execOp a.eval o).run P w = .ok (.value cv) w' := by
  unfold execOp
  rw [ho]
  simp only [_root_.Go.resolve, hc, Sem.run_bind, Sem.run_pure, Result.andThen_ok, invoke]
  exact hr

theorem evVal_ok (hT : TyOk P E) {fc : FC} {o : Oper} (h : Sim C D outs st a w σ) {r : V} (he : evVal E fc o st = some r) : ∃ c, (execOp a.eval o).run P w = .ok (.value c) w ∧ Rep C w σ none r c := by
  have hev := fun x => h.eval x
  have val : ∀ {s : Sem Value}, execOp a.eval o = (do pure (.value (← s))) → (∃ cv, s.run P w = .ok cv w ∧ Rep C w σ none r cv) → ∃ c, (execOp a.eval o).run P w = .ok (.value c) w ∧ Rep C w σ none r c := by
    rintro s hx ⟨cv, hr, hrep⟩
    exact ⟨cv, by rw [hx]; simp only [Sem.run_bind, hr, Result.andThen_ok, Sem.run_pure], hrep⟩
  unfold evVal at he
  split at he
  · rename_i x ho
    cases he
    exact ⟨_, by unfold execOp; rw [ho]; rfl, hev x⟩
  · rename_i x ho
    split at he
    case h_2 => cases he
    rename_i d hd
    split at he
    case isTrue => cases he
    cases he
    exact ⟨_, by unfold execOp; rw [ho]; rfl, hev x⟩
  · rename_i c x y ho
    split at he
    case h_2 => cases he
    rename_i b hb
    have he2 : some (if b = true then st.eval x else st.eval y) = some r := by rw [← he]; cases b <;> rfl
    cases he2
    have hc := hev c
    rw [hb] at hc
    simp only [Rep] at hc
    cases b
    · exact ⟨a.eval y, by unfold execOp; rw [ho]; simp [hc, asBool], by simpa using hev y⟩
    · exact ⟨a.eval x, by unfold execOp; rw [ho]; simp [hc, asBool], by simpa using hev x⟩
  · rename_i t parts ho
    split at he
    case h_2 => cases he
    rename_i ti fs hti hfs
    split at he
    case h_2 => cases he
    rename_i zs ps hz hps
    obtain ⟨cs, hcs, rfl⟩ := Option.map_eq_some_iff.1 he
    obtain ⟨cv, hr, hrep⟩ := evBuild_ok hT h hti hfs hz hps hcs
    exact ⟨cv, by unfold execOp; rw [ho]; simp only [Sem.run_bind, hr, Result.andThen_ok, Sem.run_pure], hrep⟩
  · rename_i t x ho
    split at he
    case h_2 => cases he
    rename_i ti hti
    exact val (by unfold execOp; rw [ho]) (evLoad_ok hT h hti (hev x) he)
  · rename_i x ho
    exact evNilCheck_ok (P := P) ho h rfl he
  · rename_i op t x y ty ho
    split at he
    · rename_i k n hx
      exact val (by unfold execOp; rw [ho]) (evBin_ok (x := x) (y := y) (t := t) (by rw [← hx]; exact hev x) (hev y) he)
    · rename_i hx
      exact val (by unfold execOp; rw [ho]) (evCmp_ok hT (x := x) (y := y) (hev x) (hev y) he (fun k n e => hx k n e))
  · rename_i op t x ho
    exact val (by unfold execOp; rw [ho]) (evUn_ok (hev x) he)
  · rename_i s t x ho
    split at he
    case h_2 => cases he
    rename_i si ti hsi hti
    split at he
    case h_2 => cases he
    rename_i k k' n hty hx
    cases he
    obtain ⟨d1, _, _, hd1, _⟩ := hT s si hsi
    obtain ⟨d, i, z, hd, ht, _⟩ := hT t ti hti
    rw [hty] at ht
    cases d <;> simp [tyIs] at ht
    subst ht
    have hxx := hev x
    rw [hx] at hxx
    simp only [Rep] at hxx
    refine ⟨.int _ _, ?_, rfl⟩
    unfold execOp; rw [ho]
    simp only [hxx, convert, Sem.run_bind, run_underlying hd1, run_underlying hd, Result.andThen_ok, Conv.intToInt, Sem.run_pure]
  · rename_i fn first cap ho
    split at he
    case h_2 => cases he
    rename_i f
    cases he
    exact ⟨.func (.func f) (first.map a.eval) (cap.map a.eval), by unfold execOp; rw [ho]; rfl, first.toList.map a.eval, cap.toList.map a.eval, by congr 1 <;> (apply Array.toList_inj.1; simp), repL_eval h _, repL_eval h _⟩
  · rename_i t x lo hi mx ho
    split at he
    case h_2 => cases he
    rename_i ei hs
    refine val (by unfold execOp; rw [ho]) (evSlice_ok hT h hs (hev x) (optInt_ok h lo) (optInt_ok h hi) ?_ he)
    cases mx with
    | none => exact .inl ⟨rfl, rfl⟩
    | some m => exact .inr ⟨_, _, rfl, rfl, hev m⟩
  · rename_i s x f ho
    split at he
    case h_2 => cases he
    rename_i fs hfs
    exact val (by unfold execOp; rw [ho]) (evFieldAddr_ok hT hfs (hev x) he)
  · rename_i s x f ho
    split at he
    case h_2 => cases he
    rename_i fs hfs
    exact val (by unfold execOp; rw [ho]) (evField_ok hT hfs (hev x) he)
  · rename_i t x ix ho
    split at he
    case h_2 => cases he
    rename_i k i hi
    have hix := hev ix
    rw [hi] at hix
    simp only [Rep] at hix
    split at he
    · rename_i ei hs
      exact val (by unfold execOp; rw [ho]) (by rw [hix]; exact evIndexS_ok hT h hs (hev x) he)
    · split at he
      case h_2 => cases he
      rename_i n ei hs
      exact val (by unfold execOp; rw [ho]) (by rw [hix]; exact evIndexA_ok hT hs (hev x) he)
  · rename_i t x ix ho
    split at he
    case h_2 => cases he
    rename_i k i n ei hi hs
    have hix := hev ix
    rw [hi] at hix
    simp only [Rep] at hix
    exact val (by unfold execOp; rw [ho]) (by rw [hix]; exact evIndexV_ok hT hs (hev x) he)
  · rename_i x ix ho
    exact val (by unfold execOp; rw [ho]) (evExtract_ok (hev x) he)
  · rename_i c ho
    have hamap : (c.args.map a.eval).toList = c.args.toList.map a.eval := by simp
    split at he
    · rename_i hc
      split at he
      case h_2 => cases he
      rename_i t x hty hax
      split at he
      case h_2 => cases he
      rename_i ei n hs hn
      cases he
      obtain ⟨e, hu, hte⟩ := sliceOf_ok hT hs
      obtain ⟨p, cap, hcx, _⟩ := lenV_ok (hev x) hn
      refine ⟨.int .i64 n, run_builtin ho hc ?_, rfl⟩
      have e1 : c.argTypes[0]? = some t := by rw [← Array.getElem?_toList, hty]; rfl
      have e2 : (c.args.map a.eval)[0]? = some (.slice p n cap) := by rw [← Array.getElem?_toList, hamap, hax, ← hcx]; rfl
      unfold builtin Builtin.len_
      simp only [e1, e2, Sem.run_bind, run_underlying hu, Result.andThen_ok, Sem.run_pure, goInt]
    · rename_i hc
      split at he
      case h_2 => cases he
      rename_i x r' hax
      obtain ⟨cv, hr', hrep⟩ := minV_ok (P := P) false _ _ _ r _ (repL_eval h r') (hev x) he
      refine ⟨cv, run_builtin ho hc ?_, hrep⟩
      have hr2 : (List.foldlM Builtin.min2 (a.eval x) (List.map a.eval r')).run P w = .ok cv w := by simpa using hr'
      simp only [builtin, Builtin.min_, hamap, hax, List.map_cons, Sem.run_bind, hr2, Result.andThen_ok, Sem.run_pure]
    · rename_i hc
      split at he
      case h_2 => cases he
      rename_i x r' hax
      obtain ⟨cv, hr', hrep⟩ := minV_ok (P := P) true _ _ _ r _ (repL_eval h r') (hev x) he
      refine ⟨cv, run_builtin ho hc ?_, hrep⟩
      have hr2 : (List.foldlM Builtin.max2 (a.eval x) (List.map a.eval r')).run P w = .ok cv w := by simpa using hr'
      simp only [builtin, Builtin.max_, hamap, hax, List.map_cons, Sem.run_bind, hr2, Result.andThen_ok, Sem.run_pure]
    · cases he
  · cases he

theorem evMem_ok (hT : TyOk P E) {fc : FC} {base : Nat} {o : Oper} (h : Sim C D outs st a w σ) (he : evMem E fc base o st = some st') : Goes P C D outs o st' a w := by
  have hev := fun x => h.eval x
  have mem : ∀ {s : Sem Value} {d : Nat}, o.dst = some d → execOp a.eval o = (do pure (.value (← s))) → (∃ cv w' σ', s.run P w = .ok cv w' ∧ Sim C D outs st' (a.put (some d) cv) w' σ') → Goes P C D outs o st' a w := by
    rintro s d hd hx ⟨cv, w', σ', hr, hsim⟩
    exact ⟨cv, w', σ', .inl (by rw [hx]; simp only [Sem.run_bind, hr, Result.andThen_ok, Sem.run_pure]), by rw [hd]; exact hsim⟩
  unfold evMem at he
  split at he
  · rename_i x ho
    split at he
    case h_2 => cases he
    rename_i d hd
    split at he
    case isFalse => cases he
    rename_i hb
    simp only [Bool.and_eq_true] at hb
    split at he
    case h_2 => cases he
    have hsim := evNil_ok h he
    refine ⟨.slice none 0 0, w, _, .inl ?_, by rw [hd]; exact hsim⟩
    unfold execOp; rw [ho]
    simp only [isNilSlice_eval hb.2]; rfl
  · rename_i e ho
    split at he
    case h_2 => cases he
    rename_i d ti hd hti
    exact mem hd (by unfold execOp; rw [ho]) (evVar_alloc hT h hti he)
  · rename_i e x ho
    split at he
    case h_2 => cases he
    rename_i d ti hd hti
    obtain ⟨hsim, _⟩ := evVar_ok h (hev x) he e
    refine mem hd (by unfold execOp; rw [ho]) ⟨_, _, _, ?_, hsim⟩
    simp [Instr.box, newVar, newRow]
  · rename_i t n parts ho
    split at he
    case h_2 => cases he
    rename_i d ei hd hs
    exact mem hd (by unfold execOp; rw [ho]) (evLit_ok hT h hs he)
  · rename_i t p x ho
    split at he
    case h_2 => cases he
    rename_i ti hti
    obtain ⟨s, hs, rfl⟩ := Option.map_eq_some_iff.1 he
    obtain ⟨w', hr, hsim⟩ := evStore_ok hT h hti (hev p) (hev x) hs
    refine ⟨undef, w', σ, .inr ⟨?_, rfl⟩, hsim.put rfl⟩
    unfold execOp; rw [ho]
    simp only [Sem.run_bind, hr, Result.andThen_ok, Sem.run_pure]
  · rename_i t l c ho
    split at he
    case h_2 => cases he
    rename_i d ei hd hs
    exact mem hd (by unfold execOp; rw [ho]) (evMake_ok hT h hs (hev l) (hev c) he)
  · rename_i c ho
    split at he
    case h_2 => cases he
    rename_i hc
    split at he
    case h_2 => cases he
    rename_i d t t' x y hd hty hax
    split at he
    case isFalse => cases he
    rename_i htt
    subst htt
    split at he
    case h_2 => cases he
    rename_i ei hs
    have e1 : c.argTypes = #[t, t] := Array.toList_inj.1 hty
    have e2 : c.args.map a.eval = #[a.eval x, a.eval y] := Array.toList_inj.1 (by simp [hax])
    obtain ⟨cv, w', σ', hr, hsim⟩ := evAppend_ok (ty := o.type) hT h hs (hev x) (hev y) he
    refine ⟨cv, w', σ', .inl (run_builtin ho hc ?_), by rw [hd]; exact hsim⟩
    simp only [builtin, e1, e2, Sem.run_bind, hr, Result.andThen_ok, Sem.run_pure]
  · cases he

/-- One operation that is no call of a function. -/
theorem evPlain_ok (hT : TyOk P E) {fc : FC} {base : Nat} {o : Oper} (h : Sim C D outs st a w σ) (he : evPlain E fc base o st = some st') : Goes P C D outs o st' a w := by
  unfold evPlain at he
  split at he
  · rename_i v hv
    cases he
    obtain ⟨c, hr, hrep⟩ := evVal_ok hT h hv
    exact Goes.val h hr hrep
  · exact evMem_ok hT h he

end
end Go.AM
