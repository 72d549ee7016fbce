/-
The operations, sixth part: structs, addresses, parts, numbers.
-/
import Derived.Test.YtdipdaajicceoaaAmOpsE
namespace Go.AM
open Go Go.RowKit

section
variable {P : Program} {E : Env} {C : Cx} {D : List Deferred} {outs : List (List Value)} {st st' : St} {a : Act} {w : World} {σ : Places}

theorem run_mapM {α β : Type} (f : α → Sem β) (g : α → β) : ∀ (l : List α), (∀ x ∈ l, (f x).run P w = .ok (g x) w) → (l.mapM f).run P w = .ok (l.map g) w
  | [], _ => by simp
  | x :: l, h => by
    have ih := run_mapM f g l (fun y hy => h y (by simp [hy]))
    simp [List.mapM_cons, h x (by simp), ih]

theorem run_amapM {α β : Type} (f : α → Sem β) (g : α → β) (l : Array α) (h : ∀ x ∈ l.toList, (f x).run P w = .ok (g x) w) : (l.mapM f).run P w = .ok (l.map g) w := by
  rw [Array.mapM_eq_mapM_toList, Sem.run_map, run_mapM f g l.toList h, Result.andThen_ok]
  congr 1
  apply Array.toList_inj.1
  simp

theorem fillV_ok {place : Nat → Option (Nat × Nat)} : ∀ (l : List (Nat × V)) (r : List (Nat × Value)) (cs cs' : List V) (cells : Array Value),
    l.map (·.1) = r.map (·.1) → RepL C w σ none (l.map (·.2)) (r.map (·.2)) → RepL C w σ none cs cells.toList → (∀ u ∈ cells.toList, u.oneCell' = true) → fillV place cs l = some cs' →
    ∃ cells', Instr.fill place cells r = some cells' ∧ RepL C w σ none cs' cells'.toList ∧ (∀ u ∈ cells'.toList, u.oneCell' = true)
  | [], [], cs, cs', cells, _, _, hc, h1, he => by
    simp only [fillV] at he; cases he
    exact ⟨cells, rfl, hc, h1⟩
  | [], p :: r, _, _, _, hk, _, _, _, _ => by simp at hk
  | p :: l, [], _, _, _, hk, _, _, _, _ => by simp at hk
  | (i, v) :: l, (j, c) :: r, cs, cs', cells, hk, hr, hc, h1, he => by
    simp only [List.map_cons, List.cons.injEq] at hk
    obtain ⟨rfl, hk⟩ := hk
    obtain ⟨d, q, hdq, hd, hr⟩ := hr
    simp only [List.map_cons, List.cons.injEq] at hdq
    obtain ⟨rfl, rfl⟩ := hdq
    simp only [fillV] at he
    split at he
    case h_2 => cases he
    rename_i off n hpl
    split at he
    case h_2 => cases he
    rename_i ds hds
    split at he
    case isFalse => cases he
    rename_i hcond
    obtain ⟨hdl, hdone, hdlen, _⟩ := cells?_ok hd hds
    have hclen := hc.length
    have hfit : off + c.cells.size ≤ cells.size := by simp at hclen; omega
    have ht := fill_one off c.cells cells hfit
    have hrep : RepL C w σ none (splice cs off ds) (c.cells.zipIdx.foldl (fun cs (x : Value × Nat) => cs.setIfInBounds (off + x.2) x.1) cells).toList := by
      rw [ht, splice, ← hdlen]
      exact ((hc.take off).app hdl).app (hc.drop _)
    have hone : ∀ u ∈ (c.cells.zipIdx.foldl (fun cs (x : Value × Nat) => cs.setIfInBounds (off + x.2) x.1) cells).toList, u.oneCell' = true := by
      rw [ht]
      intro u hu
      simp only [List.mem_append] at hu
      rcases hu with (hu | hu) | hu
      · exact h1 u (List.mem_of_mem_take hu)
      · exact hdone u hu
      · exact h1 u (List.mem_of_mem_drop hu)
    obtain ⟨cells', hf, h2, h3⟩ := fillV_ok l r _ cs' _ hk hr hrep hone he
    refine ⟨cells', ?_, h2, h3⟩
    simp only [Instr.fill, hpl]
    rw [if_neg (by simp; omega)]
    exact hf

theorem allM_map {α β : Type} {f : α → Option β} : ∀ {l : List α} {r : List β}, allM f l = some r → ∀ (i : Nat), r[i]? = (l[i]?).bind f
  | [], r, h, i => by simp only [allM] at h; cases h; simp
  | x :: l, r, h, i => by
    simp only [allM] at h
    split at h
    case h_2 => cases h
    rename_i b hb
    split at h
    case h_2 => cases h
    rename_i bs hbs
    cases h
    cases i with
    | zero => simp [hb]
    | succ i => simpa using allM_map hbs i

theorem evBuild_ok (hT : TyOk P E) (h : Sim C D outs st a w σ) {t : Nat} {ti : TI} {fs : List (Nat × Nat)} (hti : E.ty t = some ti) (hfs : fieldsOf E t = some fs) {zs : List V} {ps : List (Nat × Nat)}
    (hz0 : cells? ti.zero = some zs) (hps : allM (placeOf E) fs = some ps) {parts : Array (Nat × Operand)} {cs : List V}
    (he : fillV (fun (i : Nat) => ps[i]?) zs (parts.toList.map fun p => (p.1, st.eval p.2)) = some cs) :
    ∃ cv, (Instr.build t (parts.map fun (i, x) => (i, a.eval x))).run P w = .ok cv w ∧ Rep C w σ none (.agg cs) cv := by
  obtain ⟨gs, hu, hgs⟩ := fieldsOf_ok hT hfs
  obtain ⟨d', i, z, hd, ht, hi, hsz, hby, hz, hzv, hzs, hz1, _⟩ := hT t ti hti
  have hzr : Rep C w σ none ti.zero z := by rw [hzv]; exact zero_rep z hz1
  obtain ⟨hzl, hzone, hzlen, _⟩ := cells?_ok hzr hz0
  have hreps : ∀ (l : List (Nat × Operand)), RepL C w σ none ((l.map fun p => (p.1, st.eval p.2)).map (·.2)) ((l.map fun p => (p.1, a.eval p.2)).map (·.2)) := fun l => by
    induction l with
    | nil => rfl
    | cons p l ih => exact ⟨_, _, rfl, h.eval p.2, ih⟩
  obtain ⟨cells', hf, h2, h3⟩ := fillV_ok (place := fun (i : Nat) => ps[i]?) _ (parts.toList.map fun p => (p.1, a.eval p.2)) zs cs z.cells (by simp [Function.comp_def]) (hreps _) hzl hzone he
  refine ⟨.agg cells', ?_, ⟨cells'.toList, by simp, h2, h3⟩⟩
  have hplaces : ∀ f ∈ gs.toList, ((do pure (f.offset, ← sizeOf f.type) : Sem (Nat × Nat))).run P w = .ok ((fun f : Field => (f.offset, (((P.info? f.type).map (·.size)).getD 0))) f) w := fun f hf' => by
    obtain ⟨k, hk⟩ := List.getElem?_of_mem hf'
    have h4 : fs[k]? = some (f.offset, f.type) := by rw [← hgs, List.getElem?_map, hk]; rfl
    have h5 : k < ps.length := by
      have h6 : ∀ {l : List (Nat × Nat)} {r : List (Nat × Nat)}, allM (placeOf E) l = some r → r.length = l.length := by
        intro l
        induction l with
        | nil => intro r h; simp only [allM] at h; cases h; rfl
        | cons x l ih =>
          intro r h
          simp only [allM] at h
          split at h
          case h_2 => cases h
          split at h
          case h_2 => cases h
          rename_i bs hbs
          cases h
          simp [ih hbs]
      rw [h6 hps]; exact (List.getElem?_eq_some_iff.1 h4).1
    have h6 := allM_map hps k
    rw [h4, List.getElem?_eq_getElem h5] at h6
    simp only [Option.bind_some, placeOf] at h6
    split at h6
    case h_2 => cases h6
    rename_i fi hfi
    obtain ⟨d2, i2, z2, _, _, hi2, hsz2, _⟩ := hT _ fi hfi
    simp [sizeOf, typeInfo, hi2]
  have hpl : (fun (i : Nat) => (gs.map fun f : Field => (f.offset, (((P.info? f.type).map (·.size)).getD 0)))[i]?) = fun (i : Nat) => ps[i]? := by
    funext k
    rw [allM_map hps k, ← hgs, List.getElem?_map, Array.getElem?_map]
    simp only [Array.getElem?_toList]
    cases hk : gs[k]? with
    | none => rfl
    | some f =>
      simp only [Option.map_some, Option.bind_some, placeOf]
      have h4 : fs[k]? = some (f.offset, f.type) := by rw [← hgs, List.getElem?_map, Array.getElem?_toList, hk]; rfl
      have h6 := allM_map hps k
      rw [h4] at h6
      simp only [Option.bind_some, placeOf] at h6
      cases hfi : E.ty f.type with
      | none =>
        exfalso
        have hlt : k < fs.length := (List.getElem?_eq_some_iff.1 h4).1
        have h7 : ∀ {l : List (Nat × Nat)} {r : List (Nat × Nat)}, allM (placeOf E) l = some r → ∀ p ∈ l, ∃ x, placeOf E p = some x := by
          intro l
          induction l with
          | nil => intro r _ p hp; cases hp
          | cons x l ih =>
            intro r h p hp
            simp only [allM] at h
            split at h
            case h_2 => cases h
            rename_i b hb
            split at h
            case h_2 => cases h
            rename_i bs hbs
            rcases List.mem_cons.1 hp with rfl | hp
            · exact ⟨b, hb⟩
            · exact ih hbs p hp
        obtain ⟨x, hx⟩ := h7 hps _ (List.mem_of_getElem? h4)
        simp [placeOf, hfi] at hx
      | some fi =>
        obtain ⟨d2, i2, z2, _, _, hi2, hsz2, _⟩ := hT _ fi hfi
        simp [hi2, hsz2]
  have hpt : (parts.map fun (p : Nat × Operand) => (p.1, a.eval p.2)).toList = parts.toList.map fun p => (p.1, a.eval p.2) := by simp
  unfold Instr.build
  simp only [Sem.run_bind, zeroValue, typeInfo, run_program, Result.andThen_ok, hi, hz, Sem.run_pure, run_underlying hu, run_amapM _ _ gs hplaces, hpl, hpt]
  rw [hf]
  rfl

theorem lenV_ok {x : V} {cx : Value} (hx : Rep C w σ none x cx) {n : Nat} (hn : lenV x = some n) : ∃ p cap, cx = .slice p n cap ∧ n ≤ cap := by
  cases x <;> simp only [lenV] at hn <;> cases hn
  · obtain ⟨_, p, cap, rfl, hle, _⟩ := hx; exact ⟨p, cap, rfl, hle⟩
  · obtain ⟨p, rfl⟩ := hx; exact ⟨p, 0, rfl, Nat.le_refl _⟩
  · simp only [Rep] at hx
    split at hx
    · exact hx.elim
    · obtain ⟨_, h0, p, cp, rfl, _⟩ := hx; exact ⟨p, cp, by rw [h0], by omega⟩
    · obtain ⟨p, cp, rfl, hle, _⟩ := hx; exact ⟨p, cp, rfl, hle⟩

theorem run_bound {k : IntKind} {n : Int} {y : Nat} {code : BoundsCode} (h0 : 0 ≤ n) (h1 : n ≤ y) : (Instr.sliceBound (.int k n) y code).run P w = .ok n.toNat w := by
  simp [Instr.sliceBound, asIntOf, h0, h1]

def optOk (z : Option (Option Int)) (c : Option Value) : Prop := z = none ∨ (z = some none ∧ c = none) ∨ ∃ n k, z = some (some n) ∧ c = some (.int k n)

theorem evSlice_ok (hT : TyOk P E) (h : Sim C D outs st a w σ) {t : Nat} {ei : TI} (hs : sliceOf E t = some ei) {x : V} {cx : Value} (hx : Rep C w σ none x cx) {lo hi : Option (Option Int)} {mx : Option V} {v : V}
    {clo chi cmx : Option Value} (hlo : optOk lo clo) (hhi : optOk hi chi)
    (hmx : (mx = none ∧ cmx = none) ∨ ∃ m cm, mx = some m ∧ cmx = some cm ∧ Rep C w σ none m cm) (he : evSlice ei x lo hi mx st = some v) :
    ∃ cv, (Instr.sliceAt t cx clo chi cmx).run P w = .ok cv w ∧ Rep C w σ none v cv := by
  obtain ⟨e, hu, hte⟩ := sliceOf_ok hT hs
  obtain ⟨d', i, z, hd, ht, hi', hsz, hby, hz, hzv, hzs, hz1, _⟩ := hT e ei hte
  unfold evSlice at he
  split at he
  case h_2 => cases he
  rename_i n hn
  obtain ⟨p, cap, rfl, hnc⟩ := lenV_ok hx hn
  split at he
  case h_2 => cases he
  rename_i lo hi
  -- the bounds, run
  have hL : ∀ y : Nat, 0 ≤ lo.getD 0 → lo.getD 0 ≤ y → ∀ code, (match (motive := Option Value → Sem Nat) clo with | some v => Instr.sliceBound v y code | none => pure 0).run P w = .ok (lo.getD 0).toNat w := fun y h0 h1 code => by
    rcases hlo with h2 | ⟨h2, h3⟩ | ⟨m, k, h2, h3⟩
    · cases h2
    · cases h2; subst h3; rfl
    · cases h2; subst h3; exact run_bound h0 h1
  have hH : ∀ y : Nat, 0 ≤ hi.getD n → hi.getD n ≤ n → n ≤ y → ∀ code, (match (motive := Option Value → Sem Nat) chi with | some v => Instr.sliceBound v y code | none => pure n).run P w = .ok (hi.getD n).toNat w := fun y h0 h1 h2 code => by
    rcases hhi with h3 | ⟨h3, h4⟩ | ⟨m, k, h3, h4⟩
    · cases h3
    · cases h3; subst h4; simp
    · cases h3; subst h4; exact run_bound h0 (by simp at h1 ⊢; omega)
  split at he
  · -- no third bound
    obtain ⟨_, rfl⟩ : True ∧ cmx = none := by
      rcases hmx with ⟨_, h2⟩ | ⟨m, cm, h2, _⟩
      · exact ⟨trivial, h2⟩
      · cases h2
    split at he
    case isFalse => cases he
    rename_i hb
    obtain ⟨b1, b2, b3⟩ := hb
    have hrun : (Instr.sliceAt t (.slice p n cap) clo chi none).run P w =
        .ok (.slice (if cap = (lo.getD 0).toNat then p else p.map (·.add ((lo.getD 0).toNat * i.size))) ((hi.getD n).toNat - (lo.getD 0).toNat) (cap - (lo.getD 0).toNat)) w := by
      unfold Instr.sliceAt Instr.slice Instr.sliceBounds
      simp only [Sem.run_bind, run_underlying hu, Result.andThen_ok]
      have e1 := hH cap (by omega) b3 hnc .sliceAcap
      have e2 := hL (hi.getD n).toNat b1 (by omega) .sliceB
      have e3 := run_sizeOf (w := w) hi'
      clear hL hH hlo hhi hx he
      generalize (hi.getD (n : Int)).toNat = hh at e1 e2 ⊢
      generalize (lo.getD 0).toNat = ll at e2 ⊢
      cases chi with
      | none =>
        simp only [Sem.run_pure, Result.ok.injEq, and_true] at e1
        subst e1
        cases clo with
        | none =>
          simp only [Sem.run_pure, Result.ok.injEq, and_true] at e2
          subst e2
          simp [e3]
        | some c => dsimp only at e2; simp [e2, e3]
      | some c' =>
        dsimp only at e1
        cases clo with
        | none =>
          simp only [Sem.run_pure, Result.ok.injEq, and_true] at e2
          subst e2
          simp [e1, e3]
        | some c => dsimp only at e2; simp [e1, e2, e3]
    refine ⟨_, hrun, ?_⟩
    split at he
    · -- nothing
      cases he
      obtain ⟨q, hq⟩ := hx
      cases hq
      simp only [lenV] at hn
      cases hn
      have : (lo.getD 0).toNat = 0 := by omega
      simp only [this, if_true]
      exact ⟨p, by congr 1; omega⟩
    · rename_i t' vs
      split at he
      case isFalse => cases he
      rename_i hsz'
      cases he
      simp only [lenV] at hn
      cases hn
      obtain ⟨hf, q, cap', hq, hle, hv⟩ := hx
      cases hq
      refine ⟨refFreeL_take_drop hf _ _, if cap = (lo.getD 0).toNat then p else p.map (·.add ((lo.getD 0).toNat * i.size)), cap - (lo.getD 0).toNat, ?_, ?_, ?_⟩
      · congr 1; simp; omega
      · simp; omega
      · rcases hv with rfl | ⟨b, off, es, ds, rfl, hb, hl, hw, hes, hlie⟩
        · exact .inl (by simp)
        · rcases Nat.eq_zero_or_pos ((hi.getD ↑vs.length - lo.getD 0).toNat) with h0 | h0
          · exact .inl (by rw [h0]; simp)
          · refine .inr ⟨b, off + (lo.getD 0).toNat * es, es, (ds.drop (lo.getD 0).toNat).take (hi.getD ↑vs.length - lo.getD 0).toNat, ?_, hb, (hl.drop _).take _, fun d hd => hw d (List.mem_of_mem_drop (List.mem_of_mem_take hd)), hes, ?_⟩
            · rw [if_neg (by omega)]
              have hes' : es = i.size := by
                have hlt : 0 < ds.length := by rw [hl.length]; omega
                have hm : ds[0]'hlt ∈ ds := List.getElem_mem _
                rw [hsz]
                exact (hw _ hm).1.symm.trans (sized_wf hsz' hl _ hm).1
              simp [hes', Addr.add_lit]
            · intro i' d r u hd hu
              rw [List.getElem?_take] at hd
              split at hd
              · rw [List.getElem?_drop] at hd
                have := hlie _ d r u hd hu
                rw [Nat.add_mul, ← Nat.add_assoc] at this
                exact this
              · cases hd
    · rename_i id off len
      split at he
      case h_2 => cases he
      rename_i ob hob
      split at he
      case isFalse => cases he
      rename_i hobes
      cases he
      simp only [lenV] at hn
      cases hn
      obtain ⟨loc, hloc, hrep, hfl⟩ := h.objs id ob hob
      simp only [Rep, hloc] at hx ⊢
      cases loc with
      | virt app =>
        obtain ⟨ho, hl0, q, cp, hq, hcp⟩ := hx
        cases hq
        have : (lo.getD 0).toNat = 0 := by omega
        simp only [this]
        exact ⟨by omega, by omega, _, cap, by congr 1; omega, hcp⟩
      | blk b bo es cap' app =>
        obtain ⟨q, cp, hq, hlc, ha⟩ := hx
        cases hq
        have hese : es = i.size := by rw [hsz, ← hobes]; exact hrep.1.symm
        refine ⟨if cap = (lo.getD 0).toNat then p else p.map (·.add ((lo.getD 0).toNat * i.size)), cap - (lo.getD 0).toNat, ?_, ?_, ?_⟩
        · congr 1; omega
        · omega
        · rcases ha with ⟨h0, h1⟩ | ⟨ha, h1⟩
          · exact .inl ⟨by omega, fun e => by have := h1 e; omega⟩
          · rcases Nat.eq_or_lt_of_le (show (lo.getD 0).toNat ≤ cap by omega) with h2 | h2
            · exact .inl ⟨by omega, fun e => by omega⟩
            · refine .inr ⟨?_, fun e => by have := h1 e; omega⟩
              rw [if_neg (by omega), ha]
              simp only [Option.map_some, Addr.add_lit, hese, Nat.add_mul, Nat.add_assoc]
    · cases he
  · -- the third bound 0
    split at he
    case isFalse => cases he
    rename_i hb
    cases he
    rcases hmx with ⟨h2, _⟩ | ⟨m, cm, h2, h3, h4⟩
    · cases h2
    · cases h2
      subst h3
      rename_i k
      simp only [Rep] at h4
      subst h4
      have hhi0 : ∃ k', chi = some (.int k' 0) := by
        rcases hhi with h5 | ⟨h5, _⟩ | ⟨m, k', h5, h6⟩
        · cases h5
        · cases h5; exact absurd hb.2 (by simp)
        · cases h5
          have := Option.some.inj hb.2
          subst this
          exact ⟨k', h6⟩
      obtain ⟨k', rfl⟩ := hhi0
      have e2 := hL 0 (by omega) (by omega) .slice3C
      have hrun : (Instr.sliceAt t (.slice p n cap) clo (some (.int k' 0)) (some (.int k 0))).run P w = .ok (.slice p 0 0) w := by
        unfold Instr.sliceAt Instr.slice Instr.sliceBounds
        simp only [Sem.run_bind, run_underlying hu, Result.andThen_ok]
        have e3 := run_bound (P := P) (w := w) (k := k) (n := 0) (y := cap) (code := .slice3Acap) (by omega) (by omega)
        have e4 := run_bound (P := P) (w := w) (k := k') (n := 0) (y := 0) (code := .slice3B) (by omega) (by omega)
        have hz0 : (lo.getD 0).toNat = 0 := by omega
        rw [hz0] at e2
        have e5 := run_sizeOf (w := w) hi'
        clear hL hH hlo hhi hx
        cases clo <;> dsimp only at e2 ⊢ <;> simp [e2, e3, e4, e5]
      exact ⟨_, hrun, p, rfl⟩
  · cases he

end
end Go.AM
