/-
Regions that draw their order, in functions whose calls answer with new objects there.
-/
import Derived.Test.YteocppddjlglbaaAmBad
set_option linter.unusedVariables false
set_option linter.unusedSimpArgs false

namespace Go.AM
open Go

def callOp (o : Oper) : Bool := match o.op with
  | .call c => match c.callee with
    | .value _ => true
    | _ => false
  | _ => false
def wrOpX (o : Oper) : Bool := wrOp o || callOp o
def staticPairX (ops : Array Oper) (cl : List (List Nat)) (i j : Nat) : Bool := (cl.getD i []).contains j || match ops[j]?, ops[i]? with
  | some y, some x => y.apart ops x && ((!wrOpX y && !wrOpX x) || quiet y || quiet x)
  | _, _ => false

theorem callOp_quiet {o : Oper} (h : quiet o = true) : callOp o = false := by
  unfold quiet at h
  unfold callOp
  cases ho : o.op <;> rw [ho] at h <;> try rfl
  rename_i c
  dsimp only at h ⊢
  cases hc : c.callee <;> rw [hc] at h <;> first | rfl | cases h

theorem wrOpX_no {o : Oper} (h : wrOpX o = false) : wrOp o = false ∧ callOp o = false := Bool.or_eq_false_iff.1 h

section
variable {E : Env} {O : Orc} {fc : FC} {base : Nat}
theorem effX_plain {o : Oper} {st : St} (h : callOp o = false) : effX E O fc base o st = qJ E O fc base o st := by
  unfold effX
  cases qJ E O fc base o st with
  | some e => rfl
  | none =>
    dsimp only
    unfold callOp at h
    cases ho : o.op <;> try rfl
    rename_i c
    rw [ho] at h
    dsimp only at h ⊢
    cases hc : c.callee <;> try rfl
    rw [hc] at h; cases h
theorem suppX_plain {o : Oper} {st : St} (h : callOp o = false) : suppX fc base o st = supp fc base o st := by
  unfold suppX
  unfold callOp at h
  cases ho : o.op <;> try rfl
  rename_i c
  rw [ho] at h
  dsimp only at h ⊢
  cases hc : c.callee <;> try rfl
  rw [hc] at h; cases h
theorem effX_still {o : Oper} {st : St} {e : Eff} (hw : wrOpX o = false) (h : effX E O fc base o st = some e) : e.writes = [] := by
  obtain ⟨h1, h2⟩ := wrOpX_no hw
  rw [effX_plain h2] at h
  exact eff_still h1 h
theorem suppX_quiet {o : Oper} {st : St} (h : quiet o = true) : suppX fc base o st = [] := by
  rw [suppX_plain (callOp_quiet h)]
  exact supp_quiet h
end

theorem quiet_stillX {o : Oper} (h : quiet o = true) : wrOpX o = false := by
  unfold wrOpX
  rw [quiet_still h, callOp_quiet h]; rfl

theorem calm_statX {all : Array Oper} {x y : Rec} {o : Oper} (hxo : x.o = o) (hp : (y.o.apart all o && ((!wrOpX y.o && !wrOpX o) || quiet y.o || quiet o)) = true) (hw : wrOpX o = false → x.eff.writes = []) (hqu : quiet o = true → x.supp = [])
    (hyw : wrOpX y.o = false → y.eff.writes = []) (hyq : quiet y.o = true → y.supp = []) : calm all y x = true := by
  rw [Bool.and_eq_true] at hp
  obtain ⟨ha, hp⟩ := hp
  unfold calm
  rw [hxo, ha, Bool.true_and]
  simp only [Bool.or_eq_true, Bool.and_eq_true, Bool.not_eq_true'] at hp
  rcases hp with (⟨h1, h2⟩ | h1) | h1
  · rw [hyw h1, hw h2]; simp [free]
  · rw [hyw (quiet_stillX h1), hyq h1]; simp [free]
  · rw [hw (quiet_stillX h1), hqu h1]; simp [free]

def badAtX (ops : Array Oper) (cl : List (List Nat)) (i : Nat) : List Nat := (List.range i).filter fun j => !staticPairX ops cl i j

def infosCX (ops : Array Oper) (cl : List (List Nat)) : List (List Nat × Bool) := (List.range ops.size).map fun i => (badAtX ops cl i, barAt ops cl i)
def infosX (ops : Array Oper) : List (List Nat × Bool) := infosCX ops (clo ops ops.size)
def okBadCX (kind : Oper → Bool) (ops : Array Oper) (cl : List (List Nat)) : Bool :=
  (List.range ops.size).all fun i => (deps ops i).all (fun d => decide (d < i)) && ((badAtX ops cl i).all (apartAt ops i) && (!barAt ops cl i || barFull ops cl i || match ops[i]? with
    | some o => !kind o
    | none => true))
def okBadX (ops : Array Oper) : Bool := okBadCX barKind ops (clo ops ops.size)

section
variable (E : Env) (O : Orc) (fc : FC) (base : Nat) (bk : Oper → St → Bool) (ds : List (Option Nat))
def evNT : List (List Nat × Bool) → List Oper → St → List (List Nat × List Nat) → Option St
  | _, [], st, _ => some st
  | [], _ :: _, _, _ => none
  | b :: bs, o :: r, st, acc => match zD ds o st with
    | some true => match effX E O fc base o st with
      | some e => if calmT b.1 acc e.writes (suppX fc base o st) = true then evNT bs r (e.ap o.dst st) (acc ++ [(e.writes, suppX fc base o st)]) else none
      | none => if (bk o st && b.2) = true then thenOps (zH E O fc base o st) (fun s => evNT bs r s (List.replicate (acc.length + 1) ([], []))) else none
    | some false => evNT bs r (st.put o.dst .und) (acc ++ [([], [])])
    | none => none
def effN2 (b : List Nat × Bool) (bs : List (List Nat × Bool)) (o : Oper) (r : List Oper) (st : St) (acc : List (List Nat × List Nat)) : Option Eff → Option St
  | some e => if calmT b.1 acc e.writes (suppX fc base o st) = true then evNT E O fc base bk ds bs r (e.ap o.dst st) (acc ++ [(e.writes, suppX fc base o st)]) else none
  | none => if (bk o st && b.2) = true then thenOps (zH E O fc base o st) (fun s => evNT E O fc base bk ds bs r s (List.replicate (acc.length + 1) ([], []))) else none
def effN (b : List Nat × Bool) (bs : List (List Nat × Bool)) (o : Oper) (r : List Oper) (st : St) (acc : List (List Nat × List Nat)) : Option Bool → Option St
  | some true => effN2 E O fc base bk ds b bs o r st acc (effX E O fc base o st)
  | some false => evNT E O fc base bk ds bs r (st.put o.dst .und) (acc ++ [([], [])])
  | none => none
end

section
variable {E : Env} {X : Ext} {O : Orc} {fc : FC} {base : Nat} {bk : Oper → St → Bool} {ds : List (Option Nat)} {b : List Nat × Bool} {bs : List (List Nat × Bool)} {o : Oper} {r : List Oper} {st : St} {acc : List (List Nat × List Nat)}

theorem evNT_nil : evNT E O fc base bk ds bs [] st acc = some st := by cases bs <;> rfl
theorem evNT_cons : evNT E O fc base bk ds (b :: bs) (o :: r) st acc = effN E O fc base bk ds b bs o r st acc (zD ds o st) := by
  simp only [evNT]
  cases zD ds o st with
  | none => rfl
  | some w =>
    cases w with
    | false => rfl
    | true =>
      simp only [effN]
      cases effX E O fc base o st <;> rfl
theorem effN_true : effN E O fc base bk ds b bs o r st acc (some true) = effN2 E O fc base bk ds b bs o r st acc (effX E O fc base o st) := rfl
theorem effN_false : effN E O fc base bk ds b bs o r st acc (some false) = evNT E O fc base bk ds bs r (st.put o.dst .und) (acc ++ [([], [])]) := rfl
theorem effN2_some (e : Eff) : effN2 E O fc base bk ds b bs o r st acc (some e) = if calmT b.1 acc e.writes (suppX fc base o st) = true then evNT E O fc base bk ds bs r (e.ap o.dst st) (acc ++ [(e.writes, suppX fc base o st)]) else none := rfl
theorem effN2_none : effN2 E O fc base bk ds b bs o r st acc none = if (bk o st && b.2) = true then thenOps (zH E O fc base o st) (fun s => evNT E O fc base bk ds bs r s (List.replicate (acc.length + 1) ([], []))) else none := rfl

def RowsN (all : Array Oper) (cl : List (List Nat)) (lo : Nat) (rs : List Rec) (acc : List (List Nat × List Nat)) : Prop := acc.length = rs.length ∧
  (∀ j (x : Rec), rs[j]? = some x → x.i = j ∧ (lo ≤ j → all[j]? = some x.o ∧ (wrOpX x.o = false → x.eff.writes = []) ∧ (quiet x.o = true → x.supp = []) ∧ acc[j]? = some (x.eff.writes, x.supp))) ∧
  ∀ j, lo ≤ j → j < all.size → ∀ k, k < lo → (cl.getD j []).contains k = true

theorem bad_seqX {all : Array Oper} {cl : List (List Nat)} {kind : Oper → Bool} (hk : ∀ o st, bk o st = true → kind o = true) (hs : okBadCX kind all cl = true) : ∀ (ops' : List Oper) (lo : Nat) (rs : List Rec) (acc : List (List Nat × List Nat)) (st : St), all.toList.drop rs.length = ops' → lo ≤ rs.length → RowsN all cl lo rs acc →
    evB E O fc base (effX E O fc base) (suppX fc base) bk all cl (numbered rs.length ops') st rs = evNT E O fc base bk (all.toList.map (·.dst)) ((infosCX all cl).drop rs.length) ops' st acc
  | [], lo, rs, acc, st, _, _, _ => by rw [evNT_nil]; rfl
  | o :: r, lo, rs, acc, st, hall, hlo, hr => by
    have ho : all[rs.length]? = some o := by
      have := congrArg (·[0]?) hall
      simpa using this
    have hlt : rs.length < all.size := (Array.getElem?_eq_some_iff.1 ho).1
    have hdrop : all.toList.drop (rs.length + 1) = r := by
      rw [← List.drop_drop, hall]
      rfl
    have hinf : (infosCX all cl).drop rs.length = (badAtX all cl rs.length, barAt all cl rs.length) :: (infosCX all cl).drop (rs.length + 1) := by
      have h1 : rs.length < (infosCX all cl).length := by simp [infosCX]; exact hlt
      rw [List.drop_eq_getElem_cons h1]
      congr 1
      simp [infosCX]
    have h1 := List.all_eq_true.1 hs rs.length (List.mem_range.2 hlt)
    simp only [Bool.and_eq_true] at h1
    obtain ⟨d1, d2, d3⟩ := h1
    obtain ⟨ra, rb, rc⟩ := hr
    -- what is asked of an operation, by the pairs that are to be looked at
    have hpair : ∀ (x : Rec), x.i = rs.length → x.o = o → (wrOpX o = false → x.eff.writes = []) → (quiet o = true → x.supp = []) →
        ((deps all rs.length).all (fun d => decide (d < rs.length)) && rs.all (fun y => (cl.getD rs.length []).contains y.i || calm all y x)) = calmT (badAtX all cl rs.length) acc x.eff.writes x.supp := fun x hi hxo hw hqu => by
      rw [d1, Bool.true_and, Bool.eq_iff_iff]
      unfold calmT
      rw [List.all_eq_true, List.all_eq_true]
      constructor
      · intro h j hj
        obtain ⟨j1, j2⟩ := List.mem_filter.1 hj
        have jl := List.mem_range.1 j1
        have hy : rs[j]? = some rs[j] := List.getElem?_eq_getElem jl
        have hy2 := h rs[j] (List.getElem_mem jl)
        obtain ⟨y1, y2⟩ := rb j rs[j] hy
        rw [y1] at hy2
        have nc : (cl.getD rs.length []).contains j = false := by
          simp only [Bool.not_eq_true'] at j2
          unfold staticPairX at j2
          rw [Bool.or_eq_false_iff] at j2
          exact j2.1
        have hjlo : lo ≤ j := by
          rcases Nat.lt_or_ge j lo with q | q
          · rw [rc rs.length hlo hlt j q] at nc; cases nc
          · exact q
        obtain ⟨_, _, _, y6⟩ := y2 hjlo
        rw [nc, Bool.false_or] at hy2
        unfold calm at hy2
        rw [y6]
        simp only [Bool.and_eq_true] at hy2 ⊢
        exact ⟨⟨hy2.1.1.2, hy2.1.2⟩, hy2.2⟩
      · intro h y hy
        obtain ⟨j, hj⟩ := List.mem_iff_getElem?.1 hy
        have hjl : j < rs.length := (List.getElem?_eq_some_iff.1 hj).1
        obtain ⟨y1, y2⟩ := rb j y hj
        rw [y1, Bool.or_eq_true]
        rcases Nat.lt_or_ge j lo with q | hjlo
        · exact .inl (rc rs.length hlo hlt j q)
        obtain ⟨y3, y4, y5, y6⟩ := y2 hjlo
        cases hp : staticPairX all cl rs.length j with
        | true =>
          unfold staticPairX at hp
          rw [y3, ho, Bool.or_eq_true] at hp
          rcases hp with hp | hp
          · exact .inl hp
          · exact .inr (calm_statX hxo hp hw hqu y4 y5)
        | false =>
          have hmem : j ∈ badAtX all cl rs.length := List.mem_filter.2 ⟨List.mem_range.2 hjl, by rw [hp]; rfl⟩
          have h2 := h j hmem
          rw [y6] at h2
          have h3 := List.all_eq_true.1 d2 j hmem
          unfold apartAt at h3
          rw [y3, ho] at h3
          right
          unfold calm
          rw [hxo]
          simp only [Bool.and_eq_true] at h2 h3 ⊢
          exact ⟨⟨⟨h3, h2.1.1⟩, h2.1.2⟩, h2.2⟩
    have next : ∀ (x : Rec), x.i = rs.length → x.o = o → (wrOpX o = false → x.eff.writes = []) → (quiet o = true → x.supp = []) → RowsN all cl lo (rs ++ [x]) (acc ++ [(x.eff.writes, x.supp)]) := fun x hi hxo hw hqu => by
      refine ⟨by simp [ra], fun j y hy => ?_, rc⟩
      rcases getElem?_snoc hy with ⟨hjl, h⟩ | ⟨rfl, rfl⟩
      · obtain ⟨y1, y2⟩ := rb j y h
        refine ⟨y1, fun hj => ?_⟩
        obtain ⟨y3, y4, y5, y6⟩ := y2 hj
        exact ⟨y3, y4, y5, by rw [List.getElem?_append_left (by omega)]; exact y6⟩
      · refine ⟨hi, fun _ => ⟨by rw [hxo]; exact ho, by rw [hxo]; exact hw, by rw [hxo]; exact hqu, ?_⟩⟩
        rw [← ra]; simp
    rw [hinf, evNT_cons]
    simp only [numbered, evB, wantedV_D]
    cases hw : zD (all.toList.map (·.dst)) o st with
    | none => rfl
    | some w =>
      cases w with
      | true =>
        rw [effN_true]
        dsimp only
        cases he : effX E O fc base o st with
        | none =>
          rw [effN2_none]
          dsimp only
          cases hb : (bk o st && barAt all cl rs.length) with
          | false => rfl
          | true =>
            simp only [if_true]
            rw [Bool.and_eq_true] at hb
            have hfull : barFull all cl rs.length = true := by
              rw [Bool.or_eq_true, Bool.or_eq_true] at d3
              rcases d3 with (q | q) | q
              · rw [hb.2] at q; cases q
              · exact q
              · rw [ho] at q; simp only [hk _ _ hb.1] at q; cases q
            unfold barFull at hfull
            rw [Bool.and_eq_true] at hfull
            unfold thenOps
            cases zH E O fc base o st with
            | none => rfl
            | some s =>
              dsimp only
              have := bad_seqX hk hs r (rs.length + 1) (nops (rs.length + 1) o) (List.replicate (rs.length + 1) ([], [])) s (by rw [nops_len]; exact hdrop) (by rw [nops_len]; exact Nat.le_refl _)
                ⟨by rw [nops_len, List.length_replicate], fun j x hx => ⟨(nops_get hx).1, fun hj => by have := (nops_get hx).2.1; omega⟩, fun j hj hja k hk' => by
                  have := List.all_eq_true.1 hfull.2 j (List.mem_range.2 hja)
                  simp only [Bool.or_eq_true, decide_eq_true_eq] at this
                  rcases this with h2 | h2
                  · omega
                  · exact List.all_eq_true.1 h2 k (List.mem_range.2 hk')⟩
              rw [nops_len] at this
              rw [ra]
              exact this
        | some e =>
          rw [effN2_some]
          dsimp only
          rw [hpair { i := rs.length, o := o, eff := e, supp := suppX fc base o st } rfl rfl (fun hwr => effX_still hwr he) (fun hq => suppX_quiet hq)]
          dsimp only
          split
          · have := bad_seqX hk hs r lo (rs ++ [{ i := rs.length, o := o, eff := e, supp := suppX fc base o st }]) (acc ++ [(e.writes, suppX fc base o st)]) (e.ap o.dst st) (by simpa using hdrop) (by simp; omega) (next { i := rs.length, o := o, eff := e, supp := suppX fc base o st } rfl rfl (fun hwr => effX_still hwr he) (fun hq => suppX_quiet hq))
            rw [List.length_append] at this
            exact this
          · rfl
      | false =>
        rw [effN_false]
        dsimp only
        rw [hpair { i := rs.length, o := o, eff := .put .und, supp := [] } rfl rfl (fun _ => rfl) (fun _ => rfl)]
        have hc : calmT (badAtX all cl rs.length) acc (Eff.put V.und).writes [] = true := by
          unfold calmT
          rw [List.all_eq_true]
          intro j hj
          have jl := List.mem_range.1 (List.mem_filter.1 hj).1
          rw [List.getElem?_eq_getElem (by omega)]
          simp [free, Eff.writes]
        dsimp only
        rw [if_pos hc]
        have := bad_seqX hk hs r lo (rs ++ [{ i := rs.length, o := o, eff := .put .und, supp := [] }]) (acc ++ [([], [])]) (st.put o.dst .und) (by simpa using hdrop) (by simp; omega) (next { i := rs.length, o := o, eff := .put .und, supp := [] } rfl rfl (fun _ => rfl) (fun _ => rfl))
        rw [List.length_append] at this
        exact this

theorem regN {ops : Array Oper} {infos : List (List Nat × Bool)} (hs : okBadX ops = true) (hi : infosX ops = infos) (st : St) : regX E O fc base ops st true = evNT E O fc base (isBarX E) (ops.toList.map (·.dst)) infos ops.toList st [] := by
  subst hi
  exact bad_seqX (fun _ _ h => bar_kind (isBarX_bar h)) hs ops.toList 0 [] [] st rfl (Nat.le_refl _) ⟨rfl, fun j x h => by simp at h, fun j _ _ k hk => by omega⟩

end
end Go.AM

