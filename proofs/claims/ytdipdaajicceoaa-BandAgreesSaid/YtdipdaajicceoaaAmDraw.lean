/-
A region that draws its order: right.
-/
import Derived.Test.YtdipdaajicceoaaAmDrawC
namespace Go.AM
open Go Go.RowKit

def ap1 (s : St) (x : Rec) : St := x.eff.ap x.o.dst s
def F (s : St) (l : List Rec) : St := l.foldl ap1 s

theorem F_app (s : St) (l l' : List Rec) : F s (l ++ l') = F (F s l) l' := List.foldl_append
theorem F_cons (s : St) (x : Rec) (l : List Rec) : F s (x :: l) = F (ap1 s x) l := rfl

theorem ap1_len (s : St) (x : Rec) : (ap1 s x).slots.length = s.slots.length := by
  unfold ap1; rw [ap_slots]; split <;> simp

theorem slots_fold (t : Nat) : ∀ (l : List Rec) {s s' : St}, s.slots.length = s'.slots.length → s.slots[t]? = s'.slots[t]? →
    (F s l).slots[t]? = (F s' (l.filter fun x => x.o.dst == some t)).slots[t]?
  | [], _, _, _, h => h
  | x :: l, s, s', hl, h => by
    rw [F_cons, List.filter_cons]
    split
    · rename_i hd
      rw [F_cons]
      refine slots_fold t l (by rw [ap1_len, ap1_len, hl]) ?_
      have hd : x.o.dst = some t := by simpa using hd
      unfold ap1
      rw [ap_slots, ap_slots, hd]
      simp only [List.getElem?_set, if_true, hl]
    · rename_i hd
      refine slots_fold t l (by rw [ap1_len, hl]) ?_
      have hd : x.o.dst ≠ some t := by simpa using hd
      unfold ap1
      rw [ap_slots]
      cases hx : x.o.dst with
      | none => exact h
      | some d =>
        dsimp only
        rw [List.getElem?_set_ne (fun e => hd (by rw [hx, e]))]
        exact h

theorem look_fold (id : Nat) : ∀ (l : List Rec) {s s' : St}, look s.objs id = look s'.objs id →
    look (F s l).objs id = look (F s' (l.filter fun x => x.eff.writes.contains id)).objs id
  | [], _, _, h => h
  | x :: l, s, s', h => by
    rw [F_cons, List.filter_cons]
    split
    · rename_i hd
      rw [F_cons]
      refine look_fold id l ?_
      obtain ⟨ob, hob⟩ := obAt_some hd
      unfold ap1
      rw [ap_look, ap_look, hob]
    · rename_i hd
      refine look_fold id l ?_
      unfold ap1
      rw [ap_look, obAt_none (by simpa using hd)]
      exact h

theorem F_congr : ∀ (l : List Rec) {s s' : St}, Same s s' → Same (F s l) (F s' l)
  | [], _, _, h => h
  | _ :: l, _, _, h => F_congr l (ap_congr _ _ h)

theorem calm_spec {all : Array Oper} {x y : Rec} (h : calm all x y = true) : x.o.apart all y.o = true ∧ free x.eff.writes y.supp = true ∧ free y.eff.writes x.supp = true ∧ free x.eff.writes y.eff.writes = true := by
  unfold calm at h
  simp only [Bool.and_eq_true] at h
  exact ⟨h.1.1.1, h.1.1.2, h.1.2, h.2⟩

theorem free_spec {l l' : List Nat} (h : free l l' = true) : ∀ i ∈ l, i ∉ l' := fun i hi hi' => by
  unfold free at h
  rw [List.all_eq_true] at h
  have := h i hi
  simp at this
  exact this hi'

theorem F_comm {all : Array Oper} (x : Rec) : ∀ (l : List Rec) (s : St), (∀ y ∈ l, calm all x y = true) → Same (F (ap1 s x) l) (ap1 (F s l) x)
  | [], _, _ => Same.refl _
  | y :: l, s, h => by
    rw [F_cons, F_cons]
    obtain ⟨h1, _, _, h4⟩ := calm_spec (h y List.mem_cons_self)
    have hs : Same (ap1 (ap1 s x) y) (ap1 (ap1 s y) x) := (ap_comm (Oper.apart_spec h1).2.1 h4 s).symm
    exact (F_congr l hs).trans (F_comm x l _ fun z hz => h z (List.mem_cons_of_mem _ hz))

/-- What was written down while a region was run in the order of its text. -/
structure Recd (E : Env) (O : Orc) (fc : FC) (base : Nat) (all : Array Oper) (cl : List (List Nat)) (st : St) (rs : List Rec) : Prop where
  idx : ∀ j (x : Rec), rs[j]? = some x → x.i = j ∧ all[j]? = some x.o
  ok : ∀ j (x : Rec), rs[j]? = some x → (wantedV all x.o (F st (rs.take j)) = some true ∧ effOf E O fc base x.o (F st (rs.take j)) = some x.eff ∧ x.supp = supp fc base x.o (F st (rs.take j))) ∨
    (wantedV all x.o (F st (rs.take j)) = some false ∧ x.eff = .put .und)
  deps : ∀ j (x : Rec), rs[j]? = some x → ∀ d ∈ AM.deps all j, d < j
  pair : ∀ i j (x y : Rec), i < j → rs[i]? = some x → rs[j]? = some y → i ∈ cl.getD j [] ∨ calm all x y = true

theorem getElem?_snoc {α : Type} {l : List α} {x y : α} {j : Nat} (h : (l ++ [x])[j]? = some y) : (j < l.length ∧ l[j]? = some y) ∨ (j = l.length ∧ y = x) := by
  rw [List.getElem?_append] at h
  split at h
  · rename_i hj; exact .inl ⟨hj, h⟩
  · rename_i hj
    right
    have : j - l.length = 0 := by
      rcases Nat.eq_zero_or_pos (j - l.length) with h0 | h0
      · exact h0
      · rw [List.getElem?_eq_none (by simp; omega)] at h; cases h
    rw [this] at h
    simp at h
    exact ⟨by omega, h.symm⟩

section
variable {E : Env} {O : Orc} {fc : FC} {base : Nat} {all : Array Oper} {cl : List (List Nat)} {st : St}

theorem Recd.snoc {rs : List Rec} (h : Recd E O fc base all cl st rs) {x : Rec} (hi : x.i = rs.length) (ho : all[rs.length]? = some x.o)
    (hok : (wantedV all x.o (F st rs) = some true ∧ effOf E O fc base x.o (F st rs) = some x.eff ∧ x.supp = supp fc base x.o (F st rs)) ∨ (wantedV all x.o (F st rs) = some false ∧ x.eff = .put .und))
    (hd : ∀ d ∈ AM.deps all rs.length, d < rs.length) (hp : ∀ y ∈ rs, (cl.getD rs.length []).contains y.i = true ∨ calm all y x = true) : Recd E O fc base all cl st (rs ++ [x]) where
  idx := fun j y hy => by
    rcases getElem?_snoc hy with ⟨_, h1⟩ | ⟨rfl, rfl⟩
    · exact h.idx j y h1
    · exact ⟨hi, ho⟩
  ok := fun j y hy => by
    rcases getElem?_snoc hy with ⟨hj, h1⟩ | ⟨rfl, rfl⟩
    · rw [List.take_append_of_le_length (Nat.le_of_lt hj)]; exact h.ok j y h1
    · rw [List.take_append_of_le_length (Nat.le_refl _), List.take_length]; exact hok
  deps := fun j y hy => by
    rcases getElem?_snoc hy with ⟨_, h1⟩ | ⟨rfl, rfl⟩
    · exact h.deps j y h1
    · exact hd
  pair := fun i j y z hij hy hz => by
    rcases getElem?_snoc hz with ⟨hj, h1⟩ | ⟨rfl, rfl⟩
    · rcases getElem?_snoc hy with ⟨_, h2⟩ | ⟨rfl, rfl⟩
      · exact h.pair i j y z hij h2 h1
      · omega
    · rcases getElem?_snoc hy with ⟨_, h2⟩ | ⟨rfl, rfl⟩
      · rcases hp y (List.mem_of_getElem? h2) with h3 | h3
        · left
          rw [(h.idx i y h2).1] at h3
          simpa using h3
        · exact .inr h3
      · omega

theorem evD_rec : ∀ (ops' : List Oper) (rs : List Rec) {st' : St}, all.toList.drop rs.length = ops' → Recd E O fc base all cl st rs → evD E O fc base all cl (numbered rs.length ops') (F st rs) rs = some st' →
    ∃ rs', Recd E O fc base all cl st rs' ∧ rs'.length = all.size ∧ st' = F st rs'
  | [], rs, st', hall, h, he => by
    simp only [numbered, evD, Option.some.injEq] at he
    refine ⟨rs, h, ?_, he.symm⟩
    have h1 : all.size ≤ rs.length := by simpa using hall
    rcases Nat.lt_or_ge all.size rs.length with hlt | hge
    · have hx : rs[all.size]? = some (rs[all.size]) := List.getElem?_eq_getElem hlt
      have := (h.idx _ _ hx).2
      simp at this
    · omega
  | o :: r, rs, st', hall, h, he => by
    have ho : all[rs.length]? = some o := by
      have := congrArg (·[0]?) hall
      simpa using this
    have hr : all.toList.drop (rs.length + 1) = r := by
      rw [← List.drop_drop, hall]
      rfl
    simp only [numbered, evD] at he
    split at he
    · rename_i hw
      split at he
      case h_2 => cases he
      rename_i e hef
      split at he
      case isFalse => cases he
      rename_i hc
      simp only [Bool.and_eq_true] at hc
      have hsn := h.snoc (x := { i := rs.length, o := o, eff := e, supp := supp fc base o (F st rs) }) rfl ho (.inl ⟨hw, hef, rfl⟩)
        (fun d hd => by have := List.all_eq_true.1 hc.1 d hd; simpa using this)
        (fun y hy => by have := List.all_eq_true.1 hc.2 y hy; simpa using this)
      refine evD_rec r _ (by simpa using hr) hsn ?_
      rw [F_app]
      simpa [F, ap1] using he
    · rename_i hw
      split at he
      case isFalse => cases he
      rename_i hc
      simp only [Bool.and_eq_true] at hc
      have hsn := h.snoc (x := { i := rs.length, o := o, eff := .put .und, supp := [] }) rfl ho (.inr ⟨hw, rfl⟩)
        (fun d hd => by have := List.all_eq_true.1 hc.1 d hd; simpa using this)
        (fun y hy => by have := List.all_eq_true.1 hc.2 y hy; simpa using this)
      refine evD_rec r _ (by simpa using hr) hsn ?_
      rw [F_app]
      simpa [F, ap1, Eff.ap] using he
    · cases he

theorem clo_len (all : Array Oper) : ∀ n, (clo all n).length = n
  | 0 => rfl
  | n + 1 => by simp only [clo, List.length_append, clo_len all n, List.length_cons, List.length_nil]

theorem clo_ok (all : Array Oper) {L : Nat → Bool} (hL : ∀ j, L j = true → ∀ d ∈ AM.deps all j, L d = true) : ∀ (n i : Nat) (k : Nat), k ∈ (clo all n).getD i [] → (∀ d ∈ AM.deps all i, L d = true) → L k = true
  | 0, i, k, h, _ => by simp [clo] at h
  | n + 1, i, k, h, hd => by
    have hl := clo_len all n
    rw [List.getD_eq_getElem?_getD, clo, List.getElem?_append] at h
    split at h
    · exact clo_ok all hL n i k (by rw [List.getD_eq_getElem?_getD]; exact h) hd
    · rename_i hi
      rw [hl] at hi h
      cases hq : i - n with
      | succ q => rw [hq] at h; simp at h
      | zero =>
        have : i = n := by omega
        subst this
        rw [hq] at h
        simp only [List.getElem?_cons_zero, Option.getD_some, List.mem_filter, Bool.or_eq_true, List.any_eq_true] at h
        rcases h.2 with h1 | ⟨d, hd1, h1⟩
        · exact hd k (by simpa using h1)
        · exact clo_ok all hL i d k (by simpa using h1) (hL d (hd d hd1))

theorem filter_lt : ∀ (l : List Rec) (b n : Nat), (∀ k x, l[k]? = some x → x.i = b + k) → l.filter (fun y => decide (y.i < b + n)) = l.take n
  | [], _, _, _ => by simp
  | x :: l, b, n, h => by
    have hx := h 0 x rfl
    have hr := fun n => filter_lt l (b + 1) n fun k y hy => by rw [h (k + 1) y (by simpa using hy)]; omega
    cases n with
    | zero =>
      rw [List.take_zero, List.filter_eq_nil_iff]
      intro y hy
      obtain ⟨k, hk⟩ := List.mem_iff_getElem?.1 hy
      have := h k y hk
      simp; omega
    | succ n =>
      rw [List.filter_cons, if_pos (by simp; omega), List.take_succ_cons, ← hr n]
      congr 1
      refine List.filter_congr fun y _ => ?_
      congr 1
      simp; omega

/-- What an operation that is ready sees, and what it leaves. -/
theorem step_ok {rs : List Rec} (h : Recd E O fc base all (clo all all.size) st rs) {L : Nat → Bool} (hL : ∀ j, L j = true → ∀ d ∈ AM.deps all j, L d = true)
    {j : Nat} {x : Rec} (hx : rs[j]? = some x) (hj : L j = false) (hd : ∀ d ∈ AM.deps all j, L d = true) :
    (∀ t ∈ x.o.looksAt all, (F st (rs.filter fun y => L y.i)).slots[t]? = (F st (rs.take j)).slots[t]?) ∧
    (∀ id ∈ x.supp, look (F st (rs.filter fun y => L y.i)).objs id = look (F st (rs.take j)).objs id) ∧
    Same (F st (rs.filter fun y => L y.i || y.i == j)) (ap1 (F st (rs.filter fun y => L y.i)) x) := by
  have before : ∀ y ∈ rs, y.i < j → L y.i = false → calm all y x = true := fun y hy hlt hn => by
    obtain ⟨k, hk⟩ := List.mem_iff_getElem?.1 hy
    have hi := (h.idx k y hk).1
    rcases h.pair k j y x (by omega) hk hx with h1 | h1
    · have := clo_ok all hL _ _ _ h1 hd
      rw [← hi, hn] at this; cases this
    · exact h1
  have behind : ∀ y ∈ rs, j < y.i → L y.i = true → calm all x y = true := fun y hy hlt hn => by
    obtain ⟨k, hk⟩ := List.mem_iff_getElem?.1 hy
    have hi := (h.idx k y hk).1
    rcases h.pair j k x y (by omega) hx hk with h1 | h1
    · have := clo_ok all hL _ _ _ h1 (hL k (by rw [← hi]; exact hn))
      rw [hj] at this; cases this
    · exact h1
  have htake : rs.take j = rs.filter (fun y => decide (y.i < j)) := by
    have := filter_lt rs 0 j fun k y hy => by rw [(h.idx k y hy).1]; omega
    simpa using this.symm
  have same : ∀ (q : Rec → Bool), (∀ y, calm all y x = true → q y = false) → (∀ y, calm all x y = true → q y = false) → (∀ y, y ∈ rs → (q y && L y.i) = (q y && decide (y.i < j))) := fun q h1 h2 y hy => by
    cases hq : q y with
    | false => rfl
    | true =>
      simp only [Bool.true_and]
      rcases Nat.lt_trichotomy y.i j with hlt | heq | hgt
      · rw [decide_eq_true hlt]
        cases hly : L y.i with
        | true => rfl
        | false => rw [h1 y (before y hy hlt hly)] at hq; cases hq
      · rw [heq, hj]; simp
      · rw [decide_eq_false (by omega)]
        cases hly : L y.i with
        | false => rfl
        | true => rw [h2 y (behind y hy hgt hly)] at hq; cases hq
  refine ⟨fun t ht => ?_, fun id hid => ?_, ?_⟩
  · rw [htake, slots_fold t _ rfl rfl (s := st) (s' := st), slots_fold t (rs.filter fun y => decide (y.i < j)) rfl rfl (s := st) (s' := st), List.filter_filter, List.filter_filter]
    rw [List.filter_congr (same (fun y => y.o.dst == some t) (fun y hc => ?_) (fun y hc => ?_))]
    · have h1 := (Oper.apart_spec (calm_spec hc).1).1 t
      cases hb : (y.o.dst == some t) with
      | false => rfl
      | true => exact absurd ht (h1 (by simpa using hb))
    · have h1 := (Oper.apart_spec (calm_spec hc).1).2.2 t
      cases hb : (y.o.dst == some t) with
      | false => rfl
      | true => exact absurd ht (h1 (by simpa using hb))
  · rw [htake, look_fold id _ rfl (s := st) (s' := st), look_fold id (rs.filter fun y => decide (y.i < j)) rfl (s := st) (s' := st), List.filter_filter, List.filter_filter]
    rw [List.filter_congr (same (fun y => y.eff.writes.contains id) (fun y hc => ?_) (fun y hc => ?_))]
    · have h1 := free_spec (calm_spec hc).2.1 id
      cases hb : y.eff.writes.contains id with
      | false => rfl
      | true => exact absurd hid (h1 (by simpa using hb))
    · have h1 := free_spec (calm_spec hc).2.2.1 id
      cases hb : y.eff.writes.contains id with
      | false => rfl
      | true => exact absurd hid (h1 (by simpa using hb))
  · have hlt : j < rs.length := by
      rcases Nat.lt_or_ge j rs.length with h1 | h1
      · exact h1
      · rw [List.getElem?_eq_none h1] at hx; cases hx
    have hxe : rs[j] = x := by rw [List.getElem?_eq_getElem hlt] at hx; exact Option.some.inj hx
    have hsplit : rs = rs.take j ++ x :: rs.drop (j + 1) := by
      rw [← hxe, List.getElem_cons_drop, List.take_append_drop]
    have hxi : x.i = j := (h.idx j x hx).1
    have hA : ∀ y ∈ rs.take j, y.i < j := fun y hy => by
      rw [htake, List.mem_filter] at hy
      simpa using hy.2
    have hB : ∀ y ∈ rs.drop (j + 1), j < y.i ∧ y ∈ rs := fun y hy => by
      obtain ⟨k, hk⟩ := List.mem_iff_getElem?.1 hy
      rw [List.getElem?_drop] at hk
      exact ⟨by rw [(h.idx _ y hk).1]; omega, List.mem_of_getElem? hk⟩
    have e1 : rs.filter (fun y => L y.i || y.i == j) = (rs.take j).filter (fun y => L y.i) ++ x :: (rs.drop (j + 1)).filter (fun y => L y.i) := by
      conv => lhs; rw [hsplit]
      rw [List.filter_append, List.filter_cons, if_pos (by simp [hxi])]
      congr 1
      · refine List.filter_congr fun y hy => ?_
        have := hA y hy
        have : (y.i == j) = false := by simp; omega
        rw [this, Bool.or_false]
      · congr 1
        refine List.filter_congr fun y hy => ?_
        have := (hB y hy).1
        have : (y.i == j) = false := by simp; omega
        rw [this, Bool.or_false]
    have e2 : rs.filter (fun y => L y.i) = (rs.take j).filter (fun y => L y.i) ++ (rs.drop (j + 1)).filter (fun y => L y.i) := by
      conv => lhs; rw [hsplit]
      rw [List.filter_append, List.filter_cons, if_neg (by rw [hxi, hj]; simp)]
    rw [e1, e2, F_app, F_app, F_cons]
    refine F_comm (all := all) x _ _ fun y hy => ?_
    rw [List.mem_filter] at hy
    exact behind y (hB y hy.1).2 (hB y hy.1).1 hy.2

end

section
variable {P : Program} {E : Env} {O : Orc} {C : Cx} {D : List Deferred} {outs : List (List Value)} {st st' : St} {a : Act} {w : World} {σ : Places} {ro : Option Nat} {m : Nat} {Q : Exit → Act → World → Prop}

theorem get_of_slots {s s' : St} {t : Nat} (h : s.slots[t]? = s'.slots[t]?) : s.get t = s'.get t := by
  unfold St.get
  rw [List.getD_eq_getElem?_getD, List.getD_eq_getElem?_getD, h]

theorem drawn_ok (hT : TyOk P E) (hO : OrcOk P E O) {fc : FC} {base : Nat} {all : Array Oper} {rs : List Rec} (hr : Recd E O fc base all (clo all all.size) st rs) (hn : rs.length = all.size)
    (hQ : ∀ a' w' σ', Sim C D outs (F st rs) a' w' σ' → Q .normal a' w') : ∀ (fuel : Nat) (listed : Array Bool) {s : St} {a : Act} {w : World} {σ : Places},
    listed.size = all.size → listed.toList.count false = fuel → (∀ j, listed.getD j false = true → ∀ d ∈ deps all j, listed.getD d false = true) →
    Sim C D outs s a w σ → Same s (F st (rs.filter fun y => listed.getD y.i false)) → wpAnyIn (W ro) m P .any all Q fuel listed a w := by
  have fin : ∀ (listed : Array Bool) {s : St} {a : Act} {w : World} {σ : Places}, listed.size = all.size → Sim C D outs s a w σ → Same s (F st (rs.filter fun y => listed.getD y.i false)) →
      Region.ready .any all listed = [] → Q .normal a w := fun listed s a w σ hsz h hs hrd => by
    have full : ∀ j, j < all.size → listed.getD j false = true := by
      intro j
      induction j using Nat.strongRecOn with
      | ind j ih =>
        intro hj
        cases hl : listed.getD j false with
        | true => rfl
        | false =>
          exfalso
          have hx : rs[j]? = some rs[j] := List.getElem?_eq_getElem (by omega)
          have ho := (hr.idx j _ hx).2
          have : j ∈ Region.ready .any all listed := by
            refine mem_ready.2 ⟨?_, _, ho, fun e he hb => ?_⟩
            · have hjs : j < listed.size := by omega
              simp only [Array.getD_eq_getD_getElem?, Array.getElem?_eq_getElem hjs, Option.getD_some] at hl ⊢
              exact hl
            · have hdm : e.on ∈ deps all j := by
                unfold deps
                rw [ho]
                exact List.mem_map.2 ⟨e, List.mem_filter.2 ⟨by simpa using he, hb⟩, rfl⟩
              have hlt := hr.deps j _ hx _ hdm
              exact ih e.on hlt (by omega)
          rw [hrd] at this
          cases this
    have hf : rs.filter (fun y => listed.getD y.i false) = rs := by
      rw [List.filter_eq_self]
      intro y hy
      obtain ⟨k, hk⟩ := List.mem_iff_getElem?.1 hy
      rw [(hr.idx k y hk).1]
      refine full k ?_
      rcases Nat.lt_or_ge k rs.length with h1 | h1
      · omega
      · rw [List.getElem?_eq_none h1] at hk; cases hk
    rw [hf] at hs
    exact hQ a w σ (hs.sim h)
  intro fuel
  induction fuel with
  | zero =>
    intro listed s a w σ hsz hc hcl h hs
    have hrd : Region.ready .any all listed = [] := by
      rw [List.eq_nil_iff_forall_not_mem]
      intro j hj
      obtain ⟨hj1, o, ho, _⟩ := mem_ready.1 hj
      have hlt : j < listed.size := by
        rcases Nat.lt_or_ge j listed.size with h1 | h1
        · exact h1
        · simp [Array.getD_eq_getD_getElem?, Array.getElem?_eq_none h1] at hj1
      rw [List.count_eq_zero] at hc
      apply hc
      simp only [Array.getD_eq_getD_getElem?, Array.getElem?_eq_getElem hlt, Option.getD_some] at hj1
      rw [← hj1]
      exact Array.getElem_mem_toList hlt
    exact ⟨hrd, fin listed hsz h hs hrd⟩
  | succ fuel ih =>
    intro listed s a w σ hsz hc hcl h hs
    refine ⟨fin listed hsz h hs, fun j hj => ?_⟩
    obtain ⟨hj1, o, ho, hafter⟩ := mem_ready.1 hj
    have hlt : j < listed.size := by
      rcases Nat.lt_or_ge j listed.size with h1 | h1
      · exact h1
      · simp [Array.getD_eq_getD_getElem?, Array.getElem?_eq_none h1] at hj1
    have hj2 : listed.getD j false = false := by
      simp only [Array.getD_eq_getD_getElem?, Array.getElem?_eq_getElem hlt, Option.getD_some] at hj1 ⊢
      exact hj1
    have hx : rs[j]? = some rs[j] := List.getElem?_eq_getElem (by omega)
    generalize rs[j] = x at hx
    have hxo : x.o = o := by
      have := (hr.idx j x hx).2
      rw [ho] at this
      exact (Option.some.inj this).symm
    subst hxo
    have hdeps : ∀ d ∈ deps all j, listed.getD d false = true := fun d hd => by
      unfold deps at hd
      rw [ho] at hd
      obtain ⟨e, he, rfl⟩ := List.mem_map.1 hd
      rw [List.mem_filter] at he
      exact hafter e (by simpa using he.1) he.2
    obtain ⟨hA, hB, hC⟩ := step_ok hr (L := fun i => listed.getD i false) hcl hx hj2 hdeps
    have hgetset : ∀ i, (listed.setIfInBounds j true).getD i false = (listed.getD i false || i == j) := fun i => by
      simp only [Array.getD_eq_getD_getElem?, Array.getElem?_setIfInBounds]
      by_cases hij : j = i
      · subst hij; simp [hlt]
      · have : (i == j) = false := by simp; omega
        rw [if_neg hij, this, Bool.or_false]
    have hslot : ∀ t ∈ x.o.looksAt all, s.slots[t]? = (F st (rs.take j)).slots[t]? := fun t ht => by rw [hs.slots]; exact hA t ht
    have hw' : wantedV all x.o s = wantedV all x.o (F st (rs.take j)) := wantedV_local fun g b d hg hd => get_of_slots (hslot d (by
      unfold Oper.looksAt
      refine List.mem_append_right _ ?_
      rw [hg]
      simp [hd]))
    -- what comes next
    have next : ∀ (s1 : St) (a' : Act) (w' : World) (σ' : Places), Same s1 (ap1 s x) → Sim C D outs s1 a' w' σ' → wpAnyIn (W ro) m P .any all Q fuel (listed.setIfInBounds j true) a' w' := fun s1 a' w' σ' hs1 h1 => by
      refine ih _ (by simpa using hsz) ?_ ?_ h1 ?_
      · rw [Array.toList_setIfInBounds, List.count_set (by simpa using hlt)]
        have : listed.toList[j] = false := by
          simp only [Array.getD_eq_getD_getElem?, Array.getElem?_eq_getElem hlt, Option.getD_some] at hj2
          simpa using hj2
        rw [this, hc]
        simp
      · intro i hi d hd
        rw [hgetset] at hi ⊢
        simp only [Bool.or_eq_true] at hi ⊢
        left
        rcases hi with hi | hi
        · exact hcl i hi d hd
        · have : i = j := by simpa using hi
          subst this
          exact hdeps d hd
      · have e : (rs.filter fun y => (listed.setIfInBounds j true).getD y.i false) = rs.filter fun y => listed.getD y.i false || y.i == j := List.filter_congr fun y _ => hgetset y.i
        rw [e]
        exact hs1.trans ((ap_congr _ _ hs).trans hC.symm)
    unfold wpOpIn
    rw [ho]
    dsimp only
    rcases hr.ok j x hx with ⟨hw1, he, hsu⟩ | ⟨hw1, he⟩
    · rw [← hw'] at hw1
      rw [if_pos (wanted_ok h hw1)]
      have hag : Agree (F st (rs.take j)) s x.o.op.operands.toList (supp fc base x.o (F st (rs.take j))) := by
        refine ⟨fun y hy => ?_, fun i hi => ?_⟩
        · cases y with
          | tmp t => exact (get_of_slots (hslot t (by
              unfold Oper.looksAt
              exact List.mem_append_left _ (List.mem_filterMap.2 ⟨.tmp t, hy, rfl⟩)))).symm
          | _ => rfl
        · rw [hs.objs]
          exact (hB i (by rw [hsu]; exact hi)).symm
      rw [effOf_local hag] at he
      obtain ⟨s1, h1, h2⟩ := eff_ok hT h he
      exact evOp_ok hT hO h h1 fun a' w' σ' h' => next s1 a' w' σ' h2 h'
    · rw [← hw'] at hw1
      have hwf := wanted_ok h hw1
      rw [hwf]
      simp only [Bool.false_eq_true, if_false]
      refine ⟨fun _ _ => trivial, next (s.put x.o.dst .und) _ _ _ ?_ (h.put (v := .und) rfl)⟩
      unfold ap1
      rw [he]
      exact Same.refl _

theorem evD_ok (hT : TyOk P E) (hO : OrcOk P E O) {fc : FC} {base : Nat} {ops : Array Oper} (h : Sim C D outs st a w σ) (he : evD E O fc base ops (clo ops ops.size) (numbered 0 ops.toList) st [] = some st')
    (hQ : ∀ a' w' σ', Sim C D outs st' a' w' σ' → Q .normal a' w') : wpAnyIn (W ro) m P .any ops Q ops.size (Array.replicate ops.size false) a { w with drawn := w.drawn + 1 } := by
  have h0 : Recd E O fc base ops (clo ops ops.size) st [] := ⟨fun _ _ h => by simp at h, fun _ _ h => by simp at h, fun _ _ h => by simp at h, fun _ _ _ _ _ h => by simp at h⟩
  obtain ⟨rs, hr, hn, rfl⟩ := evD_rec ops.toList [] rfl h0 he
  have hg : ∀ j, (Array.replicate ops.size false).getD j false = false := fun j => by
    simp only [Array.getD_eq_getD_getElem?, Array.getElem?_replicate]
    split <;> rfl
  refine drawn_ok hT hO hr hn hQ ops.size _ (by simp) (by simp) (fun j hj => by rw [hg] at hj; cases hj) (h.world (w' := { w with drawn := w.drawn + 1 }) ?_) ?_
  · exact ⟨rfl, rfl, rfl, Nat.le_refl _, fun _ _ => rfl⟩
  · have : (rs.filter fun y => (Array.replicate ops.size false).getD y.i false) = [] := by
      rw [List.filter_eq_nil_iff]
      intro y _
      rw [hg]; simp
    rw [this]
    exact Same.refl _
end
end Go.AM
