/-
A given row, out of what the abstract machine answers: arguments of plain data.
-/
import Derived.Test.YtdipdaajicceoaaAmTy
import Derived.Test.YtdipdaajicceoaaAmSimp
import Derived.Test.YtdipdaajicceoaaAmDraw
import Derived.ProofKit
import Derived.OpenShut
namespace Go.AM
open Go Go.RowKit

theorem Orc.callOk {P : Program} {E : Env} {X : Ext} (hE : EnvOk P E) (hX : ExtOk P X) (hm : P.follows .mixedOrders = true) {g : Nat} {args : List V} {r : V}
    (h : (orcω E X).call g args = some r) : CallOk P g args r := by
  obtain ⟨n, hn⟩ := (lim_iff (mono_call E X g args)).1 h
  exact (orc_ok hE hX hm n).call g args r hn

/-- A list that falls into parts, one for each. -/
def HasFs (H : Nat → List V → Prop) : List Nat → List V → Prop
  | [], cs => cs = []
  | t :: r, cs => ∃ a b, cs = a ++ b ∧ H t a ∧ HasFs H r b

def pack (agg : Bool) (ds : List V) : V := if agg then .agg ds else ds.headD .junk

/-- The cells of a value of a type of plain data. -/
def HasC (E : Env) : Nat → Nat → List V → Prop
  | 0, _, _ => False
  | n + 1, t, cs => match E.ty t with
    | some ti => match ti.ty with
      | .int k => ∃ i, cs = [.int k i] ∧ k.min ≤ i ∧ i ≤ k.max
      | .bool => ∃ b, cs = [.bool b]
      | .slice e => ∃ vs, cs = [.sl false vs] ∧ vs.length ≤ maxLen ∧ ∀ v ∈ vs, ∃ ei ds, E.ty e = some ei ∧ HasC E n e ds ∧ v = pack ei.ty.isAgg ds
      | .struct fs => HasFs (HasC E n) (fs.map (·.2)) cs
      | .array k e => HasFs (HasC E n) (List.replicate k e) cs
      | _ => False
    | none => False

/-- A value of a type of plain data. -/
def HasV (E : Env) (n t : Nat) (v : V) : Prop := ∃ ti ds, E.ty t = some ti ∧ HasC E n t ds ∧ v = pack ti.ty.isAgg ds

def HasAll (E : Env) (n : Nat) : List Nat → List V → Prop
  | [], vs => vs = []
  | t :: r, vs => ∃ v q, vs = v :: q ∧ HasV E n t v ∧ HasAll E n r q

def tiles (E : Env) : Nat → List (Nat × Nat) → Option Nat
  | off, [] => some off
  | off, (o, t) :: r => match E.ty t with
    | some fi => if o = off then tiles E (off + fi.size) r else none
    | none => none

def plainTy (E : Env) : Nat → Nat → Bool
  | 0, _ => false
  | n + 1, t => match E.ty t with
    | some ti => match ti.ty with
      | .int _ => ti.size == 1
      | .bool => ti.size == 1
      | .slice e => ti.size == 1 && (match E.ty e with | some ei => decide (0 < ei.size) | none => false) && plainTy E n e
      | .struct fs => decide (tiles E 0 fs = some ti.size) && fs.all (fun p => plainTy E n p.2)
      | .array k e => (match E.ty e with | some ei => decide (k * ei.size = ti.size) | none => false) && plainTy E n e
      | _ => false
    | none => false

theorem HasFs.refFree {H : Nat → List V → Prop} (h : ∀ t cs, H t cs → refFreeL cs = true) : ∀ (ts : List Nat) (cs : List V), HasFs H ts cs → refFreeL cs = true
  | [], _, e => by simp only [HasFs] at e; subst e; rfl
  | _ :: r, _, e => by
    obtain ⟨a, b, rfl, h1, h2⟩ := e
    rw [refFreeL_app, h _ _ h1, HasFs.refFree h r b h2]; rfl

theorem HasC.refFree {E : Env} : ∀ (n t : Nat) (cs : List V), HasC E n t cs → refFreeL cs = true
  | 0, _, _, h => h.elim
  | n + 1, t, cs, h => by
    simp only [HasC] at h
    split at h
    case h_2 => exact h.elim
    split at h
    · obtain ⟨i, rfl, _⟩ := h; rfl
    · obtain ⟨b, rfl⟩ := h; rfl
    · obtain ⟨vs, rfl, _⟩ := h; rfl
    · exact HasFs.refFree (fun t cs => HasC.refFree n t cs) _ _ h
    · exact HasFs.refFree (fun t cs => HasC.refFree n t cs) _ _ h
    · exact h.elim

theorem refFree_pack {agg : Bool} {ds : List V} (h : refFreeL ds = true) : refFree (pack agg ds) = true := by
  unfold pack
  split
  · exact h
  · cases ds with
    | nil => rfl
    | cons d r => simp only [refFreeL, Bool.and_eq_true] at h; exact h.1

section
variable {P : Program} {E : Env} {w : World} {H : Type} {enc : TypeId × Value → H} {base : Nat} {spare : Nat → Bool} {held : Bool}

/-- What is read of a world's old blocks. -/
def Old (w : World) : Cx := ⟨fun b => b < w.heap.size, w.heap.size, w, fun _ => False, true⟩

theorem cellsOf_eq {t : TypeId} {i : TypeInfo} (h : P.info? t = some i) : P.cellsOf t = i.size := by simp [Program.cellsOf, h]

theorem parts_rep {n : Nat} (h : ∀ t cs x, DataW.trod enc P w base spare held n t cs = some x → ∀ m ti, E.ty t = some ti → plainTy E m t = true →
      ∃ av, HasC E m t av ∧ (∀ mo : Option Bool, mo.getD false = false → RepL (Old w) w (fun _ => none) mo av cs) ∧ (∀ u ∈ cs, u.oneCell' = true) ∧ cs.length = ti.size) {m : Nat} :
    ∀ (fs : List (Nat × Nat)) (off tot : Nat) (cs : List Value), tiles E off fs = some tot → cs.length = tot → off ≤ tot →
      (∀ p ∈ fs, plainTy E m p.2 = true) → (∀ p ∈ fs, ∃ fi y, E.ty p.2 = some fi ∧ DataW.trod enc P w base spare held n p.2 ((cs.drop p.1).take fi.size) = some y) →
      ∃ av, HasFs (HasC E m) (fs.map (·.2)) av ∧ (∀ mo : Option Bool, mo.getD false = false → RepL (Old w) w (fun _ => none) mo av (cs.drop off)) ∧ (∀ u ∈ cs.drop off, u.oneCell' = true)
  | [], off, tot, cs, ht, hl, _, _, _ => by
    simp only [tiles, Option.some.injEq] at ht
    subst ht
    rw [List.drop_of_length_le (by omega)]
    exact ⟨[], rfl, fun _ _ => rfl, fun u hu => by cases hu⟩
  | (o, t) :: r, off, tot, cs, ht, hl, hoff, hp, hx => by
    obtain ⟨fi, y, hfi, hy⟩ := hx (o, t) List.mem_cons_self
    simp only [tiles, hfi] at ht
    split at ht
    case isFalse => cases ht
    rename_i ho
    subst ho
    obtain ⟨av, h1, h2, h3, h4⟩ := h t _ y hy m fi hfi (hp (o, t) List.mem_cons_self)
    have hle : o + fi.size ≤ tot := by
      dsimp only at h4
      rw [List.length_take, List.length_drop] at h4
      omega
    obtain ⟨bv, k1, k2, k3⟩ := parts_rep h (m := m) r (o + fi.size) tot cs ht hl hle (fun p hp' => hp p (List.mem_cons_of_mem _ hp')) (fun p hp' => hx p (List.mem_cons_of_mem _ hp'))
    have hsplit : cs.drop o = (cs.drop o).take fi.size ++ cs.drop (o + fi.size) := by
      rw [← List.drop_drop, List.take_append_drop]
    refine ⟨av ++ bv, ⟨av, bv, rfl, h1, k1⟩, ?_, ?_⟩
    · intro mo hmo; rw [hsplit]; exact RepL.app (h2 mo hmo) (k2 mo hmo)
    · intro u hu
      rw [hsplit, List.mem_append] at hu
      rcases hu with hu | hu
      · exact h3 u hu
      · exact k3 u hu

theorem tiles_replicate {E : Env} {e : Nat} {ei : TI} (he : E.ty e = some ei) : ∀ (k off : Nat), tiles E off ((List.range k).map fun i => (off + i * ei.size, e)) = some (off + k * ei.size)
  | 0, off => by simp [tiles]
  | k + 1, off => by
    rw [List.range_succ_eq_map, List.map_cons, List.map_map]
    simp only [tiles, he, Nat.zero_mul, Nat.add_zero, if_true]
    have := tiles_replicate he k (off + ei.size)
    rw [show off + (k + 1) * ei.size = off + ei.size + k * ei.size by rw [Nat.succ_mul]; omega, ← this]
    congr 1
    refine List.map_congr_left fun i _ => ?_
    simp only [Function.comp, Nat.succ_mul]
    congr 1
    omega

def packW (agg : Bool) (cs : List Value) : Value := if agg then .agg cs.toArray else cs.headD undef

theorem cells_one {c : Value} (h : c.oneCell' = true) : c.cells = #[c] := by cases c <;> first | rfl | simp [Value.oneCell'] at h

theorem packW_cells {agg : Bool} {cs : List Value} (h : agg = false → cs.length = 1) (h1 : ∀ u ∈ cs, u.oneCell' = true) : (packW agg cs).cells.toList = cs := by
  unfold packW
  cases agg with
  | true => rfl
  | false =>
    match cs, h rfl with
    | [c], _ =>
      simp only [Bool.false_eq_true, if_false, List.headD_cons]
      rw [cells_one (h1 c (by simp))]

theorem pack_rep {agg : Bool} {av : List V} {cs : List Value} {C : Cx} {σ : Places} {mo : Option Bool} (h : agg = false → cs.length = 1) (h1 : ∀ u ∈ cs, u.oneCell' = true) (hr : RepL C w σ mo av cs) : Rep C w σ mo (pack agg av) (packW agg cs) := by
  unfold pack packW
  cases agg with
  | true => exact ⟨cs, rfl, hr, h1⟩
  | false =>
    match cs, h rfl with
    | [c], _ =>
      match av, hr with
      | v :: r, ⟨d, q, e, hd, _⟩ =>
        cases e
        exact hd

theorem plain_size {m : Nat} {t : Nat} {ti : TI} (hti : E.ty t = some ti) (hp : plainTy E m t = true) : ti.ty.isAgg = false → ti.size = 1 := fun ha => by
  cases m with
  | zero => simp [plainTy] at hp
  | succ m =>
    simp only [plainTy, hti] at hp
    split at hp
    · simpa using hp
    · simpa using hp
    · simp only [Bool.and_eq_true] at hp; simpa using hp.1.1
    · rename_i hk; rw [hk] at ha; cases ha
    · rename_i hk; rw [hk] at ha; cases ha
    · cases hp

theorem choose_list {α : Type} {n : Nat} {p : Nat → α → Prop} (h : ∀ i, i < n → ∃ y, p i y) : ∃ l : List α, l.length = n ∧ ∀ i y, l[i]? = some y → p i y := by
  induction n with
  | zero => exact ⟨[], rfl, fun i y h => by simp at h⟩
  | succ n ih =>
    obtain ⟨l, hl, hp⟩ := ih fun i hi => h i (by omega)
    obtain ⟨y, hy⟩ := h n (by omega)
    refine ⟨l ++ [y], by simp [hl], fun i z hz => ?_⟩
    rcases getElem?_snoc hz with ⟨_, h1⟩ | ⟨rfl, rfl⟩
    · exact hp i z h1
    · rw [hl]; exact hy

theorem repL_of {C : Cx} {σ : Places} {mo : Option Bool} : ∀ {vs : List V} {ds : List Value}, vs.length = ds.length → (∀ (i : Nat) v d, vs[i]? = some v → ds[i]? = some d → Rep C w σ mo v d) → RepL C w σ mo vs ds
  | [], [], _, _ => rfl
  | [], _ :: _, h, _ => by simp at h
  | _ :: _, [], h, _ => by simp at h
  | v :: vs, d :: ds, h, hr => ⟨d, ds, rfl, hr 0 v d rfl rfl, repL_of (by simpa using h) fun i v' d' h1 h2 => hr (i + 1) v' d' (by simpa using h1) (by simpa using h2)⟩

theorem plain_known {m t : Nat} (hp : plainTy E m t = true) : ∃ ti, E.ty t = some ti := by
  cases m with
  | zero => simp [plainTy] at hp
  | succ m =>
    simp only [plainTy] at hp
    split at hp
    · rename_i ti h; exact ⟨ti, h⟩
    · cases hp

/-- What a value reads as, it is. -/
theorem trod_rep (hT : TyOk P E) : ∀ (n : Nat) (t : TypeId) (cs : List Value) (x : DataW H × List MemPlace), DataW.trod enc P w base spare held n t cs = some x → ∀ (m : Nat) (ti : TI), E.ty t = some ti → plainTy E m t = true →
      ∃ av, HasC E m t av ∧ (∀ mo : Option Bool, mo.getD false = false → RepL (Old w) w (fun _ => none) mo av cs) ∧ (∀ u ∈ cs, u.oneCell' = true) ∧ cs.length = ti.size := by
  intro n
  induction n with
  | zero => intro t cs x h; simp [DataW.trod] at h
  | succ n ih =>
    intro t cs x h m ti hti hp
    have hp0 := hp
    cases m with
    | zero => simp [plainTy] at hp
    | succ m =>
      obtain ⟨d, i, z, hd, ht, hi, hsz, _, _, _, _, _⟩ := hT t ti hti
      have hcell : P.cellsOf t = ti.size := by rw [cellsOf_eq hi, hsz]
      simp only [plainTy, hti] at hp
      simp only [HasC, hti]
      split at hp
      · -- integers
        rename_i k hk
        rw [hk] at ht
        cases d <;> simp [tyIs] at ht
        subst ht
        obtain ⟨v, rfl, _, hw⟩ := DataW.trod_int hd h
        refine ⟨[.int k v], ⟨v, rfl, ?_⟩, fun _ _ => ⟨_, _, rfl, rfl, rfl⟩, fun u hu => ?_, ?_⟩
        · simp only [Lit.wf, Bool.and_eq_true, decide_eq_true_eq] at hw
          exact hw
        · simp at hu; subst hu; rfl
        · have : ti.size = 1 := by simpa using hp
          rw [this]; rfl
      · rename_i hk
        rw [hk] at ht
        cases d <;> simp [tyIs] at ht
        obtain ⟨b, rfl, _⟩ := DataW.trod_bool hd h
        refine ⟨[.bool b], ⟨b, rfl⟩, fun _ _ => ⟨_, _, rfl, rfl, rfl⟩, fun u hu => ?_, ?_⟩
        · simp at hu; subst hu; rfl
        · have : ti.size = 1 := by simpa using hp
          rw [this]; rfl
      · -- slices
        rename_i e hk
        rw [hk] at ht
        simp only [Bool.and_eq_true] at hp
        obtain ⟨⟨hp1, hp2⟩, hp3⟩ := hp
        have hp1 : ti.size = 1 := by simpa using hp1
        cases d <;> simp [tyIs] at ht
        subst ht
        split at hp2
        case h_2 => cases hp2
        rename_i ei hei
        have hes : 0 < ei.size := by simpa using hp2
        obtain ⟨_, ii, _, _, _, hii, hisz, _⟩ := hT _ ei hei
        have hce : P.cellsOf e = ei.size := by rw [cellsOf_eq hii, hisz]
        rcases DataW.trod_slice hd h with ⟨rfl, _⟩ | ⟨a, len, cap, elems, rest, k, hk', rfl, _, _, hl, hm, hlen, hel, _⟩
        · refine ⟨[.sl false []], ⟨[], rfl, Nat.zero_le _, fun v hv => by cases hv⟩, fun mo hmo => ⟨_, _, rfl, ?_, rfl⟩, fun u hu => ?_, by rw [hp1]; rfl⟩
          · simp only [Rep]
            exact ⟨rfl, none, 0, rfl, Nat.le_refl _, .inl trivial⟩
          · simp at hu; subst hu; rfl
        · have hkn : k = n := by omega
          subst hkn
          obtain ⟨l, hll, hlp⟩ := choose_list (n := len) (p := fun i (y : List V × List Value) => HasC E m e y.1 ∧ (∀ mo : Option Bool, mo.getD false = false → RepL (Old w) w (fun _ => none) mo y.1 y.2) ∧ (∀ u ∈ y.2, u.oneCell' = true) ∧ y.2.length = ei.size ∧
              ∀ r, r < ei.size → w.cell? ((a.add (i * ei.size)).add r) = y.2[r]?) (fun i hi => by
            have h1 := hel i hi
            rw [hce, List.getElem?_eq_getElem (by omega)] at h1
            obtain ⟨cs', h2, h3⟩ := Option.bind_eq_some_iff.1 h1
            obtain ⟨av, q1, q2, q3, q4⟩ := ih e cs' _ h3 m ei hei hp3
            obtain ⟨_, _, h4⟩ := World.cells?_some h2
            exact ⟨(av, cs'), q1, q2, q3, q4, h4⟩)
          have hsz1 : ∀ i (y : List V × List Value), l[i]? = some y → (ei.ty.isAgg = false → y.2.length = 1) := fun i y hy ha => by
            rw [(hlp i y hy).2.2.2.1]; exact plain_size hei hp3 ha
          refine ⟨[.sl false (l.map fun y => pack ei.ty.isAgg y.1)], ⟨_, rfl, by rw [List.length_map, hll]; omega, fun v hv => ?_⟩, fun mo hmo => ⟨_, _, rfl, ?_, rfl⟩, fun u hu => ?_, by rw [hp1]; rfl⟩
          · obtain ⟨y, hy, rfl⟩ := List.mem_map.1 hv
            obtain ⟨i, hi⟩ := List.mem_iff_getElem?.1 hy
            exact ⟨ei, y.1, hei, (hlp i y hi).1, rfl⟩
          · simp only [Rep]
            refine ⟨?_, some a, cap, by rw [List.length_map, hll], by rw [List.length_map, hll]; exact hl, ?_⟩
            · have : ∀ (l : List V), (∀ v ∈ l, refFree v = true) → refFreeL l = true := fun l => by
                induction l with
                | nil => intro _; rfl
                | cons v r ih => intro hv; simp only [refFreeL, hv v List.mem_cons_self, ih fun u hu => hv u (List.mem_cons_of_mem _ hu), Bool.and_self]
              refine this _ fun v hv => ?_
              obtain ⟨y, hy, rfl⟩ := List.mem_map.1 hv
              obtain ⟨i, hi⟩ := List.mem_iff_getElem?.1 hy
              exact refFree_pack (HasC.refFree _ _ _ (hlp i y hi).1)
            · cases hlz : l with
              | nil => exact .inl rfl
              | cons y0 r0 =>
                right
                have h0 : l[0]? = some y0 := by rw [hlz]; rfl
                rw [← hlz]
                have hc0 := (hlp 0 y0 h0).2.2.2.2 0 hes
                have hy0 : 0 < y0.2.length := by rw [(hlp 0 y0 h0).2.2.2.1]; exact hes
                rw [List.getElem?_eq_getElem hy0] at hc0
                have ha0 : (a.add (0 * ei.size)).add 0 = a := by simp [Addr.add]
                rw [ha0] at hc0
                have hspot := World.cell?_spot hc0
                obtain ⟨b, off, spot⟩ := a
                dsimp only at hspot
                subst hspot
                have hb : b < w.heap.size := by
                  rcases Nat.lt_or_ge b w.heap.size with h1 | h1
                  · exact h1
                  · simp [World.cell?, Array.getElem?_eq_none h1] at hc0
                refine ⟨b, off, ei.size, l.map fun y => packW ei.ty.isAgg y.2, rfl, ?_, ?_, ?_, hes, ?_⟩
                · exact ⟨(fun ⟨_, _, _, _, _, hi⟩ => by cases hi), hb, .inr ⟨hmo, hb⟩, fun e' => by rw [hmo] at e'; cases e'⟩
                · refine repL_of (by simp) fun i v d' hv hd' => ?_
                  rw [List.getElem?_map] at hv hd'
                  obtain ⟨y, hy, rfl⟩ := Option.map_eq_some_iff.1 hv
                  rw [hy] at hd'
                  cases hd'
                  exact pack_rep (hsz1 i y hy) (hlp i y hy).2.2.1 ((hlp i y hy).2.1 _ (by rw [hmo]; rfl))
                · intro d' hd'
                  obtain ⟨y, hy, rfl⟩ := List.mem_map.1 hd'
                  obtain ⟨i, hi⟩ := List.mem_iff_getElem?.1 hy
                  have := packW_cells (hsz1 i y hi) (hlp i y hi).2.2.1
                  refine ⟨?_, ?_⟩
                  · rw [← Array.length_toList, this]; exact (hlp i y hi).2.2.2.1
                  · rw [this]; exact (hlp i y hi).2.2.1
                · intro i d' r u hd' hu
                  rw [List.getElem?_map] at hd'
                  obtain ⟨y, hy, rfl⟩ := Option.map_eq_some_iff.1 hd'
                  rw [packW_cells (hsz1 i y hy) (hlp i y hy).2.2.1] at hu
                  have hr : r < ei.size := by
                    rw [← (hlp i y hy).2.2.2.1]
                    exact (List.getElem?_eq_some_iff.1 hu).1
                  have := (hlp i y hy).2.2.2.2 r hr
                  rw [Addr.add_lit, Addr.add_lit, hu] at this
                  exact this
          · simp at hu; subst hu; rfl
      · -- structs
        rename_i fs hk
        rw [hk] at ht
        simp only [Bool.and_eq_true, decide_eq_true_eq] at hp
        obtain ⟨hp1, hp2⟩ := hp
        obtain ⟨gs, rfl⟩ : ∃ gs, d = .struct gs := by cases d <;> first | exact ⟨_, rfl⟩ | simp [tyIs] at ht
        simp only [tyIs] at ht
        have ht : gs.toList.map (fun g => (g.offset, g.type)) = fs := by simpa using ht
        obtain ⟨xs, k, hk', _, hl, hlen, hf⟩ := DataW.trod_struct hd h
        have hkn : k = n := by omega
        subst hkn
        rw [hcell] at hl
        rw [List.all_eq_true] at hp2
        have := parts_rep (fun t cs x h m ti hti hp => ih t cs x h m ti hti hp) (m := m) fs 0 ti.size cs hp1 hl (Nat.zero_le _) (fun p hp => hp2 p hp) (fun p hpm => by
          obtain ⟨fi, hfi⟩ := plain_known (hp2 p hpm)
          rw [← ht, List.mem_map] at hpm
          obtain ⟨g, hg, rfl⟩ := hpm
          obtain ⟨j, hj⟩ := List.mem_iff_getElem?.1 hg
          have hj' : gs[j]? = some g := by simpa using hj
          have hx := hf j g hj'
          obtain ⟨_, ii, _, _, _, hii, hisz, _⟩ := hT _ fi hfi
          rw [cellsOf_eq hii, hisz] at hx
          have hjl : j < xs.length := by
            rw [hlen]
            exact (Array.getElem?_eq_some_iff.1 hj').1
          rw [List.getElem?_eq_getElem hjl] at hx
          exact ⟨fi, _, hfi, hx⟩)
        obtain ⟨av, h1, h2, h3⟩ := this
        rw [List.drop_zero] at h2 h3
        exact ⟨av, h1, h2, h3, hl⟩
      · -- arrays
        rename_i k e hk
        rw [hk] at ht
        simp only [Bool.and_eq_true] at hp
        obtain ⟨hp1, hp2⟩ := hp
        split at hp1
        case h_2 => cases hp1
        rename_i ei hei
        have hp1 : k * ei.size = ti.size := by simpa using hp1
        cases d <;> simp [tyIs] at ht
        obtain ⟨rfl, rfl⟩ := ht
        obtain ⟨xs, k', hk', _, hl, hlen, hf⟩ := DataW.trod_array hd h
        have hkn : k' = n := by omega
        subst hkn
        rw [hcell] at hl
        obtain ⟨_, ii, _, _, _, hii, hisz, _⟩ := hT _ ei hei
        have hce : P.cellsOf e = ei.size := by rw [cellsOf_eq hii, hisz]
        have := parts_rep (fun t cs x h m ti hti hp => ih t cs x h m ti hti hp) (m := m) ((List.range k).map fun i => (0 + i * ei.size, e)) 0 ti.size cs
          (by rw [tiles_replicate hei, hp1]; simp) hl (Nat.zero_le _) (fun p hp => by obtain ⟨i, _, rfl⟩ := List.mem_map.1 hp; exact hp2) (fun p hpm => by
          obtain ⟨i, hi, rfl⟩ := List.mem_map.1 hpm
          have hi := List.mem_range.1 hi
          have hx := hf i hi
          rw [hce, List.getElem?_eq_getElem (by omega)] at hx
          refine ⟨ei, xs[i]'(by omega), hei, ?_⟩
          dsimp only
          rw [Nat.zero_add]
          exact hx)
        obtain ⟨av, h1, h2, h3⟩ := this
        rw [List.drop_zero] at h2 h3
        refine ⟨av, ?_, h2, h3, hl⟩
        have e1 : ((List.range k).map fun i => (0 + i * ei.size, e)).map (·.2) = List.replicate k e := by
          rw [List.map_map]
          apply List.ext_getElem?
          intro j
          simp only [List.getElem?_map, List.getElem?_range', List.getElem?_replicate]
          by_cases hj : j < k
          · simp [hj]
          · simp [hj]
        rw [← e1]
        exact h1
      · cases hp

theorem arg_rep (hT : TyOk P E) {m : Nat} {t : TypeId} (hp : plainTy E m t = true) {v : Value} {d : DataW H} {p : List MemPlace} (h : DataW.Trod enc P w base spare held t v d p) {r : Reach} {b : Nat} (hok : Value.okWide P w r b t v) :
    ∃ av, HasV E m t av ∧ Rep (Old w) w (fun _ => none) none av v := by
  obtain ⟨ti, hti⟩ := plain_known hp
  obtain ⟨fuel, hf⟩ := h
  obtain ⟨av, h1, h2, h3, h4⟩ := trod_rep hT fuel t _ _ hf m ti hti hp
  refine ⟨pack ti.ty.isAgg av, ⟨ti, av, hti, h1, rfl⟩, ?_⟩
  have hv : packW ti.ty.isAgg v.cells.toList = v := by
    obtain ⟨dd, _, _, hd, ht, _⟩ := hT t ti hti
    have hok0 := hok
    unfold Value.okWide at hok
    rw [hd] at hok
    cases hk : ti.ty with
    | struct fs =>
      rw [hk] at ht
      obtain ⟨gs, rfl⟩ : ∃ gs, dd = .struct gs := by cases dd <;> first | exact ⟨_, rfl⟩ | simp [tyIs] at ht
      obtain ⟨cs, rfl, _⟩ := hok
      simp [packW, Ty.isAgg, Value.cells]
    | array n e =>
      rw [hk] at ht
      obtain ⟨n', e', rfl⟩ : ∃ n' e', dd = .array n' e' := by cases dd <;> first | exact ⟨_, _, rfl⟩ | simp [tyIs] at ht
      obtain ⟨cs, rfl, _⟩ := hok
      simp [packW, Ty.isAgg, Value.cells]
    | int k =>
      rw [hk] at ht
      cases dd <;> simp [tyIs] at ht
      simp only [Cell.okWide, hd] at hok
      cases v <;> simp_all [Cell.ok, packW, Ty.isAgg, Value.cells]
    | bool =>
      rw [hk] at ht
      cases dd <;> simp [tyIs] at ht
      simp only [Cell.okWide, hd] at hok
      cases v <;> simp_all [Cell.ok, packW, Ty.isAgg, Value.cells]
    | slice e =>
      rw [hk] at ht
      cases dd <;> simp [tyIs] at ht
      obtain ⟨a, len, cap, rfl⟩ := WideShapes.okWide_slice hd hok0
      rfl
    | str => cases m <;> simp [plainTy, hti, hk] at hp
    | other => cases m <;> simp [plainTy, hti, hk] at hp
  have := pack_rep (C := Old w) (σ := fun _ => none) (mo := none) (agg := ti.ty.isAgg) (fun ha => by rw [h4]; exact plain_size hti hp ha) h3 (h2 none rfl)
  rw [hv] at this
  exact this

theorem args_rep (hT : TyOk P E) {m : Nat} {r : Reach} {b : Nat} : ∀ {ts : List TypeId} {vs : List Value} {ds : List (DataW H)} {p : List MemPlace}, DataW.TrodAll enc P w base spare held ts vs ds p →
    (∀ (j : Nat) t v, ts[j]? = some t → vs[j]? = some v → Value.okWide P w r b t v) → (∀ t ∈ ts, plainTy E m t = true) →
    ∃ avs, HasAll E m ts avs ∧ RepL (Old w) w (fun _ => none) none avs vs
  | [], [], [], _, _, _, _ => ⟨[], rfl, rfl⟩
  | t :: ts, v :: vs, d :: ds, p, h, hok, hp => by
    obtain ⟨p1, q, h1, h2, _⟩ := h
    obtain ⟨av, k1, k2⟩ := arg_rep hT (hp t List.mem_cons_self) h1 (hok 0 t v rfl rfl)
    obtain ⟨avs, k3, k4⟩ := args_rep hT h2 (fun j t v h1 h2 => hok (j + 1) t v (by simpa using h1) (by simpa using h2)) (fun t ht => hp t (List.mem_cons_of_mem _ ht))
    exact ⟨av :: avs, ⟨av, avs, rfl, k1, k3⟩, v, vs, rfl, k2, k4⟩
  | [], _ :: _, _, _, h, _, _ => h.elim
  | [], [], _ :: _, _, h, _, _ => h.elim
  | _ :: _, [], _, _, h, _, _ => h.elim
  | _ :: _, _ :: _, [], _, h, _, _ => h.elim

theorem trodAll_below (hl : laidOutB P = true) {w' : World} (hb : Below w.heap.size w w') : ∀ {ts : List TypeId} {vs : List Value} {ds : List (DataW H)} {p : List MemPlace}, DataW.TrodAll enc P w 0 (fun _ => true) true ts vs ds p →
    (∀ t ∈ ts, P.readableRec t = true ∧ t < P.types.size) → (∀ x ∈ p, x.block < w.heap.size) → DataW.TrodAll enc P w' 0 (fun b => decide (b < w.heap.size)) true ts vs ds p
  | [], [], [], _, h, _, _ => h
  | t :: ts, v :: vs, d :: ds, p, h, hr, hlt => by
    obtain ⟨p1, q, h1, h2, rfl⟩ := h
    exact ⟨p1, q, Below.trod hl (hr t List.mem_cons_self).1 (hr t List.mem_cons_self).2 h1 hb (fun x hx => hlt x (List.mem_append_left _ hx)),
      trodAll_below hl hb h2 (fun t ht => hr t (List.mem_cons_of_mem _ ht)) (fun x hx => hlt x (List.mem_append_right _ hx)), rfl⟩
  | [], _ :: _, _, _, h, _, _ => h.elim
  | [], [], _ :: _, _, h, _, _ => h.elim
  | _ :: _, [], _, _, h, _, _ => h.elim
  | _ :: _, _ :: _, [], _, h, _, _ => h.elim

/-- A law's call: true, and what it read reads as it did. -/
theorem row_calls {X : Ext} (hE : EnvOk P E) (hX : ExtOk P X) (hm : P.follows .mixedOrders = true) (hl : laidOutB P = true) {f : FuncId} {fn : Func} {s : ChangeSpec} {tb : TypeId} (hvars : s.vars = [])
    (hres : fn.resultTypes = #[tb]) (htb : P.underlying tb = some .bool) {m : Nat} (hp : ∀ t ∈ fn.params.toList, plainTy E m t = true ∧ P.readableRec t = true ∧ t < P.types.size)
    (hs : ∀ ds : List (DataW H), ds.length = fn.params.size → s.fn H ds = { results := [.lit (.bool true)], args := ds })
    (hcall : ∀ avs, HasAll E m fn.params.toList avs → (orcω E X).call f avs = some (.bool true))
    {apart fresh handsOn : Bool} {W : World} {b : Nat} {args : Array Value} {ds gs : List (DataW H)} {before : List MemPlace}
    (hval : ∀ (j : Nat) t v, fn.params[j]? = some t → args[j]? = some v → Value.okWide P W .any b t v)
    (hW : DataW.Whole enc P fn.params.toList s.vars apart W args.toList ds gs before) :
    Calls P f args W fun e W' => ∃ v, e = .returned v ∧ s.post enc P fn apart fresh handsOn false W args v W' := by
  have hlt := hW.lt
  have hW' := hW
  obtain ⟨p, q, hA, hV, rfl, _, _⟩ := hW
  rw [hvars] at hV
  obtain ⟨rfl, rfl⟩ : gs = [] ∧ q = [] := by
    cases gs with
    | nil => exact ⟨rfl, hV⟩
    | cons g r => exact hV.elim
  obtain ⟨avs, k1, k2⟩ := args_rep hE.ty (m := m) hA (fun j t v h1 h2 => hval j t v (by simpa using h1) (by simpa using h2)) (fun t ht => (hp t ht).1)
  obtain ⟨_, hc⟩ := (hcall avs k1 |> Orc.callOk hE hX hm)
  have hc := callsIn_wide.1 (hc 0 W (fun b => b < W.heap.size) args.toList (fun _ h => h) k2)
  rw [Array.toArray_toList] at hc
  refine hc.mono fun e W' he => ?_
  obtain ⟨c, rfl, hb, hr, _⟩ := he
  simp only [Rep] at hr
  subst hr
  have hlen : ds.length = fn.params.size := by
    have : ∀ {ts : List TypeId} {vs : List Value} {ds : List (DataW H)} {p : List MemPlace}, DataW.TrodAll enc P W 0 (fun _ => true) true ts vs ds p → ds.length = ts.length := fun {ts} => by
      induction ts with
      | nil => intro vs ds p h; cases vs <;> cases ds <;> first | rfl | exact h.elim
      | cons t ts ih =>
        intro vs ds p h
        cases vs with
        | nil => exact h.elim
        | cons v vs =>
          cases ds with
          | nil => exact h.elim
          | cons d ds =>
            obtain ⟨p1, q, _, h2, _⟩ := h
            simp [ih h2]
    rw [this hA]
    simp
  have hfn := hs ds hlen
  refine ⟨_, rfl, ds, [], p ++ [], [], p, [], hW', ?_, ?_, ?_, hb.frame _, fun e => by cases e⟩
  · rw [List.append_nil, hfn, hres]
    refine ⟨[], [], ⟨1, ?_⟩, ?_, rfl⟩
    · simp [DataW.trod, Value.cells, htb]
    · rfl
  · rw [List.append_nil, hfn]
    exact trodAll_below hl hb hA (fun t ht => (hp t ht).2) (fun x hx => hlt x (by simpa using hx))
  · rw [List.append_nil, hfn, hvars]
    rfl
end
end Go.AM
