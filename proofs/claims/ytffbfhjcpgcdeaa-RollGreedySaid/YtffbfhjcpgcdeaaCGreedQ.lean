/-
Greedy cuttings: the offers, sorted (plain); elements that are written over others.
-/
import Derived.Test.YtffbfhjcpgcdeaaCSortO
set_option linter.unusedVariables false
set_option linter.unusedSimpArgs false
set_option maxRecDepth 20000

namespace Go.AM.C
open Go Go.AM Go.Proofs

def art0 : Art := ⟨0, ⟨0, 0, 0, 0⟩, 0⟩
def offOf (ms : List Mk) (i : Nat) (a : Art) : Off :=
  if h : (0 ≤ a.price ∧ a.price ≤ 10000) ∧ i ≤ 1000 then ⟨a, i, encBits ms.length (fitA ms a), h.1, by omega⟩ else ⟨art0, 0, [], by decide, by decide⟩

def offL (ms : List Mk) : Nat → List Art → List Off
  | _, [] => []
  | i, a :: l => offOf ms i a :: offL ms (i + 1) l

theorem offL_len (ms : List Mk) : ∀ (l : List Art) (i : Nat), (offL ms i l).length = l.length
  | [], _ => rfl
  | a :: l, i => by rw [offL, List.length_cons, List.length_cons, offL_len ms l]

theorem offL_get (ms : List Mk) : ∀ (l : List Art) (k i : Nat), (offL ms k l)[i]? = (l[i]?).map (offOf ms (k + i))
  | [], _, _ => by simp [offL]
  | a :: l, k, 0 => by simp [offL]
  | a :: l, k, i + 1 => by
    rw [offL, List.getElem?_cons_succ, offL_get ms l, List.getElem?_cons_succ]
    congr 1
    funext x
    rw [show k + 1 + i = k + (i + 1) by omega]

theorem retag_offs (ms : List Mk) : ∀ (l : List Art) (i : Nat), (∀ a ∈ l, 0 ≤ a.price ∧ a.price ≤ 10000) → i + l.length ≤ 1000 → retagL false (offs ms i l) = (offL ms i l).map (encO false)
  | [], _, _, _ => rfl
  | a :: l, i, h, hi => by
    have ha := h a List.mem_cons_self
    rw [List.length_cons] at hi
    have ih := retag_offs ms l (i + 1) (fun b hb => h b (List.mem_cons_of_mem _ hb)) (by omega)
    have e1 : offOf ms i a = ⟨a, i, encBits ms.length (fitA ms a), ha, by omega⟩ := by
      unfold offOf
      rw [dif_pos ⟨ha, by omega⟩]
    simp only [offs, offL, List.map_cons, retagL]
    rw [ih, e1]
    simp only [encOffer, encO, retag, retagL]

def Cells8 (vs : List V) : Prop := ∀ v ∈ vs, ∃ cs, v = .agg cs ∧ cs.length = 8

theorem copy_eight {id : Nat} {ty : Ty} {by_ : Nat} {zero : V} {eq : Bool} (outer : List (List V)) (slots : List V) : ∀ (xs pre olds : List V) (objs : List (Nat × Ob)) (t app : Bool),
    look objs id = some { es := 8, flat := true, t := t, app := app, elems := pre ++ olds } → upd objs id { es := 8, flat := true, t := t, app := app, elems := pre ++ olds } = objs →
    Cells8 xs → Cells8 olds → refFreeL xs = true → olds.length = xs.length →
    copyN { ty := ty, size := 8, bytes := by_, zero := zero, eq := eq } id xs pre.length { slots := slots, outer := outer, objs := objs } = some { slots := slots, outer := outer, objs := upd objs id { es := 8, flat := true, t := t && isNewL xs, app := app, elems := pre ++ xs } }
  | [], pre, olds, objs, t, app, hl, hu, _, _, _, hlen => by
    have : olds = [] := List.eq_nil_of_length_eq_zero hlen
    subst this
    simp only [copyN, isNewL, Bool.and_true]
    rw [hu]
  | x :: xs, pre, olds, objs, t, app, hl, hu, hx, ho, hf, hlen => by
    cases olds with
    | nil => cases hlen
    | cons o olds =>
      obtain ⟨cs, rfl, hc⟩ := hx x List.mem_cons_self
      obtain ⟨ds, rfl, hd⟩ := ho o List.mem_cons_self
      simp only [refFreeL, refFree, Bool.and_eq_true] at hf
      have hget : (pre ++ V.agg ds :: olds)[pre.length]? = some (V.agg ds) := by simp
      have hset : (pre ++ V.agg ds :: olds).set pre.length (V.agg cs) = (pre ++ [V.agg cs]) ++ olds := by
        rw [List.set_append_right _ _ (Nat.le_refl _), Nat.sub_self]; simp
      have hsp : zB ds 0 cs = cs := by
        unfold zB
        rw [Nat.zero_add, List.take_zero, List.nil_append, List.drop_of_length_le (by omega), List.append_nil]
      have hst : evStore { ty := ty, size := 8, bytes := by_, zero := zero, eq := eq } (.ptr id pre.length 0) (.agg cs) { slots := slots, outer := outer, objs := objs } = some { slots := slots, outer := outer, objs := upd objs id { es := 8, flat := true, t := t && isNewL cs, app := app, elems := (pre ++ [V.agg cs]) ++ olds } } := by
        simp only [evStore, hl, cells?, hget, cellsJ, putIn, hsp, refFree, hf.1, isNew, junkOk]
        rw [if_pos ⟨hc, by omega, by omega, trivial⟩, hset]
        rfl
      simp only [copyN, hst]
      have ih := copy_eight (id := id) (ty := ty) (by_ := by_) (zero := zero) (eq := eq) outer slots xs (pre ++ [V.agg cs]) olds (upd objs id { es := 8, flat := true, t := t && isNewL cs, app := app, elems := (pre ++ [V.agg cs]) ++ olds }) (t && isNewL cs) app (look_upd_same _ _ _) (upd_upd _ _ _ _)
        (fun v hv => hx v (List.mem_cons_of_mem _ hv)) (fun v hv => ho v (List.mem_cons_of_mem _ hv)) hf.2 (by simpa using hlen)
      rw [List.length_append, List.length_cons, List.length_nil, Nat.zero_add] at ih
      rw [ih, upd_upd]
      simp only [isNewL, isNew, Bool.and_assoc, List.append_assoc, List.cons_append, List.nil_append]

def firstO (p : Off → Bool) (os : List Off) : Int := match os.findIdx? p with | some i => (i : Int) | none => -1

def fitsO (x : Nat) (o : Off) : Bool := match o.bits[x]? with | some (.bool b) => b | _ => false

theorem firstO_some {p : Off → Bool} {os : List Off} {i : Nat} {o : Off} (h : os[i]? = some o) (hp : p o = true) (hl : ∀ j q, j < i → os[j]? = some q → p q = false) : firstO p os = i := by
  unfold firstO
  have : os.findIdx? p = some i := by
    rw [List.findIdx?_eq_some_iff_getElem]
    obtain ⟨hi, rfl⟩ := List.getElem?_eq_some_iff.1 h
    exact ⟨hi, hp, fun j hj => by
      have := hl j os[j] hj (List.getElem?_eq_getElem (by omega))
      simpa using this⟩
  rw [this]

theorem firstO_none {p : Off → Bool} {os : List Off} (hl : ∀ o ∈ os, p o = false) : firstO p os = -1 := by
  unfold firstO
  have : os.findIdx? p = none := by
    rw [List.findIdx?_eq_none_iff]
    intro o ho
    rw [hl o ho]
  rw [this]

def sortedO (ms : List Mk) (l : List Art) : List Off := isort ltO (offL ms 0 l)

theorem sorted_len (ms : List Mk) (l : List Art) : (sortedO ms l).length = l.length := by
  unfold sortedO
  rw [isort_len, offL_len]

theorem sorted_mem {ms : List Mk} {l : List Art} (hl : validA l = 0) {o : Off} (h : o ∈ sortedO ms l) : ∃ i a, l[i]? = some a ∧ o = offOf ms i a ∧ o.art = a ∧ o.num = i ∧ o.bits = encBits ms.length (fitA ms a) := by
  have h1 := (isort_perm (lt := ltO) (offL ms 0 l)).mem_iff.1 h
  obtain ⟨i, hi⟩ := List.mem_iff_getElem?.1 h1
  rw [offL_get, Nat.zero_add] at hi
  obtain ⟨a, ha, rfl⟩ := Option.map_eq_some_iff.1 hi
  have hm := List.mem_of_getElem? ha
  have hp := ((validA_len hl).2 a hm).2
  have hil : i < l.length := (List.getElem?_eq_some_iff.1 ha).1
  have h5 := (validA_len hl).1
  have e1 : offOf ms i a = ⟨a, i, encBits ms.length (fitA ms a), hp, by omega⟩ := by
    unfold offOf
    rw [dif_pos ⟨hp, by omega⟩]
  exact ⟨i, a, ha, rfl, by rw [e1], by rw [e1], by rw [e1]⟩

theorem fits_off {ms : List Mk} {l : List Art} {i : Nat} {a : Art} (ha : l[i]? = some a) {x : Nat} (hx : x ≤ ms.length) {o : Off} (hb : o.bits = encBits ms.length (fitA ms a)) : fitsO x o = fitsM ms l x i := by
  unfold fitsO
  rw [hb, bits_get _ _ hx, fitsM_some (by omega) (by simpa using ha)]

theorem first_pick {ms : List Mk} {l : List Art} (hl : validA l = 0) {x : Nat} (hx : x ≤ ms.length) :
    (firstO (fitsO x) (sortedO ms l) = -1 ∧ pickG ms l x l.length = -1) ∨
    ∃ (i : Nat) (o : Off), firstO (fitsO x) (sortedO ms l) = i ∧ (sortedO ms l)[i]? = some o ∧ pickG ms l x l.length = o.num ∧ lenAt l o.num = o.art.len ∧ 0 ≤ o.num ∧ i < l.length := by
  have hpw : (sortedO ms l).Pairwise fun p q => ¬ ltO q p = true := isort_pairwise ltO_asym ltO_trans _
  cases hf : (sortedO ms l).findIdx? (fitsO x) with
  | none =>
    left
    have hall := List.findIdx?_eq_none_iff.1 hf
    refine ⟨by unfold firstO; rw [hf], pickG_none fun j hj => ?_⟩
    have g1 : l[j]? = some l[j] := List.getElem?_eq_getElem hj
    have hm : offOf ms j l[j] ∈ sortedO ms l := by
      refine (isort_perm (lt := ltO) (offL ms 0 l)).mem_iff.2 (List.mem_iff_getElem?.2 ⟨j, ?_⟩)
      rw [offL_get, g1, Nat.zero_add]; rfl
    have hp := ((validA_len hl).2 l[j] (List.getElem_mem hj)).2
    have h5 := (validA_len hl).1
    have e1 : (offOf ms j l[j]).bits = encBits ms.length (fitA ms l[j]) := by
      unfold offOf
      rw [dif_pos ⟨hp, by omega⟩]
    rw [← fits_off g1 hx e1]
    exact hall _ hm
  | some i =>
    right
    obtain ⟨hi, hp, hb⟩ := List.findIdx?_eq_some_iff_getElem.1 hf
    have g0 : (sortedO ms l)[i]? = some (sortedO ms l)[i] := List.getElem?_eq_getElem hi
    obtain ⟨k, a, ha, ho, ho1, ho2, ho3⟩ := sorted_mem hl (List.getElem_mem hi)
    generalize hO : (sortedO ms l)[i] = o at *
    have hk : k < l.length := (List.getElem?_eq_some_iff.1 ha).1
    have hfk : fitsM ms l x k = true := by rw [← fits_off ha hx ho3]; exact hp
    have hpa : priceAt l k = o.art.price := by unfold priceAt; rw [Int.toNat_natCast, ha, ho1]
    refine ⟨i, o, by unfold firstO; rw [hf], g0, ?_, by unfold lenAt; rw [ho2, Int.toNat_natCast, ha, ho1], by omega, by rw [← sorted_len ms l]; exact hi⟩
    rw [ho2]
    refine pickG_eq hk hfk fun j hj hfj => ?_
    have g1 : l[j]? = some l[j] := List.getElem?_eq_getElem hj
    have hm : offOf ms j l[j] ∈ sortedO ms l := by
      refine (isort_perm (lt := ltO) (offL ms 0 l)).mem_iff.2 (List.mem_iff_getElem?.2 ⟨j, ?_⟩)
      rw [offL_get, g1, Nat.zero_add]; rfl
    have hpj := ((validA_len hl).2 l[j] (List.getElem_mem hj)).2
    have h5 := (validA_len hl).1
    have e1 : offOf ms j l[j] = ⟨l[j], j, encBits ms.length (fitA ms l[j]), hpj, by omega⟩ := by
      unfold offOf
      rw [dif_pos ⟨hpj, by omega⟩]
    have hpr : priceAt l j = (offOf ms j l[j]).art.price := by unfold priceAt; rw [Int.toNat_natCast, g1, e1]
    have hnm : (offOf ms j l[j]).num = j := by rw [e1]
    have hfo : fitsO x (offOf ms j l[j]) = true := by rw [fits_off g1 hx (by rw [e1])]; exact hfj
    obtain ⟨m, hmi⟩ := List.mem_iff_getElem?.1 hm
    obtain ⟨hml, hme⟩ := List.getElem?_eq_some_iff.1 hmi
    rcases Nat.lt_trichotomy m i with h1 | h1 | h1
    · have := hb m h1
      rw [hme] at this
      rw [hfo] at this
      simp at this
    · subst h1
      rw [hO] at hme
      right
      have e2 : o.num = j := by rw [hme]; exact hnm
      rw [hpa, hpr, ← hme]
      exact ⟨rfl, by omega⟩
    · have h2 := List.pairwise_iff_getElem.1 hpw i m hi hml h1
      rw [hme, hO, ltO_iff] at h2
      rw [hpa, hpr]
      omega

end Go.AM.C

