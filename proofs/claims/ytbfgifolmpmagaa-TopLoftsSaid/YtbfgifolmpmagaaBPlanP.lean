/-
The plan of loads (plain): what is planned, and that without rest it is accepted.
-/
import Derived.Test.YtbfgifolmpmagaaBAccP
import Derived.Test.YtbfgifolmpmagaaAmSortB
set_option linter.unusedVariables false
set_option linter.unusedSimpArgs false

namespace Go.AM.B
open Go Go.AM Go.Proofs

def putM : List Int → Int → List Int
  | [], n => [n]
  | x :: l, n => if x < n then x :: putM l n else n :: x :: l
def ltI : Int → Int → Bool := ltK (fun x => x)
theorem ltI_iff {a b : Int} : ltI a b = true ↔ a < b := by unfold ltI ltK; simp
theorem ins_low {x : Int} : ∀ {l : List Int}, l.Pairwise (fun a b => a ≤ b) → (∀ y ∈ l, x ≤ y) → insM ltI x l = x :: l
  | [], _, _ => rfl
  | y :: l, h, hx => by
    rw [List.pairwise_cons] at h
    rw [insM]
    split
    · rfl
    · rename_i hn
      rw [ltI_iff] at hn
      have h1 := hx y List.mem_cons_self
      obtain rfl : x = y := by omega
      rw [ins_low h.2 h.1]
theorem put_ins {n : Int} : ∀ {l : List Int}, l.Pairwise (fun a b => a ≤ b) → putM l n = insM ltI n l
  | [], _ => rfl
  | x :: l, h => by
    rw [putM, insM]
    rw [List.pairwise_cons] at h
    by_cases h1 : x < n
    · rw [if_pos h1, if_neg (by rw [ltI_iff]; omega), put_ins h.2]
    · rw [if_neg h1]
      by_cases h2 : n < x
      · rw [if_pos (by rw [ltI_iff]; exact h2)]
      · obtain rfl : n = x := by omega
        rw [if_neg (by rw [ltI_iff]; omega), ins_low h.2 h.1]
theorem ltI_asym (x y : Int) (h : ltI x y = true) : ¬ ltI y x = true := ltK_asym _ x y h
theorem ltI_trans (x y z : Int) (h : ¬ ltI y x = true) (h' : ¬ ltI z y = true) : ¬ ltI z x = true := ltK_trans _ x y z h h'
theorem insAll_set : ∀ {l : List Int}, l.Pairwise (fun a b => a < b) → insAll ltI l = l := by
  intro l
  induction l using snoc_ind with
  | h0 => intro _; rfl
  | h1 l x ih =>
    intro h
    obtain ⟨h1, _, h2⟩ := List.pairwise_append.1 h
    rw [insAll_snoc, ih h1, insM_all]
    intro y hy
    rw [ltI_iff]
    have := h2 y hy x (by simp)
    omega
theorem put_sort {l : List Int} (h : l.Pairwise (fun a b => a < b)) (n : Int) : isort ltI (l ++ [n]) = putM l n := by
  rw [isort_ins ltI_asym ltI_trans, insAll_snoc, insAll_set h, put_ins (h.imp fun {a b} h => by omega)]

theorem setFrom_iff {n : Int} : ∀ {l : List Int} {p : Int}, setFrom n p l = true ↔ (∀ x ∈ l, p < x ∧ 0 ≤ x ∧ x < n) ∧ l.Pairwise (fun a b => a < b)
  | [], p => by simp [setFrom]
  | x :: l, p => by
    simp only [setFrom, Bool.and_eq_true, inB_iff, decide_eq_true_eq, setFrom_iff (l := l), List.pairwise_cons, List.mem_cons]
    constructor
    · rintro ⟨⟨h1, h2⟩, h3, h4⟩
      refine ⟨?_, fun y hy => (h3 y hy).1, h4⟩
      rintro y (rfl | hy)
      · omega
      · have := h3 y hy; omega
    · rintro ⟨h1, h2, h3⟩
      have := h1 x (.inl rfl)
      exact ⟨by omega, fun y hy => ⟨h2 y hy, (h1 y (.inr hy)).2⟩, h3⟩
theorem isSet_iff {n : Int} {l : List Int} : isSetM l n = true ↔ (∀ x ∈ l, 0 ≤ x ∧ x < n) ∧ l.Pairwise (fun a b => a < b) := by
  unfold isSetM
  rw [setFrom_iff]
  constructor
  · rintro ⟨h1, h2⟩; exact ⟨fun x hx => (h1 x hx).2, h2⟩
  · rintro ⟨h1, h2⟩; exact ⟨fun x hx => by have := h1 x hx; omega, h2⟩
theorem put_mem {n z : Int} : ∀ {l : List Int}, z ∈ putM l n ↔ z = n ∨ z ∈ l
  | [] => by simp [putM]
  | x :: l => by
    rw [putM]
    split
    · rw [List.mem_cons, put_mem, List.mem_cons]
      constructor
      · rintro (h | h | h)
        · exact .inr (.inl h)
        · exact .inl h
        · exact .inr (.inr h)
      · rintro (h | h | h)
        · exact .inr (.inl h)
        · exact .inl h
        · exact .inr (.inr h)
    · rw [List.mem_cons]
theorem put_set {n : Int} : ∀ {l : List Int}, l.Pairwise (fun a b => a < b) → n ∉ l → (putM l n).Pairwise (fun a b => a < b)
  | [], _, _ => by simp [putM]
  | x :: l, h, hn => by
    have h' := List.pairwise_cons.1 h
    rw [List.mem_cons, not_or] at hn
    rw [putM]
    split
    · rename_i hx
      refine List.pairwise_cons.2 ⟨fun z hz => ?_, put_set h'.2 hn.2⟩
      rcases put_mem.1 hz with rfl | hz
      · exact hx
      · exact h'.1 z hz
    · rename_i hx
      refine List.pairwise_cons.2 ⟨fun z hz => ?_, h⟩
      rcases List.mem_cons.1 hz with rfl | hz
      · omega
      · have := h'.1 z hz; omega
theorem put_len (n : Int) : ∀ l : List Int, (putM l n).length = l.length + 1
  | [] => rfl
  | x :: l => by
    rw [putM]
    split
    · rw [List.length_cons, put_len n l, List.length_cons]
    · rfl
theorem set_len {n : Nat} : ∀ {l : List Int} {p : Int}, -1 ≤ p → p < n → (∀ x ∈ l, p < x ∧ x < n) → l.Pairwise (fun a b => a < b) → (l.length : Int) ≤ n - 1 - p
  | [], p, h1, h2, _, _ => by rw [List.length_nil]; omega
  | x :: l, p, h1, h2, hx, h => by
    have a := hx x List.mem_cons_self
    rw [List.pairwise_cons] at h
    have := set_len (n := n) (l := l) (p := x) (by omega) a.2 (fun y hy => ⟨h.1 y hy, (hx y (List.mem_cons_of_mem _ hy)).2⟩) h.2
    rw [List.length_cons]
    omega
theorem isSet_len {n : Nat} {l : List Int} (h : isSetM l n = true) : l.length ≤ n := by
  obtain ⟨h1, h2⟩ := isSet_iff.1 h
  cases l with
  | nil => exact Nat.zero_le _
  | cons x r =>
    have := h1 x List.mem_cons_self
    have := set_len (n := n) (p := -1) (by omega) (by omega) (fun y hy => by have := h1 y hy; omega) h2
    omega

def addL (x : Load) (n : Int) : Load := ⟨x.loft, x.start, x.heats, putM x.goods n⟩
def takes (l : List Loft) (gs : List Goods) (n : Int) (x : Load) : Bool := decide (aloneM l gs (seeM l gs (addL x n)) = 0)
def startM (ks : List Load) (i len : Int) : Nat → Int → Int
  | 0, s => s
  | k + 1, s => if takenM ks i s (s + len) = true then startM ks i len k (s + 1) else s
def beginM (gs : List Goods) (ks : List Load) (n i : Int) (f : Loft) : Option Load := match progS f (goodAt gs n).need (goodAt gs n).most with
  | some h => if (goodAt gs n).poles ≤ f.poles ∧ startM ks i h.length 200 (goodAt gs n).ready + h.length ≤ (goodAt gs n).due then some ⟨i, startM ks i h.length 200 (goodAt gs n).ready, h, [n]⟩ else none
  | none => none
def better (b o : Option Load) : Option Load := match o with
  | none => b
  | some x => match b with
    | none => some x
    | some y => if endM x < endM y then some x else some y
def freshM (l : List Loft) (gs : List Goods) (ks : List Load) (n : Int) : Option Load := l.zipIdx.foldl (fun b p => better b (beginM gs ks n p.2 p.1)) none
def stepM (l : List Loft) (gs : List Goods) (p : List Load × List Int) (n : Int) : List Load × List Int := match p.1[(idxF (takes l gs n) 0 p.1).toNat]? with
  | some x => if 0 ≤ idxF (takes l gs n) 0 p.1 then (p.1.set (idxF (takes l gs n) 0 p.1).toNat (addL x n), p.2) else match freshM l gs p.1 n with
    | some y => (p.1 ++ [y], p.2)
    | none => (p.1, p.2 ++ [n])
  | none => match freshM l gs p.1 n with
    | some y => (p.1 ++ [y], p.2)
    | none => (p.1, p.2 ++ [n])
def ixs (n : Nat) : List Int := (List.range n).map fun i : Nat => (i : Int)
def orderM (gs : List Goods) : List Int := isort (ltK fun n => (goodAt gs n).due) (ixs gs.length)
def planP (l : List Loft) (gs : List Goods) : List Load × List Int := (orderM gs).foldl (stepM l gs) ([], [])

theorem freshM_snoc (l : List Loft) (f : Loft) (gs : List Goods) (ks : List Load) (n : Int) : freshM (l ++ [f]) gs ks n = better (freshM l gs ks n) (beginM gs ks n l.length f) := by
  unfold freshM
  rw [List.zipIdx_append, List.foldl_append]
  simp
theorem idxF_get {α : Type} {q : α → Bool} : ∀ (l : List α) (i : Nat), 0 ≤ idxF q i l → ∃ A x B, l = A ++ x :: B ∧ q x = true ∧ idxF q i l = (i : Int) + A.length
  | [], i, h => by rw [idxF] at h; omega
  | x :: l, i, h => by
    rw [idxF] at h ⊢
    split
    · rename_i hx
      exact ⟨[], x, l, rfl, hx, by simp⟩
    · rename_i hx
      rw [if_neg hx] at h
      obtain ⟨A, y, B, rfl, hy, e⟩ := idxF_get l (i + 1) h
      exact ⟨x :: A, y, B, rfl, hy, by rw [e, List.length_cons]; omega⟩
theorem step_cases (l : List Loft) (gs : List Goods) (ks : List Load) (left : List Int) (n : Int) :
    (∃ A x B, ks = A ++ x :: B ∧ takes l gs n x = true ∧ idxF (takes l gs n) 0 ks = (A.length : Int) ∧ stepM l gs (ks, left) n = (A ++ addL x n :: B, left)) ∨
    (¬ 0 ≤ idxF (takes l gs n) 0 ks ∧ ∃ y, freshM l gs ks n = some y ∧ stepM l gs (ks, left) n = (ks ++ [y], left)) ∨
    (¬ 0 ≤ idxF (takes l gs n) 0 ks ∧ freshM l gs ks n = none ∧ stepM l gs (ks, left) n = (ks, left ++ [n])) := by
  by_cases h : 0 ≤ idxF (takes l gs n) 0 ks
  · obtain ⟨A, x, B, hk, hq, e⟩ := idxF_get ks 0 h
    refine .inl ⟨A, x, B, hk, hq, by omega, ?_⟩
    have e1 : (idxF (takes l gs n) 0 ks).toNat = A.length := by omega
    unfold stepM
    dsimp only
    rw [e1, hk, List.getElem?_append_right (Nat.le_refl _), Nat.sub_self]
    simp only [List.getElem?_cons_zero]
    rw [if_pos (by rw [← hk]; exact h), List.set_append_right _ _ (Nat.le_refl _), Nat.sub_self]
    rfl
  · refine .inr ?_
    have e : stepM l gs (ks, left) n = match freshM l gs ks n with
      | some y => (ks ++ [y], left)
      | none => (ks, left ++ [n]) := by
      unfold stepM
      dsimp only
      split
      · rw [if_neg h]
      · rfl
    rw [e]
    cases hf : freshM l gs ks n with
    | some y => exact .inl ⟨h, y, rfl, rfl⟩
    | none => exact .inr ⟨h, rfl, rfl⟩

structure Made (l : List Loft) (gs : List Goods) (pre : List Int) (ks : List Load) (left : List Int) : Prop where
  each : ∀ x ∈ ks, Sound l gs x
  apart : ks.Pairwise (Apart l gs)
  sub : ∀ x ∈ ks, ∀ n ∈ x.goods, n ∈ pre
  subl : ∀ n ∈ left, n ∈ pre
  all : ∀ n ∈ pre, n ∈ left ∨ loadedM ks n = true
  sep : ∀ n ∈ left, loadedM ks n = false

theorem start_ge (ks : List Load) (i len : Int) : ∀ (k : Nat) (s : Int), s ≤ startM ks i len k s
  | 0, s => Int.le_refl _
  | k + 1, s => by
    rw [startM]
    split
    · have := start_ge ks i len k (s + 1); omega
    · exact Int.le_refl _
theorem start_free {ks : List Load} {i len : Int} (he : ∀ x ∈ ks, endM x ≤ 60) : ∀ (k : Nat) (s : Int), 60 ≤ s + k → takenM ks i (startM ks i len k s) (startM ks i len k s + len) = false
  | 0, s, h => by
    rw [startM]
    unfold takenM
    rw [List.any_eq_false]
    intro x hx hc
    have := he x hx
    unfold meetsM at hc
    simp only [Bool.and_eq_true, decide_eq_true_eq] at hc
    omega
  | k + 1, s, h => by
    rw [startM]
    split
    · exact start_free he k (s + 1) (by omega)
    · rename_i hn
      simpa using hn
theorem sound_end {l : List Loft} {gs : List Goods} (hg : ∀ g ∈ gs, goodsOk g = true) {x : Load} (h : Sound l gs x) : endM x ≤ 60 := by
  have := h.some'
  cases hx : x.goods with
  | nil => exact absurd hx this
  | cons n r =>
    have hn : n ∈ x.goods := by rw [hx]; exact List.mem_cons_self
    have h1 := h.due n hn
    have h2 := goodsOk_iff.1 (hg _ (goodAt_mem (goods_good h hn)))
    omega
theorem fresh_some {l : List Loft} {gs : List Goods} {ks : List Load} {n : Int} {y : Load} (h : freshM l gs ks n = some y) : ∃ i : Nat, ∃ f, l[i]? = some f ∧ beginM gs ks n i f = some y := by
  have : ∀ (ps : List (Loft × Nat)) (b : Option Load), ps.foldl (fun b p => better b (beginM gs ks n p.2 p.1)) b = some y → b = some y ∨ ∃ p ∈ ps, beginM gs ks n p.2 p.1 = some y := by
    intro ps
    induction ps with
    | nil => intro b hb; exact .inl hb
    | cons p ps ih =>
      intro b hb
      rcases ih _ hb with h1 | ⟨q, hq, h1⟩
      · dsimp only at h1
        unfold better at h1
        split at h1
        · exact .inl h1
        · rename_i x hx
          split at h1
          · exact .inr ⟨p, List.mem_cons_self, by rw [hx, h1]⟩
          · split at h1
            · exact .inr ⟨p, List.mem_cons_self, by rw [hx, h1]⟩
            · exact .inl h1
      · exact .inr ⟨q, List.mem_cons_of_mem _ hq, h1⟩
  rcases this _ _ h with h1 | ⟨⟨f, i⟩, hp, h1⟩
  · cases h1
  · exact ⟨i, f, List.mem_zipIdx_iff_getElem?.1 hp, h1⟩

theorem step_made {l : List Loft} {gs : List Goods} (hl : ∀ f ∈ l, loftOk f = true) (hg : ∀ g ∈ gs, goodsOk g = true) {pre left : List Int} {ks : List Load} (h : Made l gs pre ks left) {n : Int} (hn : 0 ≤ n ∧ n < gs.length) (hnew : n ∉ pre) :
    Made l gs (pre ++ [n]) (stepM l gs (ks, left) n).1 (stepM l gs (ks, left) n).2 := by
  have notin : ∀ x ∈ ks, n ∉ x.goods := fun x hx hm => hnew (h.sub x hx n hm)
  rcases step_cases l gs ks left n with ⟨A, x, B, rfl, hq, _, e⟩ | ⟨_, y, hf, e⟩ | ⟨_, hf, e⟩
  · rw [e]
    dsimp only
    have sx := h.each x (by simp)
    have hxn := notin x (by simp)
    obtain ⟨s1, s2⟩ := isSet_iff.1 sx.set
    have al := alone_iff.1 (of_decide_eq_true hq)
    have memA : ∀ z, z ∈ A ++ addL x n :: B ↔ z = addL x n ∨ z ∈ A ∨ z ∈ B := fun z => by
      rw [List.mem_append, List.mem_cons]
      constructor
      · rintro (h | h | h)
        · exact .inr (.inl h)
        · exact .inl h
        · exact .inr (.inr h)
      · rintro (h | h | h)
        · exact .inr (.inl h)
        · exact .inl h
        · exact .inr (.inr h)
    have old : ∀ z, z ∈ A ∨ z ∈ B → z ∈ A ++ x :: B := fun z hz => by
      rw [List.mem_append, List.mem_cons]
      rcases hz with hz | hz
      · exact .inl hz
      · exact .inr (.inr hz)
    have sAdd : Sound l gs (addL x n) := {
      loft := sx.loft, start := sx.start, heats := sx.heats
      some' := fun e => by have : n ∈ (addL x n).goods := put_mem.2 (.inl rfl); rw [e] at this; cases this
      set := isSet_iff.2 ⟨fun z hz => by
        rcases put_mem.1 hz with rfl | hz
        · exact hn
        · exact s1 z hz, put_set s2 hxn⟩
      room := al.1, ready := al.2.1, warm := al.2.2.1, due := al.2.2.2 }
    have hap := List.pairwise_append.1 h.apart
    have hcons := List.pairwise_cons.1 hap.2.1
    refine ⟨fun z hz => ?_, ?_, fun z hz m hm => ?_, fun m hm => List.mem_append_left _ (h.subl m hm), fun m hm => ?_, fun m hm => ?_⟩
    · rcases (memA z).1 hz with rfl | hz
      · exact sAdd
      · exact h.each z (old z hz)
    · refine List.pairwise_append.2 ⟨hap.1, List.pairwise_cons.2 ⟨fun z hz => ?_, hcons.2⟩, fun y hy z hz => ?_⟩
      · obtain ⟨p1, p2⟩ := hcons.1 z hz
        refine ⟨p1, fun m hm hm2 => ?_⟩
        rcases put_mem.1 hm2 with rfl | hm2
        · exact notin z (by simp [hz]) hm
        · exact p2 m hm hm2
      · rcases List.mem_cons.1 hz with rfl | hz
        · obtain ⟨p1, p2⟩ := hap.2.2 y hy x List.mem_cons_self
          refine ⟨p1, fun m hm hm2 => ?_⟩
          rcases put_mem.1 hm with rfl | hm
          · exact notin y (by simp [hy]) hm2
          · exact p2 m hm hm2
        · exact hap.2.2 y hy z (List.mem_cons_of_mem _ hz)
    · rw [List.mem_append]
      rcases (memA z).1 hz with rfl | hz
      · rcases put_mem.1 hm with rfl | hm
        · exact .inr (by simp)
        · exact .inl (h.sub x (by simp) m hm)
      · exact .inl (h.sub z (old z hz) m hm)
    · rcases List.mem_append.1 hm with hm | hm
      · rcases h.all m hm with h1 | h1
        · exact .inl h1
        · obtain ⟨z, hz, hm2⟩ := loadedM_iff.1 h1
          refine .inr (loadedM_iff.2 ?_)
          rw [List.mem_append, List.mem_cons] at hz
          rcases hz with hz | rfl | hz
          · exact ⟨z, (memA z).2 (.inr (.inl hz)), hm2⟩
          · exact ⟨addL z n, (memA _).2 (.inl rfl), put_mem.2 (.inr hm2)⟩
          · exact ⟨z, (memA z).2 (.inr (.inr hz)), hm2⟩
      · rw [List.mem_singleton.1 hm]
        exact .inr (loadedM_iff.2 ⟨addL x n, (memA _).2 (.inl rfl), put_mem.2 (.inl rfl)⟩)
    · cases hc : loadedM (A ++ addL x n :: B) m with
      | false => rfl
      | true =>
        exfalso
        obtain ⟨z, hz, hm2⟩ := loadedM_iff.1 hc
        have h0 := h.sep m hm
        have no : ¬ ∃ z ∈ A ++ x :: B, m ∈ z.goods := fun hx => by rw [loadedM_iff.2 hx] at h0; cases h0
        rcases (memA z).1 hz with rfl | hz
        · rcases put_mem.1 hm2 with rfl | hm2
          · exact hnew (h.subl _ hm)
          · exact no ⟨x, by simp, hm2⟩
        · exact no ⟨z, old z hz, hm2⟩
  · rw [e]
    dsimp only
    obtain ⟨i, f, hif, hb⟩ := fresh_some hf
    have hil : i < l.length := (List.getElem?_eq_some_iff.1 hif).1
    have hfl := hl f (List.mem_of_getElem? hif)
    have gk := goodsOk_iff.1 (hg _ (goodAt_mem hn))
    have hends : ∀ x ∈ ks, endM x ≤ 60 := fun x hx => sound_end hg (h.each x hx)
    have lf : loftAt l (i : Int) = f := by
      unfold loftAt
      rw [Int.toNat_natCast, hif]
      rfl
    unfold beginM at hb
    cases hp : progS f (goodAt gs n).need (goodAt gs n).most with
    | none => rw [hp] at hb; cases hb
    | some hs =>
    rw [hp] at hb
    dsimp only at hb
    split at hb
    · rename_i hc
      obtain ⟨c1, c2⟩ := hc
      have hy := Option.some.inj hb
      obtain ⟨q1, q2, q3, q4⟩ := prog_right hfl 12 1 hs (Nat.le_refl _) hp
      have g1 := start_ge ks (i : Int) (hs.length : Int) 200 (goodAt gs n).ready
      have g2 := start_free (i := (i : Int)) (len := (hs.length : Int)) hends 200 (goodAt gs n).ready (by omega)
      generalize startM ks (i : Int) (hs.length : Int) 200 (goodAt gs n).ready = s at *
      subst hy
      have sY : Sound l gs ⟨(i : Int), s, hs, [n]⟩ := {
        loft := ⟨by dsimp only; omega, by dsimp only; omega⟩
        start := ⟨by dsimp only; omega, by dsimp only; omega⟩
        heats := validHs_iff.2 ⟨by dsimp only; omega, q1⟩
        some' := by simp
        set := isSet_iff.2 ⟨fun z hz => by rw [List.mem_singleton.1 hz]; exact hn, by simp⟩
        room := by
          dsimp only
          rw [lf]
          have : polesM gs [n] = polesOf gs n := by simp [polesM]
          rw [this, polesOf_good hn.1 hn.2]
          exact c1
        ready := fun z hz => by rw [List.mem_singleton.1 hz]; exact g1
        warm := fun z hz => by
          rw [List.mem_singleton.1 hz]
          dsimp only
          rw [lf]
          exact ⟨q3, q4⟩
        due := fun z hz => by rw [List.mem_singleton.1 hz]; exact c2 }
      refine ⟨fun z hz => ?_, ?_, fun z hz m hm => ?_, fun m hm => List.mem_append_left _ (h.subl m hm), fun m hm => ?_, fun m hm => ?_⟩
      · rcases List.mem_append.1 hz with hz | hz
        · exact h.each z hz
        · rw [List.mem_singleton.1 hz]; exact sY
      · refine List.pairwise_append.2 ⟨h.apart, by simp, fun y hy z hz => ?_⟩
        rw [List.mem_singleton.1 hz]
        constructor
        · have e := taken_meets l gs ks ⟨(i : Int), s, hs, [n]⟩
          have e2 : takenM ks (i : Int) s (endM ⟨(i : Int), s, hs, [n]⟩) = false := g2
          dsimp only at e
          rw [e2] at e
          cases hc : meetsK (seeM l gs ⟨(i : Int), s, hs, [n]⟩) (seeM l gs y) with
          | false => rfl
          | true =>
            rw [List.any_eq_true.2 ⟨seeM l gs y, List.mem_map.2 ⟨y, hy, rfl⟩, hc⟩] at e
            cases e
        · intro m hm
          rw [List.mem_singleton.1 hm]
          exact notin y hy
      · rw [List.mem_append]
        rcases List.mem_append.1 hz with hz | hz
        · exact .inl (h.sub z hz m hm)
        · rw [List.mem_singleton.1 hz] at hm
          exact .inr hm
      · rcases List.mem_append.1 hm with hm | hm
        · rcases h.all m hm with h1 | h1
          · exact .inl h1
          · obtain ⟨z, hz, hm2⟩ := loadedM_iff.1 h1
            exact .inr (loadedM_iff.2 ⟨z, List.mem_append_left _ hz, hm2⟩)
        · rw [List.mem_singleton.1 hm]
          exact .inr (loadedM_iff.2 ⟨⟨(i : Int), s, hs, [n]⟩, List.mem_append_right _ (List.mem_singleton.2 rfl), List.mem_singleton.2 rfl⟩)
      · cases hc : loadedM (ks ++ [⟨(i : Int), s, hs, [n]⟩]) m with
        | false => rfl
        | true =>
          exfalso
          obtain ⟨z, hz, hm2⟩ := loadedM_iff.1 hc
          rcases List.mem_append.1 hz with hz | hz
          · have h0 := h.sep m hm
            rw [loadedM_iff.2 ⟨z, hz, hm2⟩] at h0
            cases h0
          · rw [List.mem_singleton.1 hz] at hm2
            rw [List.mem_singleton.1 hm2] at hm
            exact hnew (h.subl _ hm)
    · cases hb
  · rw [e]
    dsimp only
    refine ⟨h.each, h.apart, fun z hz m hm => List.mem_append_left _ (h.sub z hz m hm), fun m hm => ?_, fun m hm => ?_, fun m hm => ?_⟩
    · rw [List.mem_append]
      rcases List.mem_append.1 hm with hm | hm
      · exact .inl (h.subl m hm)
      · exact .inr hm
    · rcases List.mem_append.1 hm with hm | hm
      · rcases h.all m hm with h1 | h1
        · exact .inl (List.mem_append_left _ h1)
        · exact .inr h1
      · exact .inl (List.mem_append_right _ hm)
    · rcases List.mem_append.1 hm with hm | hm
      · exact h.sep m hm
      · rw [List.mem_singleton.1 hm]
        cases hc : loadedM ks n with
        | false => rfl
        | true =>
          obtain ⟨z, hz, hm2⟩ := loadedM_iff.1 hc
          exact absurd hm2 (notin z hz)

theorem order_perm (gs : List Goods) : (orderM gs).Perm (ixs gs.length) := isort_perm _
theorem ixs_mem {n : Nat} {x : Int} : x ∈ ixs n ↔ 0 ≤ x ∧ x < n := by
  unfold ixs
  rw [List.mem_map]
  constructor
  · rintro ⟨i, hi, rfl⟩
    have := List.mem_range.1 hi
    omega
  · rintro ⟨h1, h2⟩
    exact ⟨x.toNat, List.mem_range.2 (by omega), by omega⟩
theorem ixs_nodup (n : Nat) : (ixs n).Nodup := by
  unfold ixs
  refine List.Pairwise.map _ ?_ List.nodup_range
  intro a b h
  omega
theorem order_mem {gs : List Goods} {x : Int} : x ∈ orderM gs ↔ 0 ≤ x ∧ x < gs.length := by rw [(order_perm gs).mem_iff, ixs_mem]
theorem order_nodup (gs : List Goods) : (orderM gs).Nodup := (order_perm gs).nodup_iff.2 (ixs_nodup _)
theorem order_len (gs : List Goods) : (orderM gs).length = gs.length := by rw [(order_perm gs).length_eq]; simp [ixs]

def planFrom (l : List Loft) (gs : List Goods) (pre : List Int) : List Load × List Int := pre.foldl (stepM l gs) ([], [])
theorem planFrom_snoc (l : List Loft) (gs : List Goods) (pre : List Int) (n : Int) : planFrom l gs (pre ++ [n]) = stepM l gs (planFrom l gs pre) n := by simp [planFrom]
theorem plan_made {l : List Loft} {gs : List Goods} (hl : ∀ f ∈ l, loftOk f = true) (hg : ∀ g ∈ gs, goodsOk g = true) : ∀ (pre post : List Int), orderM gs = pre ++ post → Made l gs pre (planFrom l gs pre).1 (planFrom l gs pre).2 := by
  intro pre
  induction pre using snoc_ind with
  | h0 => intro post _; exact ⟨fun _ h => (by cases h), List.Pairwise.nil, fun _ h => (by cases h), fun _ h => (by cases h), fun _ h => (by cases h), fun _ h => (by cases h)⟩
  | h1 pre n ih =>
    intro post h
    have h' : orderM gs = pre ++ (n :: post) := by rw [h]; simp
    rw [planFrom_snoc]
    have hn : n ∈ orderM gs := by rw [h']; simp
    have hnd := order_nodup gs
    rw [h'] at hnd
    exact step_made hl hg (ih _ h') (order_mem.1 hn) fun hm => (List.nodup_append.1 hnd).2.2 n hm n List.mem_cons_self rfl

theorem plan_acc {l : List Loft} {gs : List Goods} (hb : bothE l gs = 0) : checkM l gs (planP l gs).1 = 0 ↔ (planP l gs).2 = [] := by
  obtain ⟨hl, _, hg, _⟩ := both_facts hb
  have m : Made l gs (orderM gs) (planP l gs).1 (planP l gs).2 := plan_made hl hg (orderM gs) [] (by simp)
  rw [check_iff]
  constructor
  · rintro ⟨_, ha⟩
    cases hL : (planP l gs).2 with
    | nil => rfl
    | cons n r =>
      exfalso
      have hn : n ∈ (planP l gs).2 := by rw [hL]; exact List.mem_cons_self
      have h1 := m.sep n hn
      have h2 := order_mem.1 (m.subl n hn)
      have h3 := ha.all n.toNat (by omega)
      rw [show ((n.toNat : Nat) : Int) = n by omega, h1] at h3
      cases h3
  · intro hL
    refine ⟨hb, fun x hx => by_iff.2 (m.each x hx), m.apart, fun i hi => ?_⟩
    rcases m.all (i : Int) (order_mem.2 ⟨by omega, by omega⟩) with h | h
    · rw [hL] at h; cases h
    · exact h
end Go.AM.B

