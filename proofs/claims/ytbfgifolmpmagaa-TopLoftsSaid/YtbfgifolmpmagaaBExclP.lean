/-
Beside a proof no plan is accepted (plain).
-/
import Derived.Test.YtbfgifolmpmagaaBAccP
set_option linter.unusedVariables false
set_option linter.unusedSimpArgs false

namespace Go.AM.B
open Go Go.AM Go.Proofs

section
variable {α β : Type}
def sm (f : α → Int) (l : List α) : Int := (l.map f).sum
theorem sm_nil (f : α → Int) : sm f [] = 0 := rfl
theorem sm_cons (f : α → Int) (x : α) (l : List α) : sm f (x :: l) = f x + sm f l := by simp [sm]
theorem sm_app (f : α → Int) (l r : List α) : sm f (l ++ r) = sm f l + sm f r := by simp [sm]
theorem sm_le {f g : α → Int} : ∀ {l : List α}, (∀ x ∈ l, f x ≤ g x) → sm f l ≤ sm g l
  | [], _ => Int.le_refl _
  | x :: l, h => by
    rw [sm_cons, sm_cons]
    have := sm_le fun y hy => h y (List.mem_cons_of_mem _ hy)
    have := h x List.mem_cons_self
    omega
theorem sm_add (f g : α → Int) : ∀ l : List α, sm (fun x => f x + g x) l = sm f l + sm g l
  | [] => rfl
  | x :: l => by rw [sm_cons, sm_cons, sm_cons, sm_add f g l]; omega
theorem sm_mul (c : Int) (f : α → Int) : ∀ l : List α, sm (fun x => c * f x) l = c * sm f l
  | [] => by rw [sm_nil, sm_nil, Int.mul_zero]
  | x :: l => by rw [sm_cons, sm_cons, sm_mul c f l, Int.mul_add]
theorem sm_zero : ∀ l : List α, sm (fun _ => 0) l = 0
  | [] => rfl
  | x :: l => by rw [sm_cons, sm_zero l]; rfl
theorem sm_nonneg {f : α → Int} {l : List α} (h : ∀ x ∈ l, 0 ≤ f x) : 0 ≤ sm f l := by
  have := sm_le (f := fun _ => 0) h
  rwa [sm_zero] at this
theorem sm_mem {f : α → Int} {l : List α} (h : ∀ x ∈ l, 0 ≤ f x) {x : α} (hx : x ∈ l) : f x ≤ sm f l := by
  induction l with
  | nil => cases hx
  | cons y l ih =>
    rw [sm_cons]
    have h0 := h y List.mem_cons_self
    have h1 := sm_nonneg fun z hz => h z (List.mem_cons_of_mem _ hz)
    rcases List.mem_cons.1 hx with rfl | hx
    · omega
    · have := ih (fun z hz => h z (List.mem_cons_of_mem _ hz)) hx
      omega
theorem sm_perm {f : α → Int} {l r : List α} (h : l.Perm r) : sm f l = sm f r := by
  induction h with
  | nil => rfl
  | cons x _ ih => rw [sm_cons, sm_cons, ih]
  | swap x y l => rw [sm_cons, sm_cons, sm_cons, sm_cons]; omega
  | trans _ _ h1 h2 => rw [h1, h2]
theorem sm_flat (f : β → Int) (g : α → List β) : ∀ l : List α, sm f (l.flatMap g) = sm (fun x => sm f (g x)) l
  | [] => rfl
  | x :: l => by rw [List.flatMap_cons, sm_app, sm_cons, sm_flat f g l]
theorem sm_map (f : β → Int) (g : α → β) (l : List α) : sm f (l.map g) = sm (fun x => f (g x)) l := by
  unfold sm
  rw [List.map_map]
  rfl
theorem sm_swap (F : α → β → Int) (I : List β) : ∀ P : List α, sm (fun x => sm (F x) I) P = sm (fun i => sm (fun x => F x i) P) I
  | [] => by
    rw [sm_nil]
    exact (sm_zero I).symm
  | x :: P => by
    rw [sm_cons, sm_swap F I P, ← sm_add]
    rfl
theorem sm_if {f : α → Int} {p : α → Bool} : ∀ l : List α, sm f (l.filter p) = sm (fun x => if p x = true then f x else 0) l
  | [] => rfl
  | x :: l => by
    rw [sm_cons, ← sm_if l, List.filter_cons]
    split
    · rw [sm_cons]
    · rw [Int.zero_add]
end

theorem cover {w : Int → Int} : ∀ (n : Nat) (L : List Int), (∀ i : Nat, i < n → (i : Int) ∈ L) → (∀ x ∈ L, 0 ≤ w x) → sm (fun i : Nat => w i) (List.range n) ≤ sm w L
  | 0, L, _, h => sm_nonneg h
  | n + 1, L, hi, h => by
    have hn := hi n (Nat.lt_succ_self n)
    have e := sm_perm (f := w) (List.perm_cons_erase hn)
    rw [sm_cons] at e
    have ih := cover (w := w) n (L.erase (n : Int)) (fun i hl => (List.mem_erase_of_ne (by omega)).2 (hi i (by omega))) (fun x hx => h x (List.mem_of_mem_erase hx))
    rw [List.range_succ, sm_app, sm_cons, sm_nil, e]
    omega

/-! Spans of days that do not meet. -/
def ovl (a : Int) (k : Nat) (q : Int × Int) : Int := max 0 (min q.2 (a + k) - max q.1 a)
def onDay (d : Int) (q : Int × Int) : Int := if q.1 ≤ d ∧ d < q.2 then 1 else 0
def Off (q r : Int × Int) : Prop := ¬ (r.1 < q.2 ∧ q.1 < r.2)
theorem ovl_succ (a : Int) (k : Nat) (q : Int × Int) : ovl a (k + 1) q = ovl a k q + onDay (a + k) q := by
  unfold ovl onDay
  split <;> omega
theorem one_day (d : Int) : ∀ Q : List (Int × Int), Q.Pairwise Off → sm (onDay d) Q ≤ 1
  | [], _ => by rw [sm_nil]; decide
  | q :: Q, h => by
    rw [List.pairwise_cons] at h
    rw [sm_cons]
    have ih := one_day d Q h.2
    by_cases hc : q.1 ≤ d ∧ d < q.2
    · have e : sm (onDay d) Q ≤ sm (fun _ => 0) Q := sm_le fun r hr => by
        have := h.1 r hr
        unfold Off at this
        unfold onDay
        rw [if_neg (by omega)]
        exact Int.le_refl _
      rw [sm_zero] at e
      have : onDay d q = 1 := if_pos hc
      omega
    · have : onDay d q = 0 := if_neg hc
      omega
theorem spans (a : Int) {Q : List (Int × Int)} (h : Q.Pairwise Off) : ∀ k : Nat, sm (ovl a k) Q ≤ k
  | 0 => by
    have : sm (ovl a 0) Q ≤ sm (fun _ => 0) Q := sm_le fun q _ => by unfold ovl; omega
    rw [sm_zero] at this
    exact this
  | k + 1 => by
    have e : sm (ovl a (k + 1)) Q = sm (ovl a k) Q + sm (onDay (a + k)) Q := by
      rw [← sm_add]
      congr 1
      funext q
      exact ovl_succ a k q
    have h1 := spans a h k
    have h2 := one_day (a + k) Q h
    omega

section
variable {l : List Loft} {gs : List Goods} {P : List Load} {a b : Int}

def inWin (a b : Int) (x : Load) : Bool := decide (a ≤ x.start) && decide (endM x ≤ b)
def wGood (l : List Loft) (gs : List Goods) (a b n : Int) : Int := if inW a b (goodAt gs n) = true then needP l (goodAt gs n) else 0
theorem wGood_pos (hl : ∀ f ∈ l, loftOk f = true) (hg : ∀ g ∈ gs, goodsOk g = true) {n : Int} (hn : 0 ≤ n ∧ n < gs.length) : 0 ≤ wGood l gs a b n := by
  unfold wGood
  split
  · exact (needP_in hl (hg _ (goodAt_mem hn))).1
  · exact Int.le_refl _
theorem gs_range {α : Type} (gs : List α) (d : α) : gs = (List.range gs.length).map fun i : Nat => (gs[((i : Int)).toNat]?).getD d := by
  apply List.ext_getElem
  · simp
  · intro i h1 h2
    simp [h1]
theorem sumW_range : sumW l a b gs = sm (fun i : Nat => wGood l gs a b i) (List.range gs.length) := by
  have e : sumW l a b gs = sm (fun g => if inW a b g = true then needP l g else 0) gs := by
    show sm (needP l) (gs.filter (inW a b)) = _
    rw [sm_if]
  rw [e]
  conv => lhs; rw [gs_range gs ⟨0, 0, 0, 0, 0⟩]
  rw [sm_map]
  rfl
theorem room_range : roomM l a b = sm (fun i : Nat => (loftAt l i).poles * (b - a)) (List.range l.length) := by
  show sm (fun f : Loft => f.poles * (b - a)) l = _
  conv => lhs; rw [gs_range l ⟨0, []⟩]
  rw [sm_map]
  rfl

theorem load_le (hl : ∀ f ∈ l, loftOk f = true) (hg : ∀ g ∈ gs, goodsOk g = true) {x : Load} (h : Sound l gs x) : sm (wGood l gs a b) x.goods ≤ if inWin a b x = true then (x.heats.length : Int) * (loftAt l x.loft).poles else 0 := by
  have inn : ∀ n ∈ x.goods, inW a b (goodAt gs n) = true → inWin a b x = true := fun n hn hw => by
    have h1 := h.ready n hn
    have h2 := h.due n hn
    unfold inW at hw
    simp only [Bool.not_eq_true', Bool.or_eq_false_iff, decide_eq_false_iff_not] at hw
    unfold inWin
    rw [decide_eq_true (show a ≤ x.start by omega), decide_eq_true (show endM x ≤ b by omega)]
    rfl
  by_cases hw : inWin a b x = true
  · rw [if_pos hw]
    have h1 : sm (wGood l gs a b) x.goods ≤ sm (fun n => (x.heats.length : Int) * polesOf gs n) x.goods := sm_le fun n hn => by
      have hn2 := goods_good h hn
      have hp := polesOf_in hg n
      have hr := sound_ripe hl hg h hn
      unfold wGood
      split
      · unfold needP
        rw [polesOf_good hn2.1 hn2.2] at hp ⊢
        rw [Int.mul_comm]
        exact Int.mul_le_mul_of_nonneg_right hr.2 hp.1
      · exact Int.mul_nonneg (by omega) hp.1
    rw [sm_mul] at h1
    have h2 : (x.heats.length : Int) * sm (polesOf gs) x.goods ≤ x.heats.length * (loftAt l x.loft).poles := Int.mul_le_mul_of_nonneg_left h.room (by omega)
    omega
  · rw [if_neg hw]
    have h1 : sm (wGood l gs a b) x.goods ≤ sm (fun _ => 0) x.goods := sm_le fun n hn => by
      unfold wGood
      rw [if_neg fun c => hw (inn n hn c)]
      exact Int.le_refl _
    rwa [sm_zero] at h1

theorem loft_le (ha : P.Pairwise (Apart l gs)) (hab : a ≤ b) (i : Int) : sm (fun x : Load => if x.loft = i ∧ inWin a b x = true then (x.heats.length : Int) else 0) P ≤ b - a := by
  have e : sm (fun x : Load => if x.loft = i ∧ inWin a b x = true then (x.heats.length : Int) else 0) P = sm (fun x : Load => (x.heats.length : Int)) (P.filter fun x => decide (x.loft = i ∧ inWin a b x = true)) := by
    rw [sm_if]
    congr 1
    funext x
    simp only [decide_eq_true_eq]
  rw [e]
  have hq : ((P.filter fun x => decide (x.loft = i ∧ inWin a b x = true)).map fun x => (x.start, endM x)).Pairwise Off := by
    rw [List.pairwise_map]
    refine List.Pairwise.imp_of_mem ?_ (ha.filter _)
    intro x y hx hy hxy
    have hx := of_decide_eq_true (List.mem_filter.1 hx).2
    have hy := of_decide_eq_true (List.mem_filter.1 hy).2
    rintro ⟨h1, h2⟩
    have := hxy.1
    unfold meetsK seeM at this
    dsimp only at this h1 h2
    rw [hx.1, hy.1, decide_eq_true h1, decide_eq_true h2] at this
    simp at this
  have hs := spans a hq (b - a).toNat
  rw [sm_map] at hs
  have h1 : sm (fun x : Load => (x.heats.length : Int)) (P.filter fun x => decide (x.loft = i ∧ inWin a b x = true)) ≤ sm (fun x : Load => ovl a (b - a).toNat (x.start, endM x)) (P.filter fun x => decide (x.loft = i ∧ inWin a b x = true)) := sm_le fun x hx => by
    have hx := (of_decide_eq_true (List.mem_filter.1 hx).2).2
    unfold inWin at hx
    simp only [Bool.and_eq_true, decide_eq_true_eq] at hx
    unfold ovl
    unfold endM at hx ⊢
    dsimp only
    omega
  omega

theorem excl_sum (hl : ∀ f ∈ l, loftOk f = true) (hg : ∀ g ∈ gs, goodsOk g = true) (h : Acc l gs P) (hab : a ≤ b) : sumW l a b gs ≤ roomM l a b := by
  rw [sumW_range, room_range]
  have snd : ∀ x ∈ P, Sound l gs x := fun x hx => by_iff.1 (h.each x hx)
  have h1 := cover (w := wGood l gs a b) gs.length (P.flatMap (·.goods)) (fun i hi => by
    obtain ⟨x, hx, hn⟩ := loadedM_iff.1 (h.all i hi)
    exact List.mem_flatMap.2 ⟨x, hx, hn⟩) (fun n hn => by
    obtain ⟨x, hx, hn⟩ := List.mem_flatMap.1 hn
    exact wGood_pos hl hg (goods_good (snd x hx) hn))
  rw [sm_flat] at h1
  have h2 : sm (fun x : Load => sm (wGood l gs a b) x.goods) P ≤ sm (fun x : Load => sm (fun i : Nat => (loftAt l i).poles * (if x.loft = i ∧ inWin a b x = true then (x.heats.length : Int) else 0)) (List.range l.length)) P := sm_le fun x hx => by
    have s := snd x hx
    refine Int.le_trans (load_le hl hg s) ?_
    have pos : ∀ i ∈ List.range l.length, 0 ≤ (loftAt l ((i : Nat) : Int)).poles * (if x.loft = i ∧ inWin a b x = true then (x.heats.length : Int) else 0) := fun i hi => by
      have := (loftOk_iff.1 (hl _ (loftAt_mem (l := l) (n := i) ⟨by omega, by have := List.mem_range.1 hi; omega⟩))).1
      refine Int.mul_nonneg (by omega) ?_
      split <;> omega
    have hm : x.loft.toNat ∈ List.range l.length := List.mem_range.2 (by have := s.loft; omega)
    have he : ((x.loft.toNat : Nat) : Int) = x.loft := by have := s.loft; omega
    have := sm_mem (f := fun i : Nat => (loftAt l i).poles * (if x.loft = i ∧ inWin a b x = true then (x.heats.length : Int) else 0)) pos hm
    refine Int.le_trans ?_ this
    rw [he]
    by_cases hw : inWin a b x = true
    · rw [if_pos hw, if_pos ⟨rfl, hw⟩, Int.mul_comm]
      exact Int.le_refl _
    · rw [if_neg hw, if_neg fun c => hw c.2, Int.mul_zero]
      exact Int.le_refl _
  rw [sm_swap] at h2
  have h3 : sm (fun i : Nat => sm (fun x : Load => (loftAt l i).poles * (if x.loft = i ∧ inWin a b x = true then (x.heats.length : Int) else 0)) P) (List.range l.length) ≤ sm (fun i : Nat => (loftAt l i).poles * (b - a)) (List.range l.length) := sm_le fun i hi => by
    have hp := (loftOk_iff.1 (hl _ (loftAt_mem (l := l) (n := i) ⟨by omega, by have := List.mem_range.1 hi; omega⟩))).1
    rw [sm_mul]
    exact Int.mul_le_mul_of_nonneg_left (loft_le h.apart hab i) (by omega)
  omega

theorem excludes (hl : ∀ f ∈ l, loftOk f = true) (hg : ∀ g ∈ gs, goodsOk g = true) (h : Acc l gs P) (hab : a ≤ b) : provM l gs a b = false := by
  cases hp : provM l gs a b with
  | false => rfl
  | true =>
    exfalso
    unfold provM at hp
    rw [Bool.or_eq_true] at hp
    rcases hp with hp | hp
    · obtain ⟨g, hgm, hc⟩ := List.any_eq_true.1 hp
      rw [Bool.and_eq_true] at hc
      obtain ⟨i, hi, rfl⟩ := List.mem_iff_getElem.1 hgm
      obtain ⟨x, hx, hn⟩ := loadedM_iff.1 (h.all i hi)
      have hr := (sound_ripe hl hg (by_iff.1 (h.each x hx)) hn).1
      have e : goodAt gs ((i : Nat) : Int) = gs[i] := by
        unfold goodAt
        rw [Int.toNat_natCast, List.getElem?_eq_getElem hi]
        rfl
      rw [e] at hr
      have := hc.2
      unfold never at this
      rw [hr] at this
      cases this
    · have := of_decide_eq_true hp
      have := excl_sum hl hg h hab
      omega
end
end Go.AM.B

