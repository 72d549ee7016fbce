/-
Plans of loads that are accepted (plain): what is known of their loads, and that none is accepted beside a proof.
-/
import Derived.Test.YtbfgifolmpmagaaBCheckG
import Derived.Test.YtbfgifolmpmagaaBProve
set_option linter.unusedVariables false
set_option linter.unusedSimpArgs false

namespace Go.AM.B
open Go Go.AM Go.Proofs

def Apart (l : List Loft) (gs : List Goods) (x y : Load) : Prop := meetsK (seeM l gs y) (seeM l gs x) = false ∧ ∀ n ∈ y.goods, n ∉ x.goods
structure Acc (l : List Loft) (gs : List Goods) (P : List Load) : Prop where
  each : ∀ x ∈ P, byM l gs x = 0
  apart : P.Pairwise (Apart l gs)
  all : ∀ i : Nat, i < gs.length → loadedM P i = true

theorem loadedM_iff {P : List Load} {n : Int} : loadedM P n = true ↔ ∃ x ∈ P, n ∈ x.goods := by
  unfold loadedM
  simp [List.any_eq_true]

theorem check_acc {l : List Loft} {gs : List Goods} : ∀ (r pre : List Load), pre.Pairwise (Apart l gs) → (∀ x ∈ pre, byM l gs x = 0) → checkFrom l gs pre r = 0 → Acc l gs (pre ++ r)
  | [], pre, hp, hb, h => by
    rw [checkFrom] at h
    split at h
    · cases h
    · rename_i hn
      rw [List.append_nil]
      refine ⟨hb, hp, fun i hi => ?_⟩
      cases hl : loadedM pre i with
      | true => rfl
      | false => exact absurd (List.any_eq_true.2 ⟨i, List.mem_range.2 hi, by rw [hl]; rfl⟩) hn
  | x :: r, pre, hp, hb, h => by
    rw [checkFrom] at h
    split at h
    · rename_i hn; exact absurd h hn
    · rename_i hx
      have hx : byM l gs x = 0 := by simpa using hx
      split at h
      · cases h
      · rename_i hd
        split at h
        · cases h
        · rename_i hm
          have := check_acc r (pre ++ [x]) ?_ ?_ h
          · simpa using this
          · refine List.pairwise_append.2 ⟨hp, by simp, fun y hy z hz => ?_⟩
            rw [List.mem_singleton.1 hz]
            constructor
            · cases hc : meetsK (seeM l gs x) (seeM l gs y) with
              | false => rfl
              | true => exact absurd (List.any_eq_true.2 ⟨seeM l gs y, List.mem_map.2 ⟨y, hy, rfl⟩, hc⟩) hm
            · intro n hn hn2
              exact hd (List.any_eq_true.2 ⟨n, hn, loadedM_iff.2 ⟨y, hy, hn2⟩⟩)
          · intro y hy
            rcases List.mem_append.1 hy with hy | hy
            · exact hb y hy
            · rw [List.mem_singleton.1 hy]; exact hx
theorem acc_check {l : List Loft} {gs : List Goods} : ∀ (r pre : List Load), Acc l gs (pre ++ r) → checkFrom l gs pre r = 0
  | [], pre, h => by
    rw [checkFrom, if_neg]
    intro hn
    obtain ⟨i, hi, hl⟩ := List.any_eq_true.1 hn
    have := h.all i (List.mem_range.1 hi)
    rw [List.append_nil] at this
    rw [this] at hl
    cases hl
  | x :: r, pre, h => by
    rw [checkFrom, if_neg (by simpa using h.each x (by simp)), if_neg, if_neg]
    · exact acc_check r (pre ++ [x]) (by simpa using h)
    · intro hm
      obtain ⟨k, hk, hc⟩ := List.any_eq_true.1 hm
      obtain ⟨y, hy, rfl⟩ := List.mem_map.1 hk
      have := ((List.pairwise_append.1 h.apart).2.2 y hy x (by simp)).1
      rw [this] at hc
      cases hc
    · intro hd
      obtain ⟨n, hn, hl⟩ := List.any_eq_true.1 hd
      obtain ⟨y, hy, hn2⟩ := loadedM_iff.1 hl
      exact ((List.pairwise_append.1 h.apart).2.2 y hy x (by simp)).2 n hn hn2
theorem check_iff {l : List Loft} {gs : List Goods} {P : List Load} : checkM l gs P = 0 ↔ bothE l gs = 0 ∧ Acc l gs P := by
  unfold checkM
  constructor
  · intro h
    split at h
    · rename_i hn; exact absurd h hn
    · rename_i hb
      exact ⟨by simpa using hb, check_acc P [] List.Pairwise.nil (fun _ h => by cases h) h⟩
  · rintro ⟨hb, ha⟩
    rw [if_neg (by simpa using hb)]
    exact acc_check P [] ha

structure Sound (l : List Loft) (gs : List Goods) (x : Load) : Prop where
  loft : 0 ≤ x.loft ∧ x.loft < l.length
  start : 0 ≤ x.start ∧ x.start ≤ 60
  heats : validHs x.heats = true
  some' : x.goods ≠ []
  set : isSetM x.goods gs.length = true
  room : polesM gs x.goods ≤ (loftAt l x.loft).poles
  ready : ∀ n ∈ x.goods, (goodAt gs n).ready ≤ x.start
  warm : ∀ n ∈ x.goods, (goodAt gs n).need ≤ warmM (loftAt l x.loft) x.heats ∧ warmM (loftAt l x.loft) x.heats ≤ (goodAt gs n).most
  due : ∀ n ∈ x.goods, endM x ≤ (goodAt gs n).due

theorem alone_iff {l : List Loft} {gs : List Goods} {x : Load} : aloneM l gs (seeM l gs x) = 0 ↔ polesM gs x.goods ≤ (loftAt l x.loft).poles ∧ (∀ n ∈ x.goods, (goodAt gs n).ready ≤ x.start) ∧
    (∀ n ∈ x.goods, (goodAt gs n).need ≤ warmM (loftAt l x.loft) x.heats ∧ warmM (loftAt l x.loft) x.heats ≤ (goodAt gs n).most) ∧ (∀ n ∈ x.goods, endM x ≤ (goodAt gs n).due) := by
  unfold aloneM seeM
  dsimp only
  constructor
  · intro h
    split at h
    · cases h
    · rename_i h1
      split at h
      · cases h
      · rename_i h2
        split at h
        · cases h
        · rename_i h3
          split at h
          · cases h
          · rename_i h4
            refine ⟨by omega, fun n hn => ?_, fun n hn => ?_, fun n hn => ?_⟩
            · rcases Int.lt_or_le x.start (goodAt gs n).ready with c | c
              · exact absurd (List.any_eq_true.2 ⟨n, hn, decide_eq_true c⟩) h2
              · exact c
            · cases c : inB (warmM (loftAt l x.loft) x.heats) (goodAt gs n).need (goodAt gs n).most with
              | true => exact inB_iff.1 c
              | false => exact absurd (List.any_eq_true.2 ⟨n, hn, by rw [c]; rfl⟩) h3
            · rcases Int.lt_or_le (goodAt gs n).due (endM x) with c | c
              · exact absurd (List.any_eq_true.2 ⟨n, hn, decide_eq_true c⟩) h4
              · exact c
  · rintro ⟨h1, h2, h3, h4⟩
    rw [if_neg (by omega), if_neg, if_neg, if_neg]
    · intro h
      obtain ⟨n, hn, hc⟩ := List.any_eq_true.1 h
      have := h4 n hn
      have := of_decide_eq_true hc
      omega
    · intro h
      obtain ⟨n, hn, hc⟩ := List.any_eq_true.1 h
      rw [inB_iff.2 (h3 n hn)] at hc
      cases hc
    · intro h
      obtain ⟨n, hn, hc⟩ := List.any_eq_true.1 h
      have := h2 n hn
      have := of_decide_eq_true hc
      omega
theorem by_iff {l : List Loft} {gs : List Goods} {x : Load} : byM l gs x = 0 ↔ Sound l gs x := by
  unfold byM
  constructor
  · intro h
    split at h
    · cases h
    · rename_i h1
      split at h
      · cases h
      · rename_i h2
        have h1 := inB_iff.1 (by simpa using h1)
        simp only [Bool.or_eq_true, Bool.not_eq_true', not_or, Bool.not_eq_false] at h2
        obtain ⟨a1, a2, a3, a4⟩ := h2
        obtain ⟨b1, b2, b3, b4⟩ := alone_iff.1 h
        exact ⟨by omega, inB_iff.1 a1, a2, by simpa using a3, a4, b1, b2, b3, b4⟩
  · intro h
    rw [if_neg (by rw [inB_iff.2 (by have := h.loft; omega)]; decide), if_neg]
    · exact alone_iff.2 ⟨h.room, h.ready, h.warm, h.due⟩
    · rw [inB_iff.2 h.start, h.heats, h.set]
      have := h.some'
      cases hx : x.goods with
      | nil => exact absurd hx this
      | cons a b => simp

theorem goods_good {l : List Loft} {gs : List Goods} {x : Load} (h : Sound l gs x) {n : Int} (hn : n ∈ x.goods) : 0 ≤ n ∧ n < gs.length := isSet_in h.set n hn
theorem goodAt_mem {gs : List Goods} {n : Int} (h : 0 ≤ n ∧ n < gs.length) : goodAt gs n ∈ gs := List.mem_of_getElem? (goodAt_get h.1 h.2)
theorem loftAt_mem {l : List Loft} {n : Int} (h : 0 ≤ n ∧ n < l.length) : loftAt l n ∈ l := List.mem_of_getElem? (loftAt_get h.1 h.2)

/-! Heats that are right are found. -/
section
variable {f : Loft} {need most : Int}
theorem warm_cons (f : Loft) (h : Int) (hs : List Int) : warmM f (h :: hs) = rateAt f h + warmM f hs := by simp [warmM]
theorem upTo_has : ∀ (n : Nat) (a x : Int), a ≤ x → x < a + n → x ∈ upTo a n
  | 0, a, x, h1, h2 => by omega
  | n + 1, a, x, h1, h2 => by
    rw [upTo, List.mem_cons]
    by_cases e : x = a
    · exact .inl e
    · exact .inr (upTo_has n (a + 1) x (by omega) (by omega))
theorem nextH_has {h x : Int} (h1 : 0 ≤ x ∧ x ≤ 4) (h2 : h - 1 ≤ x ∧ x ≤ h + 1) : x ∈ nextH h := by
  unfold nextH lowH
  exact upTo_has _ _ _ (by omega) (by omega)
theorem fin_has (hf : loftOk f = true) : ∀ (hs : List Int) (h s : Int), heatsFrom h hs = true → need ≤ s + warmM f hs → s + warmM f hs ≤ most → (finS f need most hs.length h s).isSome = true
  | [], h, s, _, h1, h2 => by
    have e : warmM f [] = 0 := rfl
    show (finS f need most 0 h s).isSome = true
    unfold finS
    rw [if_neg (by omega), if_pos (by omega)]
    rfl
  | x :: hs, h, s, hh, h1, h2 => by
    have e := warm_cons f x hs
    have w := warm_in hf hs
    have r := rateAt_in hf x
    simp only [heatsFrom, Bool.and_eq_true, inB_iff] at hh
    have ih := fin_has hf hs x (s + rateAt f x) hh.2 (by omega) (by omega)
    show (finS f need most (hs.length + 1) h s).isSome = true
    unfold finS
    rw [if_neg (by omega), tryS_some, List.any_eq_true]
    exact ⟨x, nextH_has (by omega) (by omega), ih⟩
theorem prog_has (hf : loftOk f = true) (m : Nat) (hsome : (finS f need most m 0 0).isSome = true) : ∀ (n d : Nat), d ≤ m → m < d + n → ∃ r, progFrom f need most d n = some r ∧ r.length ≤ m
  | 0, d, h1, h2 => by omega
  | n + 1, d, h1, h2 => by
    unfold progFrom
    cases hr : finS f need most d 0 0 with
    | some r => exact ⟨r, rfl, by have := (fin_right hf d 0 0 r (by omega) hr).2.1; omega⟩
    | none =>
      have hne : d ≠ m := fun e => by rw [e] at hr; rw [hr] at hsome; cases hsome
      exact prog_has hf m hsome n (d + 1) (by omega) (by omega)
theorem progS_has (hf : loftOk f = true) {hs : List Int} (hv : validHs hs = true) (h1 : need ≤ warmM f hs) (h2 : warmM f hs ≤ most) : ∃ r, progS f need most = some r ∧ r.length ≤ hs.length := by
  obtain ⟨v1, v2⟩ := validHs_iff.1 hv
  exact prog_has hf hs.length (fin_has hf hs 0 0 v2 (by omega) (by omega)) 12 1 (by omega) (by omega)
end

theorem dstep_keep {g : Goods} {f : Loft} {p : Int × Bool} (h : p.2 = true) : (dstep g p f).2 = true ∧ (dstep g p f).1 ≤ p.1 := by
  unfold dstep
  split
  · split
    · rename_i hc
      rcases hc.2 with c | c
      · rw [h] at c; cases c
      · exact ⟨rfl, by dsimp only; omega⟩
    · exact ⟨h, Int.le_refl _⟩
  · exact ⟨h, Int.le_refl _⟩
theorem days_keep (g : Goods) : ∀ (l : List Loft) (p : Int × Bool), p.2 = true → (l.foldl (dstep g) p).2 = true ∧ (l.foldl (dstep g) p).1 ≤ p.1
  | [], p, h => ⟨h, Int.le_refl _⟩
  | f :: l, p, h => by
    obtain ⟨h1, h2⟩ := dstep_keep (g := g) (f := f) h
    obtain ⟨h3, h4⟩ := days_keep g l _ h1
    exact ⟨h3, by rw [List.foldl_cons]; omega⟩
theorem days_has {g : Goods} {f : Loft} {r : List Int} (hp : g.poles ≤ f.poles) (hr : progS f g.need g.most = some r) : ∀ (l : List Loft) (p : Int × Bool), f ∈ l → (l.foldl (dstep g) p).2 = true ∧ (l.foldl (dstep g) p).1 ≤ r.length
  | [], p, h => by cases h
  | f' :: l, p, h => by
    rw [List.foldl_cons]
    rcases List.mem_cons.1 h with rfl | h
    · have e : (dstep g p f).2 = true ∧ (dstep g p f).1 ≤ r.length := by
        unfold dstep
        rw [hr]
        dsimp only
        split
        · exact ⟨rfl, Int.le_refl _⟩
        · rename_i hc
          rw [not_and, not_or] at hc
          obtain ⟨c1, c2⟩ := hc hp
          exact ⟨by simpa using c1, by omega⟩
      obtain ⟨h3, h4⟩ := days_keep g l _ e.1
      exact ⟨h3, by omega⟩
    · exact days_has hp hr l _ h

theorem poles_mem {gs : List Goods} (hg : ∀ g ∈ gs, goodsOk g = true) {n : Int} : ∀ {l : List Int}, n ∈ l → polesOf gs n ≤ polesM gs l
  | [], h => by cases h
  | x :: l, h => by
    have h1 := polesOf_in hg x
    have h2 := polesM_in hg l
    have h3 : polesM gs (x :: l) = polesOf gs x + polesM gs l := by simp [polesM]
    rcases List.mem_cons.1 h with rfl | h
    · omega
    · have := poles_mem hg h
      omega
theorem sound_ripe {l : List Loft} {gs : List Goods} (hl : ∀ f ∈ l, loftOk f = true) (hg : ∀ g ∈ gs, goodsOk g = true) {x : Load} (h : Sound l gs x) {n : Int} (hn : n ∈ x.goods) :
    (daysM (goodAt gs n) l).2 = true ∧ (daysM (goodAt gs n) l).1 ≤ x.heats.length := by
  have h1 := goods_good h hn
  have hm := loftAt_mem (l := l) h.loft
  have hp := poles_mem hg hn
  rw [polesOf_good h1.1 h1.2] at hp
  obtain ⟨w1, w2⟩ := h.warm n hn
  obtain ⟨r, hr, hlen⟩ := progS_has (hl _ hm) h.heats w1 w2
  obtain ⟨a1, a2⟩ := days_has (g := goodAt gs n) (by have := h.room; omega) hr l (0, false) hm
  exact ⟨a1, by show (l.foldl (dstep (goodAt gs n)) (0, false)).1 ≤ _; omega⟩
end Go.AM.B

