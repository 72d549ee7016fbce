/- A part of the proof: the texts DSetP, DOptP, DOptC, DLbT, one after another. No condition. -/
import Derived.Test.YtejjeckiplihbaaDMemG
import Derived.Test.YtejjeckiplihbaaDLbP
import Derived.Test.YtejjeckiplihbaaDFewG
set_option linter.unusedSimpArgs false
set_option maxRecDepth 20000

section
/-
Sets of strips as numbers; what is packed and what is divided (plain).
-/
namespace Go.AM.D
open Go

set_option maxRecDepth 100000 in
theorem ext_facts : ((List.range 64).all fun a => (List.range 64).all fun b => a == b || (List.range 6).any fun i => bitP a i != bitP b i) = true := by decide +kernel
theorem bit_ext {a b : Nat} (ha : a < 64) (hb : b < 64) (h : ∀ i, i < 6 → bitP a i = bitP b i) : a = b := by
  have h1 := List.all_eq_true.1 (List.all_eq_true.1 ext_facts a (List.mem_range.2 ha)) b (List.mem_range.2 hb)
  rw [Bool.or_eq_true] at h1
  rcases h1 with h1 | h1
  · exact beq_iff_eq.1 h1
  · obtain ⟨i, hi, he⟩ := List.any_eq_true.1 h1
    rw [h i (List.mem_range.1 hi)] at he
    simp at he
set_option maxRecDepth 100000 in
theorem subbit_facts : ((List.range 64).all fun s => (List.range 64).all fun p => subB p s == (List.range 6).all fun i => !bitP p i || bitP s i) = true := by decide +kernel
theorem sub_bits {s p : Nat} (hs : s < 64) (hp : p < 64) : subB p s = true ↔ ∀ i, i < 6 → bitP p i = true → bitP s i = true := by
  have h1 := List.all_eq_true.1 (List.all_eq_true.1 subbit_facts s (List.mem_range.2 hs)) p (List.mem_range.2 hp)
  rw [beq_iff_eq] at h1
  rw [h1, List.all_eq_true]
  constructor
  · intro h i hi hb
    have := h i (List.mem_range.2 hi)
    rw [hb] at this
    simpa using this
  · intro h i hi
    have := h i (List.mem_range.1 hi)
    cases hb : bitP p i with
    | false => rfl
    | true => rw [this hb]; rfl
set_option maxRecDepth 100000 in
theorem diff_facts : ((List.range 64).all fun s => (List.range 64).all fun p => !subB p s || (List.range 6).all fun i => bitP (s - p) i == (bitP s i && !bitP p i)) = true := by decide +kernel
theorem diff_bit {s p i : Nat} (hs : s < 64) (hp : p < 64) (h : subB p s = true) (hi : i < 6) : bitP (s - p) i = (bitP s i && !bitP p i) := by
  have h1 := List.all_eq_true.1 (List.all_eq_true.1 diff_facts s (List.mem_range.2 hs)) p (List.mem_range.2 hp)
  rw [h, Bool.not_true, Bool.false_or] at h1
  exact beq_iff_eq.1 (List.all_eq_true.1 h1 i (List.mem_range.2 hi))
theorem one_facts : ((List.range 6).all fun i => (List.range 6).all fun k => bitP (2 ^ i) k == (k == i)) = true := by decide +kernel
theorem one_bit {i k : Nat} (hi : i < 6) (hk : k < 6) : bitP (2 ^ i) k = (k == i) := beq_iff_eq.1 (List.all_eq_true.1 (List.all_eq_true.1 one_facts i (List.mem_range.2 hi)) k (List.mem_range.2 hk))
theorem full_facts : ((List.range 7).all fun n => (List.range 6).all fun k => bitP (2 ^ n - 1) k == decide (k < n)) = true := by decide +kernel
theorem full_bit {n k : Nat} (hn : n ≤ 6) (hk : k < 6) : bitP (2 ^ n - 1) k = decide (k < n) := beq_iff_eq.1 (List.all_eq_true.1 (List.all_eq_true.1 full_facts n (List.mem_range.2 (by omega))) k (List.mem_range.2 hk))
theorem pow_64 {i : Nat} (hi : i < 6) : 2 ^ i < 64 := Nat.pow_lt_pow_right (a := 2) (by omega) hi
theorem one_sub {s i : Nat} (hs : s < 64) (hi : i < 6) (hb : bitP s i = true) : subB (2 ^ i) s = true := by
  rw [sub_bits hs (pow_64 hi)]
  intro k hk h
  rw [one_bit hi hk, beq_iff_eq] at h
  rw [h]; exact hb
/-- The set of what a test holds of. -/
def setOf (P : Nat → Bool) : Nat := (if P 0 then 1 else 0) + (if P 1 then 2 else 0) + (if P 2 then 4 else 0) + (if P 3 then 8 else 0) + (if P 4 then 16 else 0) + (if P 5 then 32 else 0)
theorem setOf_facts : ∀ a b c d e f : Bool, (let s := (if a then 1 else 0) + (if b then 2 else 0) + (if c then 4 else 0) + (if d then 8 else 0) + (if e then 16 else 0) + (if f then 32 else 0); s < 64 ∧ bitP s 0 = a ∧ bitP s 1 = b ∧ bitP s 2 = c ∧ bitP s 3 = d ∧ bitP s 4 = e ∧ bitP s 5 = f) := by decide
theorem setOf_lt (P : Nat → Bool) : setOf P < 64 := (setOf_facts (P 0) (P 1) (P 2) (P 3) (P 4) (P 5)).1
theorem setOf_bit (P : Nat → Bool) {i : Nat} (hi : i < 6) : bitP (setOf P) i = P i := by
  have h := setOf_facts (P 0) (P 1) (P 2) (P 3) (P 4) (P 5)
  obtain ⟨_, h0, h1, h2, h3, h4, h5⟩ := h
  have : i = 0 ∨ i = 1 ∨ i = 2 ∨ i = 3 ∨ i = 4 ∨ i = 5 := by omega
  rcases this with rfl | rfl | rfl | rfl | rfl | rfl <;> assumption
theorem bit_zero (i : Nat) : bitP 0 i = false := by simp [bitP]
theorem pos_bit {s : Nat} (hs : s < 64) (h : 1 ≤ s) : ∃ i, i < 6 ∧ bitP s i = true := by
  rcases Classical.em (∃ i, i < 6 ∧ bitP s i = true) with g | g
  · exact g
  · exfalso
    have : s = 0 := bit_ext hs (by omega) fun i hi => by
      rw [bit_zero]
      cases hb : bitP s i with
      | false => rfl
      | true => exact absurd ⟨i, hi, hb⟩ g
    omega

/-- The lengths of a set of strips. -/
def szT (f : Nat → Int) : Nat → Nat → Int
  | 0, _ => 0
  | n + 1, s => szT f n s + if bitP s n = true then f n else 0
theorem szT_zero (f : Nat → Int) : ∀ n, szT f n 0 = 0
  | 0 => rfl
  | n + 1 => by unfold szT; rw [szT_zero f n, bit_zero]; simp
theorem szT_sub (f : Nat → Int) {s p : Nat} (hs : s < 64) (hp : p < 64) (h : subB p s = true) : ∀ n, n ≤ 6 → szT f n s = szT f n p + szT f n (s - p)
  | 0, _ => rfl
  | n + 1, hn => by
    unfold szT
    rw [szT_sub f hs hp h n (by omega), diff_bit hs hp h (show n < 6 by omega)]
    have h1 := (sub_bits hs hp).1 h n (by omega)
    cases hb : bitP p n with
    | true => rw [h1 hb]; simp; omega
    | false => cases bitP s n <;> simp <;> omega
theorem szT_one (f : Nat → Int) {i : Nat} (hi : i < 6) : ∀ n, n ≤ 6 → szT f n (2 ^ i) = if i < n then f i else 0
  | 0, _ => rfl
  | n + 1, hn => by
    unfold szT
    rw [szT_one f hi n (by omega), one_bit hi (show n < 6 by omega)]
    by_cases e : n = i
    · subst e; simp
    · have : (n == i) = false := beq_false_of_ne e
      rw [this]
      simp only [Bool.false_eq_true, if_false, Int.add_zero]
      by_cases g : i < n
      · rw [if_pos g, if_pos (by omega)]
      · rw [if_neg g, if_neg (by omega)]
theorem szT_bit (f : Nat → Int) {s i n : Nat} (hs : s < 64) (hn : n ≤ 6) (hi : i < n) (hb : bitP s i = true) : szT f n s = szT f n (s - 2 ^ i) + f i := by
  rw [szT_sub f hs (pow_64 (by omega)) (one_sub hs (by omega) hb) n hn, szT_one f (by omega) n hn, if_pos hi]
  omega

def szJ (j : Job) (i : Nat) : Int := sizeM (stripI j i)
/-- What is packed is no longer than the roll. -/
theorem ent_low {j : Job} {r : Roll} (hj : Right j) (hr : rollOk r j.rep = true) : ∀ (m set : Nat), set ≤ m → set < 64 → (ent j r set).1 < NEV → szT (szJ j) j.ss.length set ≤ (ent j r set).1
  | 0, set, h, _, _ => by
    obtain rfl : set = 0 := by omega
    rw [szT_zero]
    exact Int.le_refl _
  | m + 1, set, h, hs, hn => by
    rcases Nat.eq_zero_or_pos set with e | e
    · subst e
      rw [szT_zero]
      exact Int.le_refl _
    · obtain ⟨i, li⟩ := ent_last e hn
      have lt := bit_lt li.bit
      have h6 := hj.nss
      have il := li.lt
      have ih := ent_low hj hr m (set - 2 ^ i) (by omega) (by omega) li.sub
      have nx := next_in (phase := r.ph) (rep := j.rep) (at' := (ent j r (set - 2 ^ i)).1) (a := (stripI j i).a) (rollOk_iff.1 hr).1.1
      have e1 := szT_bit (szJ j) hs h6 li.lt li.bit
      have e2 := li.at'
      have e3 : szJ j i = sizeM (stripI j i) := rfl
      omega
def lenL (j : Job) : List Nat → Int := sumF fun k => (rollAt j k).l
theorem div_sum {j : Job} (hj : Right j) (hr : ∀ r ∈ j.rs, rollOk r j.rep = true) (hss : ∀ s ∈ j.ss, stripOk s = true) : ∀ (rs : List Nat) (set : Nat) (l : List Cut), (∀ k ∈ rs, k < j.rs.length) → set < 64 → divM j rs set = some l → szT (szJ j) j.ss.length set ≤ lenL j rs
  | [], set, l, _, _, h => by
    unfold divM at h
    split at h
    · rename_i e
      subst e
      rw [szT_zero]
      exact Int.le_refl _
    · cases h
  | k :: rs, set, l, hk, hs, h => by
    unfold divM at h
    obtain ⟨q, h1, h2, h3, h4⟩ := search_some hs _ set (Nat.le_refl _) hs (sub_self set) h
    split at h4
    · cases h4
    · rename_i hnev
      rw [Option.map_eq_some_iff] at h4
      obtain ⟨rest, hrest, _⟩ := h4
      have hkn := hk k List.mem_cons_self
      have gr : j.rs[k]? = some (rollAt j k) := by
        unfold rollAt
        rw [List.getD_eq_getElem?_getD, List.getElem?_eq_getElem hkn]
        rfl
      have hro := hr _ (List.mem_of_getElem? gr)
      have ih := div_sum hj hr hss rs (set - q) rest (fun k' h => hk k' (List.mem_cons_of_mem _ h)) (by omega) hrest
      have e1 := szT_sub (szJ j) hs h2 h3 j.ss.length hj.nss
      have e2 := ent_low hj hro q q (Nat.le_refl _) h2 (by omega)
      have e3 := (ent_in hj hro hss q).hi
      unfold lenL at *
      simp only [sumF]
      have : (ent j (rollAt j k) q).1 ≤ (rollAt j k).l := by
        rcases e3 with e3 | e3
        · omega
        · exact e3
      omega
end Go.AM.D
end

section
/-
Accepted cuts can be divided: the fewest rolls are no more than those of any accepted cuts (plain).
-/
namespace Go.AM.D
open Go

theorem step_le (j : Job) (r : Roll) (T : Nat → Int × Int) (set : Nat) (acc : Int × Int) (i : Nat) : (packStep j r T set acc i).1 ≤ acc.1 := by
  unfold packStep
  split
  · exact Int.le_refl _
  · split
    · rename_i h
      exact Int.le_of_lt h.2
    · exact Int.le_refl _
theorem packTo_le {j : Job} {r : Roll} {T : Nat → Int × Int} {set i : Nat} (hb : bitP set i = true) (hsub : (T (set - 2 ^ i)).1 < NEV) (hfit : nextM r.ph j.rep (T (set - 2 ^ i)).1 (stripI j i).a + sizeM (stripI j i) ≤ r.l) : ∀ n, i < n → (packTo j r T set n).1 ≤ nextM r.ph j.rep (T (set - 2 ^ i)).1 (stripI j i).a + sizeM (stripI j i)
  | 0, h => by omega
  | n + 1, h => by
    rw [packTo_succ]
    by_cases e : i = n
    · subst e
      unfold packStep
      rw [if_neg (by rw [hb]; intro h; rcases h with h | h; cases h; omega)]
      split
      · exact Int.le_refl _
      · rename_i hh
        by_cases g : nextM r.ph j.rep (T (set - 2 ^ i)).1 (stripI j i).a + sizeM (stripI j i) < (packTo j r T set i).1
        · exact absurd ⟨hfit, g⟩ hh
        · omega
    · have h1 := packTo_le hb hsub hfit n (by omega)
      have h2 := step_le j r T set (packTo j r T set n) n
      omega
theorem max_bit (f : Nat → Int) (P : Nat → Bool) : ∀ n, (∃ i, i < n ∧ P i = true) → ∃ i, i < n ∧ P i = true ∧ ∀ k, k < n → P k = true → f k ≤ f i
  | 0, ⟨i, h, _⟩ => by omega
  | n + 1, ⟨i, h, hp⟩ => by
    by_cases g : ∃ i, i < n ∧ P i = true
    · obtain ⟨m, m1, m2, m3⟩ := max_bit f P n g
      by_cases e : P n = true ∧ f m < f n
      · refine ⟨n, by omega, e.1, fun k hk hpk => ?_⟩
        by_cases kn : k = n
        · subst kn; exact Int.le_refl _
        · have := m3 k (by omega) hpk
          omega
      · refine ⟨m, by omega, m2, fun k hk hpk => ?_⟩
        by_cases kn : k = n
        · subst kn
          by_cases q : f m < f k
          · exact absurd ⟨hpk, q⟩ e
          · omega
        · exact m3 k (by omega) hpk
    · have : i = n := by
        rcases Nat.lt_or_ge i n with q | q
        · exact absurd ⟨i, q, hp⟩ g
        · omega
      subst this
      refine ⟨i, by omega, hp, fun k hk hpk => ?_⟩
      by_cases kn : k = i
      · subst kn; exact Int.le_refl _
      · exact absurd ⟨k, by omega, hpk⟩ g
/-- Places of a set of strips on a roll. -/
structure Placed (j : Job) (r : Roll) (s : Nat) (pl : Nat → Int) : Prop where
  dom : ∀ i, i < 6 → bitP s i = true → i < j.ss.length
  fit : ∀ i, i < 6 → bitP s i = true → 0 ≤ pl i ∧ pl i + szJ j i ≤ r.l ∧ 1 ≤ szJ j i
  ph : ∀ i, i < 6 → bitP s i = true → (r.ph + pl i) % j.rep = (stripI j i).a % j.rep
  apart : ∀ i k, i < 6 → k < 6 → bitP s i = true → bitP s k = true → i ≠ k → pl i + szJ j i ≤ pl k ∨ pl k + szJ j k ≤ pl i
theorem ent_opt {j : Job} {r : Roll} (hr : rollOk r j.rep = true) {pl : Nat → Int} : ∀ (m s : Nat), s ≤ m → s < 64 → Placed j r s pl → ∀ M, 0 ≤ M → (∀ i, i < 6 → bitP s i = true → pl i + szJ j i ≤ M) → (ent j r s).1 ≤ M ∧ (ent j r s).1 < NEV
  | 0, s, h, _, _, M, hM, _ => by
    obtain rfl : s = 0 := by omega
    rw [ent_zero]
    exact ⟨hM, by decide⟩
  | m + 1, s, h, hs, hp, M, hM, hb => by
    rcases Nat.eq_zero_or_pos s with e | e
    · subst e
      rw [ent_zero]
      exact ⟨hM, by decide⟩
    · obtain ⟨i, i6, ib, imax⟩ := max_bit pl (bitP s) 6 (pos_bit hs e)
      have lt := bit_lt ib
      have hbit := fun k (hk : k < 6) => diff_bit hs (pow_64 i6) (one_sub hs i6 ib) hk
      have hin : ∀ k, k < 6 → bitP (s - 2 ^ i) k = true → bitP s k = true ∧ k ≠ i := fun k hk hbk => by
        rw [hbit k hk, one_bit i6 hk] at hbk
        simpa using hbk
      have hp' : Placed j r (s - 2 ^ i) pl := ⟨fun k hk hbk => hp.dom k hk (hin k hk hbk).1, fun k hk hbk => hp.fit k hk (hin k hk hbk).1, fun k hk hbk => hp.ph k hk (hin k hk hbk).1, fun a b ha hb' h1 h2 => hp.apart a b ha hb' (hin a ha h1).1 (hin b hb' h2).1⟩
      have fi := hp.fit i i6 ib
      have ih := ent_opt hr m (s - 2 ^ i) (by omega) (by omega) hp' (pl i) fi.1 (fun k hk hbk => by
        have q := hin k hk hbk
        have fk := hp.fit k hk q.1
        have mk := imax k hk q.1
        rcases hp.apart k i hk i6 q.1 ib q.2 with g | g
        · exact g
        · omega)
      have b1 := rollOk_iff.1 hr
      have nf := next_first (phase := r.ph) (rep := j.rep) (at' := (ent j r (s - 2 ^ i)).1) (a := (stripI j i).a) (t := pl i) b1.1.1 ih.1 (hp.ph i i6 ib)
      have e3 : szJ j i = sizeM (stripI j i) := rfl
      have pt := packTo_le (j := j) (r := r) ib ih.2 (by omega) j.ss.length (hp.dom i i6 ib)
      rw [← ent_eq e] at pt
      have hbi := hb i i6 ib
      have hN : NEV = 1048576 := rfl
      omega
/-- Parts that fit make a division. -/
theorem div_complete {j : Job} (Q : Nat → Nat → Bool) : ∀ (rs : List Nat), rs.Nodup → (∀ k ∈ rs, (ent j (rollAt j k) (setOf (Q k))).1 < NEV) → (∀ k ∈ rs, 1 ≤ setOf (Q k)) → (∀ k ∈ rs, ∀ k' ∈ rs, k ≠ k' → ∀ i, i < 6 → ¬ (Q k i = true ∧ Q k' i = true)) →
    ¬ divM j rs (setOf fun i => rs.any fun k => Q k i) = none
  | [], _, _, _, _ => by
    have : setOf (fun i => ([] : List Nat).any fun k => Q k i) = 0 := by simp [setOf]
    rw [this]
    unfold divM
    simp
  | k :: rs, hnd, hf, hp, hd => by
    intro hn
    have hnd' := List.nodup_cons.1 hnd
    have ih := div_complete Q rs hnd'.2 (fun a h => hf a (List.mem_cons_of_mem _ h)) (fun a h => hp a (List.mem_cons_of_mem _ h)) (fun a h b h' => hd a (List.mem_cons_of_mem _ h) b (List.mem_cons_of_mem _ h'))
    have hS := setOf_lt (fun i => (k :: rs).any fun k => Q k i)
    have hq := setOf_lt (Q k)
    have hsub : subB (setOf (Q k)) (setOf fun i => (k :: rs).any fun k => Q k i) = true := by
      rw [sub_bits hS hq]
      intro i hi hb
      rw [setOf_bit _ hi] at hb ⊢
      rw [List.any_cons, hb]
      rfl
    unfold divM at hn
    have h1 := search_none hS _ _ (Nat.le_refl _) hS (sub_self _) hn (setOf (Q k)) (hp k List.mem_cons_self) (sub_all hS hq hsub).2.1 hsub
    rw [if_neg (by have := hf k List.mem_cons_self; omega), Option.map_eq_none_iff] at h1
    have e : setOf (fun i => (k :: rs).any fun k => Q k i) - setOf (Q k) = setOf fun i => rs.any fun k => Q k i := by
      apply bit_ext (by omega) (setOf_lt _)
      intro i hi
      rw [diff_bit hS hq hsub hi, setOf_bit _ hi, setOf_bit _ hi, setOf_bit _ hi, List.any_cons]
      cases hb : Q k i with
      | false => simp
      | true =>
        have : (rs.any fun k => Q k i) = false := by
          rw [List.any_eq_false]
          intro k' hk' hq'
          exact hd k List.mem_cons_self k' (List.mem_cons_of_mem _ hk') (fun e => hnd'.1 (e ▸ hk')) i hi ⟨hb, hq'⟩
        rw [this]
        rfl
    rw [e] at h1
    exact ih h1
/-- If some rolls do, the answer is no more. -/
theorem fewM_le {j : Job} {c s : Nat} (hc : c ≤ j.rs.length) (hs : s < 2 ^ j.rs.length) (h : ¬ tryS j c s = none) : ∃ l c', fewM j = some (l, c') ∧ c' ≤ c := by
  have hC : ¬ tryC j c = none := by
    unfold tryC
    rw [Option.map_eq_none_iff, List.findSome?_eq_none_iff]
    exact fun hh => h (hh s (List.mem_range.2 hs))
  -- the least count
  have key : ∀ n, (∃ i, i < n ∧ ¬ tryC j i = none) → ∃ i, i < n ∧ ¬ tryC j i = none ∧ ∀ k, k < i → tryC j k = none := by
    intro n
    induction n with
    | zero => rintro ⟨i, h, _⟩; omega
    | succ n ih =>
      rintro ⟨i, hi, hne⟩
      by_cases g : ∃ i, i < n ∧ ¬ tryC j i = none
      · obtain ⟨i, h1, h2, h3⟩ := ih g
        exact ⟨i, by omega, h2, h3⟩
      · refine ⟨i, hi, hne, fun k hk => ?_⟩
        rcases Classical.em (tryC j k = none) with q | q
        · exact q
        · exact absurd ⟨k, by omega, q⟩ g
  obtain ⟨i, h1, h2, h3⟩ := key (c + 1) ⟨c, by omega, hC⟩
  cases hi : tryC j i with
  | none => exact absurd hi h2
  | some x =>
    have hx : x.2 = i := by
      unfold tryC at hi
      rw [Option.map_eq_some_iff] at hi
      obtain ⟨l, _, rfl⟩ := hi
      rfl
    refine ⟨x.1, i, ?_, by omega⟩
    unfold fewM
    rw [find_hit hi h3 _ (by omega), ← hx]
theorem fewM_some {j : Job} {l : List Cut} {n : Nat} (h : fewM j = some (l, n)) : n ≤ j.rs.length ∧ ∃ s, s < 2 ^ j.rs.length ∧ tryS j n s = some l := by
  unfold fewM at h
  obtain ⟨c, hc, h1⟩ := List.exists_of_findSome?_eq_some h
  unfold tryC at h1
  rw [Option.map_eq_some_iff] at h1
  obtain ⟨l', h2, h3⟩ := h1
  cases h3
  obtain ⟨s, hs, h4⟩ := List.exists_of_findSome?_eq_some h2
  exact ⟨by have := List.mem_range.1 hc; omega, s, List.mem_range.1 hs, h4⟩
end Go.AM.D
end

section
/-
The fewest rolls are no more than those of accepted cuts; one roll more makes them no more (plain).
-/
namespace Go.AM.D
open Go

theorem firstE_split {j : Job} {c0 : Cut} : ∀ (post pre : List Cut), firstE j c0 pre post = 0 → ∀ a c b, post = a ++ c :: b → OneOk j c0 (pre ++ a) c
  | [], _, _, a, c, b, h => by simp at h
  | x :: post, pre, hf, a, c, b, h => by
    have ho : oneE j c0 pre x = 0 := by
      rw [firstE_cons] at hf
      split at hf
      · assumption
      · exact hf
    rw [firstE_next ho] at hf
    cases a with
    | nil =>
      cases h
      rw [List.append_nil]
      exact oneE_zero ho
    | cons y a =>
      cases h
      have := firstE_split (a ++ c :: b) (pre ++ [x]) hf a c b rfl
      rw [List.append_assoc] at this
      exact this
section
variable {j : Job} {cuts : List Cut} (hf : Fit j cuts)
include hf
theorem fit_one {c : Cut} (hc : c ∈ cuts) : ∃ pre, OneOk j (head0 cuts) pre c := by
  obtain ⟨a, b, e⟩ := List.append_of_mem hc
  exact ⟨_, firstE_split cuts [] hf.first a c b e⟩
theorem fit_uniq {c y : Cut} (hc : c ∈ cuts) (hy : y ∈ cuts) (h : c.s = y.s) : c = y := by
  obtain ⟨a, b, e⟩ := List.append_of_mem hc
  have h1 := (firstE_split cuts [] hf.first a c b e).fresh
  rw [e] at hy
  rcases List.mem_append.1 hy with g | g
  · exact absurd h.symm (h1 y (by simpa using g))
  · rcases List.mem_cons.1 g with g | g
    · exact g.symm
    · obtain ⟨b1, b2, eb⟩ := List.append_of_mem g
      have h2 := (firstE_split cuts [] hf.first (a ++ c :: b1) y b2 (by rw [e, eb]; simp)).fresh
      exact absurd h (h2 c (by simp))
theorem fit_apartQ {c y : Cut} (hc : c ∈ cuts) (hy : y ∈ cuts) (h : ¬ c.s = y.s) (hr : c.r = y.r) : c.a + sizeM (stripOf j c) ≤ y.a ∨ y.a + sizeM (stripOf j y) ≤ c.a := by
  obtain ⟨a, b, e⟩ := List.append_of_mem hc
  have h1 := (firstE_split cuts [] hf.first a c b e).apart
  rw [e] at hy
  rcases List.mem_append.1 hy with g | g
  · have h2 := h1 y (by simpa using g)
    unfold clash at h2
    simp only [Bool.and_eq_false_iff, decide_eq_false_iff_not] at h2
    omega
  · rcases List.mem_cons.1 g with g | g
    · exact absurd (by rw [g]) h
    · obtain ⟨b1, b2, eb⟩ := List.append_of_mem g
      have h2 := (firstE_split cuts [] hf.first (a ++ c :: b1) y b2 (by rw [e, eb]; simp)).apart c (by simp)
      unfold clash at h2
      simp only [Bool.and_eq_false_iff, decide_eq_false_iff_not] at h2
      omega
theorem fit_all {i : Nat} (hi : i < j.ss.length) : ∃ c ∈ cuts, c.s = (i : Int) := by
  have h1 := hf.count
  rw [hf.len] at h1
  unfold countS at h1
  have h2 : (List.range j.ss.length).countP (cutAt cuts) = (List.range j.ss.length).length := by rw [h1, List.length_range]
  rw [List.countP_eq_length] at h2
  have := h2 i (List.mem_range.2 hi)
  unfold cutAt at this
  obtain ⟨c, hc, e⟩ := List.any_eq_true.1 this
  exact ⟨c, hc, of_decide_eq_true e⟩
end
def cutPlace (cuts : List Cut) (i : Nat) : Int := ((cuts.find? fun c => decide (c.s = (i : Int))).getD ⟨0, 0, 0⟩).a
def onRollP (cuts : List Cut) (k i : Nat) : Bool := cuts.any fun c => decide (c.s = (i : Int)) && decide (c.r = (k : Int))
theorem onRollP_iff {cuts : List Cut} {k i : Nat} : onRollP cuts k i = true ↔ ∃ c ∈ cuts, c.s = (i : Int) ∧ c.r = (k : Int) := by
  unfold onRollP
  simp
theorem place_eq {j : Job} {cuts : List Cut} (hf : Fit j cuts) {c : Cut} {i : Nat} (hc : c ∈ cuts) (h : c.s = (i : Int)) : cutPlace cuts i = c.a := by
  unfold cutPlace
  cases he : cuts.find? fun c => decide (c.s = (i : Int)) with
  | none =>
    have := List.find?_eq_none.1 he c hc
    simp [h] at this
  | some d =>
    have h1 := List.find?_some he
    have h2 := List.mem_of_find?_eq_some he
    have : d = c := fit_uniq hf h2 hc (by rw [of_decide_eq_true h1, h])
    rw [this]
    rfl
theorem strip_idx {j : Job} {c : Cut} {i : Nat} (h : c.s = (i : Int)) : stripOf j c = stripI j i := by
  unfold stripOf stripI
  rw [h, Int.toNat_natCast]
theorem roll_idx {j : Job} {c : Cut} {k : Nat} (h : c.r = (k : Int)) : rollOf j c = rollAt j k := by
  unfold rollOf rollAt
  rw [h, Int.toNat_natCast]
theorem low_facts : ((List.range 64).all fun s => (List.range 7).all fun m => ((List.range 6).any fun i => bitP s i && decide (m ≤ i)) || decide (s < 2 ^ m)) = true := by decide +kernel
theorem low_set {s m : Nat} (hs : s < 64) (hm : m ≤ 6) (h : ∀ i, i < 6 → bitP s i = true → i < m) : s < 2 ^ m := by
  have h1 := List.all_eq_true.1 (List.all_eq_true.1 low_facts s (List.mem_range.2 hs)) m (List.mem_range.2 (by omega))
  rw [Bool.or_eq_true] at h1
  rcases h1 with h1 | h1
  · obtain ⟨i, hi, he⟩ := List.any_eq_true.1 h1
    rw [Bool.and_eq_true, decide_eq_true_eq] at he
    have := h i (List.mem_range.1 hi) he.1
    omega
  · exact of_decide_eq_true h1
theorem countP_cut {p : Nat → Bool} {m : Nat} (h : ∀ i, m ≤ i → p i = false) : ∀ N, m ≤ N → (List.range N).countP p = (List.range m).countP p
  | 0, hN => by
    obtain rfl : m = 0 := by omega
    rfl
  | N + 1, hN => by
    by_cases e : m = N + 1
    · rw [e]
    · rw [List.range_succ, List.countP_append, countP_cut h N (by omega)]
      simp [h N (by omega)]
theorem one_shade {j : Job} {l : List Int} {t : Int} (h : ∀ x ∈ l, shadeAt j x = t) : oneS j l = true := by
  unfold oneS
  cases l with
  | nil => rfl
  | cons a r =>
    have h0 := h a List.mem_cons_self
    have : ((a :: r).any fun x => shadeAt j x != shadeAt j ((a :: r).getD 0 0)) = false := by
      rw [List.any_eq_false]
      intro x hx
      have h1 := h x hx
      have h2 : (a :: r).getD 0 0 = a := rfl
      rw [h2, h0, h1]
      simp
    rw [this]
    rfl

theorem fewM_used {j : Job} {cuts : List Cut} (hf : Fit j cuts) (hr : ∀ r ∈ j.rs, rollOk r j.rep = true) : ∃ l c, fewM j = some (l, c) ∧ c ≤ usedN j cuts := by
  have h6 := hf.job.nss
  have h5 := hf.job.nrs
  let U := setOf fun k => decide (k < j.rs.length) && rollUsed cuts k
  have hU : U < 64 := setOf_lt _
  have hUb : ∀ k, k < 6 → bitP U k = (decide (k < j.rs.length) && rollUsed cuts k) := fun k hk => setOf_bit _ hk
  have hmem : ∀ k, k ∈ mem U ↔ k < j.rs.length ∧ rollUsed cuts k = true := fun k => by
    unfold mem
    rw [List.mem_filter, List.mem_range]
    constructor
    · rintro ⟨h1, h2⟩
      rw [hUb k (by omega)] at h2
      simpa using h2
    · rintro ⟨h1, h2⟩
      refine ⟨by omega, ?_⟩
      rw [hUb k (by omega), h2]
      simpa using h1
  have hused : ∀ k, rollUsed cuts k = true → ∃ c ∈ cuts, c.r = (k : Int) := fun k h => by
    unfold rollUsed at h
    simpa using h
  have hlen : (mem U).length = usedN j cuts := by
    unfold mem usedN
    rw [← List.countP_eq_length_filter, countP_cut (m := j.rs.length) _ 5 h5]
    · apply List.countP_congr
      intro k hk
      have := List.mem_range.1 hk
      rw [hUb k (by omega)]
      simp [this]
    · intro i hi
      by_cases i6 : i < 6
      · rw [hUb i i6]
        simp
        omega
      · cases hb : bitP U i with
        | false => rfl
        | true =>
          have h1 := bit_le hb
          have h2 := Nat.pow_le_pow_right (n := 2) (by omega) (show 6 ≤ i by omega)
          omega
  have hshade : oneS j (memL U) = true := by
    apply one_shade (t := (rollOf j (head0 cuts)).sh)
    intro x hx
    unfold memL at hx
    obtain ⟨k, hk, rfl⟩ := List.mem_map.1 hx
    obtain ⟨c, hc, e⟩ := hused k ((hmem k).1 hk).2
    obtain ⟨pre, ho⟩ := fit_one hf hc
    rw [← ho.shade, roll_idx e]
    rfl
  have hnr : U < 2 ^ j.rs.length := low_set hU (by omega) fun i hi hb => by
    rw [hUb i hi] at hb
    simp at hb
    exact hb.1
  have hsz : ∀ i, i < j.ss.length → 1 ≤ szJ j i := fun i hi => by
    have g : j.ss[i]? = some (stripI j i) := by
      unfold stripI
      rw [List.getD_eq_getElem?_getD, List.getElem?_eq_getElem hi]
      rfl
    have := hf.job.ss _ (List.mem_of_getElem? g)
    unfold szJ sizeM
    omega
  have hplaced : ∀ k, k ∈ mem U → Placed j (rollAt j k) (setOf (onRollP cuts k)) (cutPlace cuts) := fun k hk => by
    have get : ∀ i, i < 6 → bitP (setOf (onRollP cuts k)) i = true → ∃ c ∈ cuts, c.s = (i : Int) ∧ c.r = (k : Int) := fun i hi hb => by
      rw [setOf_bit _ hi] at hb
      exact onRollP_iff.1 hb
    refine ⟨fun i hi hb => ?_, fun i hi hb => ?_, fun i hi hb => ?_, fun i m hi hm hb hb' hne => ?_⟩
    · obtain ⟨c, hc, e1, e2⟩ := get i hi hb
      have := hf.good c hc
      omega
    · obtain ⟨c, hc, e1, e2⟩ := get i hi hb
      obtain ⟨pre, ho⟩ := fit_one hf hc
      have h1 := ho.fits
      rw [roll_idx e2, strip_idx e1] at h1
      rw [place_eq hf hc e1]
      have h2 := hsz i (by have := hf.good c hc; omega)
      have e3 : szJ j i = sizeM (stripI j i) := rfl
      omega
    · obtain ⟨c, hc, e1, e2⟩ := get i hi hb
      obtain ⟨pre, ho⟩ := fit_one hf hc
      have h1 := ho.phased
      rw [roll_idx e2, strip_idx e1] at h1
      rw [place_eq hf hc e1]
      exact h1
    · obtain ⟨c, hc, e1, e2⟩ := get i hi hb
      obtain ⟨y, hy, d1, d2⟩ := get m hm hb'
      have h1 := fit_apartQ hf hc hy (by omega) (by omega)
      rw [strip_idx e1, strip_idx d1] at h1
      rw [place_eq hf hc e1, place_eq hf hy d1]
      exact h1
  have hdiv : ¬ divM j (mem U) (2 ^ j.ss.length - 1) = none := by
    have e : 2 ^ j.ss.length - 1 = setOf fun i => (mem U).any fun k => onRollP cuts k i := by
      have h64 : 2 ^ j.ss.length ≤ 64 := Nat.pow_le_pow_right (n := 2) (by omega) h6
      apply bit_ext (by omega) (setOf_lt _)
      intro i hi
      rw [full_bit h6 hi, setOf_bit _ hi]
      by_cases hin : i < j.ss.length
      · rw [decide_eq_true hin]
        obtain ⟨c, hc, e⟩ := fit_all hf hin
        have g := (hf.good c hc).1
        symm
        rw [List.any_eq_true]
        refine ⟨c.r.toNat, (hmem _).2 ⟨by omega, ?_⟩, onRollP_iff.2 ⟨c, hc, e, by omega⟩⟩
        unfold rollUsed
        rw [List.any_eq_true]
        exact ⟨c, hc, by simp; omega⟩
      · rw [decide_eq_false hin]
        symm
        rw [List.any_eq_false]
        intro k _ hq
        obtain ⟨c, hc, e1, e2⟩ := onRollP_iff.1 hq
        have := hf.good c hc
        omega
    rw [e]
    apply div_complete
    · unfold mem
      exact List.Pairwise.filter _ List.nodup_range
    · intro k hk
      have hk' := (hmem k).1 hk
      have gr : j.rs[k]? = some (rollAt j k) := by
        unfold rollAt
        rw [List.getD_eq_getElem?_getD, List.getElem?_eq_getElem hk'.1]
        rfl
      have hro := hr _ (List.mem_of_getElem? gr)
      have b1 := rollOk_iff.1 hro
      have hpl := hplaced k hk
      exact (ent_opt hro _ _ (Nat.le_refl _) (setOf_lt _) hpl (rollAt j k).l (by omega) fun i hi hb => (hpl.fit i hi hb).2.1).2
    · intro k hk
      obtain ⟨c, hc, e⟩ := hused k ((hmem k).1 hk).2
      have g := (hf.good c hc).1
      have hb : bitP (setOf (onRollP cuts k)) c.s.toNat = true := by
        rw [setOf_bit _ (by omega)]
        exact onRollP_iff.2 ⟨c, hc, by omega, e⟩
      have h1 := bit_le hb
      have h2 := Nat.two_pow_pos c.s.toNat
      omega
    · rintro k _ k' _ hne i _ ⟨h1, h2⟩
      obtain ⟨c, hc, e1, e2⟩ := onRollP_iff.1 h1
      obtain ⟨y, hy, d1, d2⟩ := onRollP_iff.1 h2
      have := fit_uniq hf hc hy (by omega)
      subst this
      omega
  have hN : usedN j cuts ≤ j.rs.length := by
    unfold usedN
    have := List.countP_le_length (p := rollUsed cuts) (l := List.range j.rs.length)
    rw [List.length_range] at this
    exact this
  apply fewM_le hN hnr
  unfold tryS
  rw [if_pos ⟨by rw [hlen], hshade⟩]
  exact hdiv

/-- What is packed does not depend on the other rolls. -/
theorem packTo_job (ss : List Strip) (rep : Int) (a b : List Roll) (r : Roll) (T : Nat → Int × Int) (set n : Nat) : packTo ⟨ss, a, rep⟩ r T set n = packTo ⟨ss, b, rep⟩ r T set n := rfl
theorem tabF_job (ss : List Strip) (rep : Int) (a b : List Roll) (r : Roll) : ∀ k, tabF ⟨ss, a, rep⟩ r k = tabF ⟨ss, b, rep⟩ r k
  | 0 => rfl
  | k + 1 => by
    unfold tabF
    rw [tabF_job ss rep a b r k]
    rfl
theorem ent_job (ss : List Strip) (rep : Int) (a b : List Roll) (r : Roll) : ent ⟨ss, a, rep⟩ r = ent ⟨ss, b, rep⟩ r := by
  funext q
  unfold ent
  rw [tabF_job ss rep a b r q]
theorem cutsF_job (ss : List Strip) (rep : Int) (a b : List Roll) (r : Roll) (k : Int) : ∀ f set, cutsF ⟨ss, a, rep⟩ r k f set = cutsF ⟨ss, b, rep⟩ r k f set
  | 0, _ => rfl
  | f + 1, set => by
    unfold cutsF
    rw [ent_job ss rep a b r, cutsF_job ss rep a b r k f]
    rfl
theorem divM_more (ss : List Strip) (rep : Int) (a : List Roll) (x : Roll) : ∀ (rs : List Nat), (∀ k ∈ rs, k < a.length) → ∀ set, divM ⟨ss, a ++ [x], rep⟩ rs set = divM ⟨ss, a, rep⟩ rs set
  | [], _, set => rfl
  | k :: rs, hk, set => by
    have e : rollAt ⟨ss, a ++ [x], rep⟩ k = rollAt ⟨ss, a, rep⟩ k := by
      unfold rollAt
      rw [List.getD_eq_getElem?_getD, List.getD_eq_getElem?_getD]
      dsimp only
      rw [List.getElem?_append_left (hk k List.mem_cons_self)]
    have ih := divM_more ss rep a x rs fun k' h => hk k' (List.mem_cons_of_mem _ h)
    unfold divM
    congr 1
    funext p
    rw [e, ent_job ss rep (a ++ [x]) a, ih]
    unfold cutsR
    rw [cutsF_job ss rep (a ++ [x]) a]
theorem fewM_more {ss : List Strip} {rep : Int} {a : List Roll} {x : Roll} {l : List Cut} {n : Nat} (h : fewM ⟨ss, a, rep⟩ = some (l, n)) : ∃ l' n', fewM ⟨ss, a ++ [x], rep⟩ = some (l', n') ∧ n' ≤ n := by
  obtain ⟨hn, s, hs, ht⟩ := fewM_some h
  dsimp only at hn hs
  have hlt := memL_lt (j := ⟨ss, a, rep⟩) hs
  dsimp only at hlt
  apply fewM_le (s := s)
  · dsimp only
    rw [List.length_append, List.length_singleton]
    omega
  · dsimp only
    rw [List.length_append, List.length_singleton, Nat.pow_succ]
    omega
  · unfold tryS at *
    split at ht
    · rename_i hc
      have hsh : ∀ k ∈ mem s, shadeAt ⟨ss, a ++ [x], rep⟩ k = shadeAt ⟨ss, a, rep⟩ k := fun k hk => by
        unfold shadeAt
        rw [List.getD_eq_getElem?_getD, List.getD_eq_getElem?_getD, Int.toNat_natCast]
        dsimp only
        rw [List.getElem?_append_left (hlt k hk)]
      have hone : oneS ⟨ss, a ++ [x], rep⟩ (memL s) = oneS ⟨ss, a, rep⟩ (memL s) := by
        unfold oneS memL
        cases hm : mem s with
        | nil => rfl
        | cons k0 r =>
          rw [hm] at hsh
          congr 1
          rw [Bool.eq_iff_iff, List.any_eq_true, List.any_eq_true]
          have h0 : ((k0 :: r).map fun (i : Nat) => (i : Int)).getD 0 0 = (k0 : Int) := rfl
          rw [h0, hsh k0 List.mem_cons_self]
          constructor
          · rintro ⟨y, hy, he⟩
            obtain ⟨k, hk, rfl⟩ := List.mem_map.1 hy
            exact ⟨_, hy, by rw [← hsh k hk]; exact he⟩
          · rintro ⟨y, hy, he⟩
            obtain ⟨k, hk, rfl⟩ := List.mem_map.1 hy
            exact ⟨_, hy, by rw [hsh k hk]; exact he⟩
      rw [if_pos ⟨hc.1, by rw [hone]; exact hc.2⟩]
      dsimp only
      rw [divM_more ss rep a x _ hlt]
      dsimp only at ht
      rw [ht]
      simp
    · cases ht
end Go.AM.D
end

section
/-
The lower bound is no more than the fewest rolls (plain).
-/
namespace Go.AM.D
open Go

theorem sumF_cut {g : Nat → Int} {m : Nat} (h : ∀ i, m ≤ i → g i = 0) : ∀ N, m ≤ N → sumF g (List.range N) = sumF g (List.range m)
  | 0, hN => by
    obtain rfl : m = 0 := by omega
    rfl
  | N + 1, hN => by
    by_cases e : m = N + 1
    · rw [e]
    · rw [List.range_succ, sumF_append, sumF_cut h N (by omega)]
      simp [sumF, h N (by omega)]
theorem range_rolls (j : Job) : (List.range j.rs.length).map (rollAt j) = j.rs := by
  apply List.ext_getElem
  · simp
  · intro i h1 h2
    simp only [List.getElem_map, List.getElem_range]
    unfold rollAt
    rw [List.getD_eq_getElem?_getD, List.getElem?_eq_getElem h2]
    rfl
theorem sum_mem {j : Job} (h5 : j.rs.length ≤ 5) {s : Nat} (hs : s < 2 ^ j.rs.length) {g : Roll → Int} (hg : ∀ r, 0 ≤ g r) : sumF g ((mem s).map (rollAt j)) ≤ sumF g j.rs := by
  have hlt := memL_lt hs
  rw [sumF_map]
  have e1 : sumF (fun k => g (rollAt j k)) (mem s) = sumF (fun k => if k < j.rs.length then g (rollAt j k) else 0) (mem s) := sumF_congr _ fun k hk => by rw [if_pos (hlt k hk)]
  have e2 : sumF (fun k => if k < j.rs.length then g (rollAt j k) else 0) (mem s) ≤ sumF (fun k => if k < j.rs.length then g (rollAt j k) else 0) (List.range 5) := sumF_filter _ _ fun k _ => by
    split
    · exact hg _
    · exact Int.le_refl _
  have e3 := sumF_cut (g := fun k => if k < j.rs.length then g (rollAt j k) else 0) (m := j.rs.length) (fun i hi => if_neg (by omega)) 5 h5
  have e4 : sumF (fun k => if k < j.rs.length then g (rollAt j k) else 0) (List.range j.rs.length) = sumF (fun k => g (rollAt j k)) (List.range j.rs.length) := sumF_congr _ fun k hk => if_pos (List.mem_range.1 hk)
  rw [← sumF_map g (rollAt j) (List.range j.rs.length), range_rolls] at e4
  omega
theorem szT_full {j : Job} (h6 : j.ss.length ≤ 6) : ∀ m, m ≤ j.ss.length → szT (szJ j) m (2 ^ j.ss.length - 1) = ((j.ss.take m).map fun s => s.b - s.a).sum
  | 0, _ => by simp [szT]
  | m + 1, hm => by
    unfold szT
    rw [szT_full h6 m (by omega), full_bit h6 (show m < 6 by omega), decide_eq_true (show m < j.ss.length by omega), if_pos rfl]
    have g : j.ss[m]? = some (stripI j m) := by
      unfold stripI
      rw [List.getD_eq_getElem?_getD, List.getElem?_eq_getElem (show m < j.ss.length by omega)]
      rfl
    have : j.ss.take (m + 1) = j.ss.take m ++ [stripI j m] := by
      rw [List.take_add_one, g]
      rfl
    rw [this, List.map_append, List.sum_append]
    simp [szJ, sizeM]
theorem lb_few {j : Job} (hj : Right j) (hjo : jobOk j = true) {l : List Cut} {n : Nat} (hf : fewM j = some (l, n)) (hn0 : 0 < lenM j.ss) : 0 < (lbTo (lenM j.ss) (isort ltR j.rs)).best ∧ (lbTo (lenM j.ss) (isort ltR j.rs)).best ≤ n := by
  have hjo := jobOk_iff.1 hjo
  have h6 := hj.nss
  have h5 := hj.nrs
  obtain ⟨hn, s, hs, ht⟩ := fewM_some hf
  have hlt := memL_lt hs
  unfold tryS at ht
  split at ht
  rotate_left
  · cases ht
  rename_i hc
  have h64 : 2 ^ j.ss.length ≤ 64 := Nat.pow_le_pow_right (n := 2) (by omega) h6
  have hsum := div_sum hj hjo.2.2 hjo.2.1 (mem s) (2 ^ j.ss.length - 1) l hlt (by omega) ht
  rw [szT_full h6 _ (Nat.le_refl _), List.take_length] at hsum
  have hneed : lenM j.ss ≤ sumF (fun y => y.l) ((mem s).map (rollAt j)) := by
    rw [sumF_map]
    exact hsum
  have hone : ∀ k ∈ mem s, (rollAt j k).sh = shadeAt j ((memL s).getD 0 0) := fun k hk => by
    have h1 := hc.2
    unfold oneS at h1
    rw [Bool.not_eq_true', List.any_eq_false] at h1
    have h2 := h1 (k : Int) (List.mem_map_of_mem hk)
    have h3 : shadeAt j (k : Int) = (rollAt j k).sh := by unfold shadeAt rollAt; rw [Int.toNat_natCast]
    rw [h3, Bool.not_eq_true, bne_eq_false_iff_eq] at h2
    exact h2
  generalize shadeAt j ((memL s).getD 0 0) = t at *
  have hSt : ∀ y ∈ (mem s).map (rollAt j), y.sh = t := fun y hy => by
    obtain ⟨k, hk, rfl⟩ := List.mem_map.1 hy
    exact hone k hk
  have hSn : ((((mem s).map (rollAt j)).length : Nat) : Int) = n := by
    rw [List.length_map]
    exact hc.1
  have hperm := isort_perm (lt := ltR) j.rs
  have hsort := sorted_isort j.rs
  have hcnt : (n : Int) ≤ cntR t (isort ltR j.rs) := by
    unfold cntR
    rw [sumF_perm _ hperm]
    have h1 := sum_mem h5 hs (g := indS t) fun r => (ind_in t r).1
    have h2 : sumF (indS t) ((mem s).map (rollAt j)) = ((((mem s).map (rollAt j)).length : Nat) : Int) := by
      generalize (mem s).map (rollAt j) = S at *
      clear hneed hSn h1
      induction S with
      | nil => rfl
      | cons y S ih =>
        rw [sumF, ih fun z hz => hSt z (List.mem_cons_of_mem _ hz), List.length_cons]
        unfold indS
        rw [if_pos (hSt y List.mem_cons_self)]
        omega
    omega
  have hn1 : 1 ≤ (n : Int) := by
    cases hm : (mem s).map (rollAt j) with
    | nil =>
      rw [hm] at hneed
      simp only [sumF] at hneed
      omega
    | cons y S =>
      rw [hm, List.length_cons] at hSn
      omega
  obtain ⟨a, x, b, e1, e2, e3⟩ := prefix_n (t := t) hn1 (isort ltR j.rs) [] (by show (0 : Int) < n; omega) (by rw [List.nil_append]; exact hcnt)
  rw [List.nil_append] at e1
  have htop := top_n hsort e1 e2 e3 (S := (mem s).map (rollAt j)) (need := lenM j.ss) (by
    rw [sumF_perm _ hperm]
    exact sum_mem h5 hs fun r => by split <;> omega) hSt hSn hneed
  have hok := lb_ok (lenM j.ss) _ (isort ltR j.rs) rfl hsort
  rw [← e2] at htop e3
  have := hok.hit a x b e1 htop
  omega
end Go.AM.D
end
