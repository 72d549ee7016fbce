/-
The cuts of the fewest rolls are accepted (plain).
-/
import Derived.Test.YtejjeckiplihbaaDOptG
set_option linter.unusedSimpArgs false
set_option maxRecDepth 20000

namespace Go.AM.D
open Go

/-- What is known of a cut of a packed or divided set. -/
structure CutIn (j : Job) (k : Nat) (set : Nat) (hi : Int) (c : Cut) : Prop where
  r : c.r = (k : Int)
  s : ∃ i : Nat, c.s = (i : Int) ∧ i < j.ss.length ∧ bitP set i = true ∧ c.a + szJ j i ≤ hi ∧ ((rollAt j k).ph + c.a) % j.rep = (stripI j i).a % j.rep
  a : 0 ≤ c.a
def Apart (j : Job) (y c : Cut) : Prop := ¬ y.s = c.s ∧ clash j c y = false
theorem cuts_facts {j : Job} (hj : Right j) (hss : ∀ s ∈ j.ss, stripOk s = true) {k : Nat} (hr : rollOk (rollAt j k) j.rep = true) : ∀ (f q : Nat), q ≤ f → q < 64 → (ent j (rollAt j k) q).1 < NEV →
    (∀ c ∈ cutsF j (rollAt j k) k f q, CutIn j k q (ent j (rollAt j k) q).1 c) ∧ (cutsF j (rollAt j k) k f q).Pairwise (Apart j) ∧ ((cutsF j (rollAt j k) k f q).length : Int) = szT (fun _ => 1) j.ss.length q
  | 0, q, h, _, _ => by
    obtain rfl : q = 0 := by omega
    exact ⟨(fun c h => by cases h), List.Pairwise.nil, by rw [szT_zero]; rfl⟩
  | f + 1, q, h, hq, hn => by
    unfold cutsF
    by_cases e : q = 0
    · subst e
      rw [if_pos rfl]
      exact ⟨(fun c h => by cases h), List.Pairwise.nil, by rw [szT_zero]; rfl⟩
    · rw [if_neg e]
      obtain ⟨i, li⟩ := ent_last (show 1 ≤ q by omega) hn
      have ei : (ent j (rollAt j k) q).2.toNat = i := by rw [li.eq]; rfl
      rw [ei, li.eq]
      have lt := bit_lt li.bit
      have hN := hj.nss
      have il := li.lt
      obtain ⟨h1, h2, h3⟩ := cuts_facts hj hss hr f (q - 2 ^ i) (by omega) (by omega) li.sub
      have nx := next_in (phase := (rollAt j k).ph) (rep := j.rep) (at' := (ent j (rollAt j k) (q - 2 ^ i)).1) (a := (stripI j i).a) (rollOk_iff.1 hr).1.1
      have ne := next_eq (phase := (rollAt j k).ph) (rep := j.rep) (at' := (ent j (rollAt j k) (q - 2 ^ i)).1) (a := (stripI j i).a) (rollOk_iff.1 hr).1.1
      have lo := (ent_in hj hr hss (q - 2 ^ i)).lo
      have at' := li.at'
      have esz : szJ j i = sizeM (stripI j i) := rfl
      have hb := fun m (hm : m < 6) => diff_bit hq (pow_64 (show i < 6 by omega)) (one_sub hq (by omega) li.bit) hm
      have g : j.ss[i]? = some (stripI j i) := by
        unfold stripI
        rw [List.getD_eq_getElem?_getD, List.getElem?_eq_getElem il]
        rfl
      have hsz := stripOk_iff.1 (hss _ (List.mem_of_getElem? g))
      have hsz1 : 1 ≤ sizeM (stripI j i) := by unfold sizeM; omega
      have ea : (ent j (rollAt j k) q).1 - sizeM (stripI j i) = nextM (rollAt j k).ph j.rep (ent j (rollAt j k) (q - 2 ^ i)).1 (stripI j i).a := by omega
      refine ⟨fun c hc => ?_, ?_, ?_⟩
      · rcases List.mem_cons.1 hc with rfl | hc
        · exact ⟨rfl, ⟨i, rfl, il, li.bit, by dsimp only; omega, by dsimp only; rw [ea]; exact ne⟩, by dsimp only; omega⟩
        · obtain ⟨c1, ⟨m, m1, m2, m3, m4, m5⟩, c3⟩ := h1 c hc
          refine ⟨c1, ⟨m, m1, m2, ?_, by omega, m5⟩, c3⟩
          rw [hb m (by omega)] at m3
          simp at m3
          exact m3.1
      · refine List.pairwise_cons.2 ⟨fun c hc => ?_, h2⟩
        obtain ⟨c1, ⟨m, m1, m2, m3, m4, m5⟩, c3⟩ := h1 c hc
        constructor
        · dsimp only
          intro he
          rw [m1] at he
          obtain rfl : i = m := by omega
          rw [hb i (by omega), one_bit (by omega) (by omega)] at m3
          simp at m3
        · unfold clash
          rw [strip_idx m1]
          have e2 : szJ j m = sizeM (stripI j m) := rfl
          have : ¬ ((ent j (rollAt j k) q).1 - sizeM (stripI j i) < c.a + sizeM (stripI j m)) := by omega
          dsimp only
          rw [decide_eq_false this]
          simp
      · rw [List.length_cons, szT_bit (fun _ => 1) hq hN il li.bit, ← h3]
        omega
structure DivIn (j : Job) (rs : List Nat) (set : Nat) (c : Cut) : Prop where
  ex : ∃ k ∈ rs, CutIn j k set (rollAt j k).l c
theorem div_facts {j : Job} (hj : Right j) (hr : ∀ r ∈ j.rs, rollOk r j.rep = true) (hss : ∀ s ∈ j.ss, stripOk s = true) : ∀ (rs : List Nat) (set : Nat) (l : List Cut), rs.Nodup → (∀ k ∈ rs, k < j.rs.length) → set < 64 → divM j rs set = some l →
    (∀ c ∈ l, DivIn j rs set c) ∧ l.Pairwise (Apart j) ∧ (l.length : Int) = szT (fun _ => 1) j.ss.length set ∧ ∀ k ∈ rs, ∃ c ∈ l, c.r = (k : Int)
  | [], set, l, _, _, _, h => by
    unfold divM at h
    split at h
    · rename_i e
      subst e
      cases h
      exact ⟨(fun c h => by cases h), List.Pairwise.nil, by rw [szT_zero]; rfl, (fun k h => by cases h)⟩
    · cases h
  | k :: rs, set, l, hnd, hk, hs, h => by
    unfold divM at h
    obtain ⟨q, q1, q2, q3, q4⟩ := search_some hs _ set (Nat.le_refl _) hs (sub_self set) h
    split at q4
    · cases q4
    · rename_i hnev
      rw [Option.map_eq_some_iff] at q4
      obtain ⟨rest, hrest, rfl⟩ := q4
      have hkn := hk k List.mem_cons_self
      have gr : j.rs[k]? = some (rollAt j k) := by
        unfold rollAt
        rw [List.getD_eq_getElem?_getD, List.getElem?_eq_getElem hkn]
        rfl
      have hro := hr _ (List.mem_of_getElem? gr)
      have hnd' := List.nodup_cons.1 hnd
      obtain ⟨r1, r2, r3, r4⟩ := div_facts hj hr hss rs (set - q) rest hnd'.2 (fun k' h => hk k' (List.mem_cons_of_mem _ h)) (by omega) hrest
      obtain ⟨p1, p2, p3⟩ := cuts_facts hj hss hro q q (Nat.le_refl _) q2 (by omega)
      have hfit : (ent j (rollAt j k) q).1 ≤ (rollAt j k).l := by
        rcases (ent_in hj hro hss q).hi with e | e
        · omega
        · exact e
      have hb := fun m (hm : m < 6) => diff_bit hs q2 q3 hm
      have hsb := (sub_bits hs q2).1 q3
      have hN := hj.nss
      have hd : ∀ c ∈ rest, ∀ y ∈ cutsR j (rollAt j k) k q, Apart j y c := fun c hc y hy => by
        obtain ⟨k', hk', ⟨c1, ⟨m, m1, m2, m3, _, _⟩, _⟩⟩ := (r1 c hc).ex
        obtain ⟨y1, ⟨i, i1, i2, i3, _, _⟩, _⟩ := p1 y hy
        constructor
        · intro he
          rw [i1, m1] at he
          obtain rfl : i = m := by omega
          rw [hb i (by omega), i3] at m3
          simp at m3
        · unfold clash
          have : ¬ y.r = c.r := by
            rw [y1, c1]
            intro he
            have : k = k' := by omega
            exact hnd'.1 (this ▸ hk')
          rw [decide_eq_false this]
          rfl
      refine ⟨fun c hc => ?_, List.pairwise_append.2 ⟨p2, r2, fun y hy c hc => hd c hc y hy⟩, ?_, fun k' hk' => ?_⟩
      · rcases List.mem_append.1 hc with hc | hc
        · obtain ⟨c1, ⟨i, i1, i2, i3, i4, i5⟩, c3⟩ := p1 c hc
          exact ⟨k, List.mem_cons_self, c1, ⟨i, i1, i2, hsb i (by omega) i3, by omega, i5⟩, c3⟩
        · obtain ⟨k', hk', ⟨c1, ⟨m, m1, m2, m3, m4, m5⟩, c3⟩⟩ := (r1 c hc).ex
          refine ⟨k', List.mem_cons_of_mem _ hk', c1, ⟨m, m1, m2, ?_, m4, m5⟩, c3⟩
          rw [hb m (by omega)] at m3
          simp at m3
          exact m3.1
      · rw [List.length_append, Int.natCast_add, r3]
        have e1 := szT_sub (fun _ => 1) hs q2 q3 j.ss.length hN
        have : ((cutsR j (rollAt j k) k q).length : Int) = szT (fun _ => 1) j.ss.length q := p3
        omega
      · rcases List.mem_cons.1 hk' with rfl | hk'
        · refine ⟨_, List.mem_append_left _ (by rw [cutsR_eq q1]; exact List.mem_cons_self), rfl⟩
        · obtain ⟨c, hc, e⟩ := r4 k' hk'
          exact ⟨c, List.mem_append_right _ hc, e⟩
theorem firstE_zeroP {j : Job} {c0 : Cut} : ∀ (post pre : List Cut), (∀ a c b, post = a ++ c :: b → oneE j c0 (pre ++ a) c = 0) → firstE j c0 pre post = 0
  | [], _, _ => rfl
  | x :: post, pre, h => by
    have h0 := h [] x post rfl
    rw [List.append_nil] at h0
    rw [firstE_next h0]
    apply firstE_zeroP
    intro a c b e
    have := h (x :: a) c b (by rw [e]; rfl)
    rw [show pre ++ x :: a = (pre ++ [x]) ++ a by simp] at this
    exact this
theorem szT_ones {j : Job} (h6 : j.ss.length ≤ 6) : ∀ m, m ≤ j.ss.length → szT (fun _ => 1) m (2 ^ j.ss.length - 1) = m
  | 0, _ => rfl
  | m + 1, hm => by
    unfold szT
    rw [szT_ones h6 m (by omega), full_bit h6 (show m < 6 by omega), decide_eq_true (show m < j.ss.length by omega), if_pos rfl]
    omega
theorem accept {j : Job} (hje : jobE j = 0) {l : List Cut} {n : Nat} (hf : fewM j = some (l, n)) : checkM j l = 0 ∧ usedN j l = n := by
  obtain ⟨hj, hjo⟩ := jobE_zero hje
  have hjo := jobOk_iff.1 hjo
  have h6 := hj.nss
  have h5 := hj.nrs
  obtain ⟨hn, s, hs, ht⟩ := fewM_some hf
  have hlt := memL_lt hs
  unfold tryS at ht
  split at ht
  rotate_left
  · cases ht
  rename_i hc
  have h64 : 2 ^ j.ss.length ≤ 64 := Nat.pow_le_pow_right (n := 2) (by omega) h6
  have hnd : (mem s).Nodup := List.Pairwise.filter _ List.nodup_range
  obtain ⟨d1, d2, d3, d4⟩ := div_facts hj hjo.2.2 hjo.2.1 (mem s) (2 ^ j.ss.length - 1) l hnd hlt (by omega) ht
  rw [szT_ones h6 _ (Nat.le_refl _)] at d3
  have hone : ∀ k ∈ mem s, (rollAt j k).sh = shadeAt j ((memL s).getD 0 0) := fun k hk => by
    have h1 := hc.2
    unfold oneS at h1
    rw [Bool.not_eq_true', List.any_eq_false] at h1
    have h2 := h1 (k : Int) (List.mem_map_of_mem hk)
    have h3 : shadeAt j (k : Int) = (rollAt j k).sh := by unfold shadeAt rollAt; rw [Int.toNat_natCast]
    rw [h3, Bool.not_eq_true, bne_eq_false_iff_eq] at h2
    exact h2
  generalize shadeAt j ((memL s).getD 0 0) = t at *
  have hsh : ∀ c ∈ l, (rollOf j c).sh = t := fun c hcl => by
    obtain ⟨k, hk, ci⟩ := (d1 c hcl).ex
    rw [roll_idx ci.r]
    exact hone k hk
  constructor
  · unfold checkM checkL
    rw [if_pos hje]
    have h0 : firstE j (head0 l) [] l = 0 := by
      apply firstE_zeroP
      intro a c b e
      rw [List.nil_append]
      have hcl : c ∈ l := by rw [e]; simp
      obtain ⟨k, hk, c1, ⟨i, i1, i2, i3, i4, i5⟩, c3⟩ := (d1 c hcl).ex
      have hk' := hlt k hk
      have hp : ∀ y ∈ a, Apart j y c := fun y hy => by
        rw [e] at d2
        exact (List.pairwise_append.1 d2).2.2 y hy c List.mem_cons_self
      have hhead : head0 l ∈ l := by
        cases l with
        | nil => cases hcl
        | cons x r => exact List.mem_cons_self
      apply oneE_0
      · rw [inCut_iff]
        omega
      · rw [List.any_eq_false]
        intro y hy
        have := (hp y hy).1
        simpa using this
      · unfold fits
        rw [strip_idx i1, roll_idx c1]
        have : szJ j i = sizeM (stripI j i) := rfl
        simp
        omega
      · constructor
        · unfold phased
          rw [strip_idx i1, roll_idx c1]
          simpa using i5
        · rw [hsh c hcl, hsh _ hhead]
      · rw [List.any_eq_false]
        intro y hy
        rw [(hp y hy).2]
        decide
    rw [if_pos h0, if_neg (by omega)]
  · unfold usedN
    have h1 : (mem s).length = n := by omega
    have h2 : (mem s).length = (List.range 5).countP (bitP s) := by
      unfold mem
      rw [List.countP_eq_length_filter]
    rw [countP_cut (m := j.rs.length) _ 5 h5] at h2
    · rw [← h1, h2]
      apply List.countP_congr
      intro k hk
      have hk := List.mem_range.1 hk
      have hm : k ∈ mem s ↔ bitP s k = true := by
        unfold mem
        rw [List.mem_filter, List.mem_range]
        exact ⟨fun h => h.2, fun h => ⟨by omega, h⟩⟩
      rw [← hm]
      unfold rollUsed
      rw [List.any_eq_true]
      constructor
      · rintro ⟨c, hcl, e⟩
        obtain ⟨k', hk', ci⟩ := (d1 c hcl).ex
        have e := of_decide_eq_true e
        rw [ci.r] at e
        have : k' = k := by omega
        exact this ▸ hk'
      · intro h
        obtain ⟨c, hcl, e⟩ := d4 k h
        exact ⟨c, hcl, by simpa using e⟩
    · intro i hi
      cases hb : bitP s i with
      | false => rfl
      | true =>
        have h1 := bit_le hb
        have h2 := Nat.pow_le_pow_right (n := 2) (by omega) hi
        omega
end Go.AM.D
