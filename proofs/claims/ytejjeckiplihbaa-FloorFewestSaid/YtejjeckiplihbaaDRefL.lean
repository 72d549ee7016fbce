/-
The lower bound: the document's LowerBound; both answers agree.
-/
import Derived.Test.YtejjeckiplihbaaDRefF
import Derived.Test.YtejjeckiplihbaaDLb
set_option linter.unusedSimpArgs false
set_option maxRecDepth 20000

namespace Go.AM.D
open Go Go.AM Go.Proofs

structure Rs where
  n : Int
  sum : Int
  tone : Int
  one : Bool
/-- What the document reckons of a set of rolls. -/
def rsM (j : Job) (s : Nat) : Nat → Rs
  | 0 => ⟨0, 0, -1, true⟩
  | m + 1 => if bitP s m = true then ⟨(rsM j s m).n + 1, (rsM j s m).sum + (rollAt j m).l, (rollAt j m).sh, if 0 ≤ (rsM j s m).tone ∧ ¬ (rollAt j m).sh = (rsM j s m).tone then false else (rsM j s m).one⟩ else rsM j s m
def setM (s m : Nat) : List Nat := (List.range m).filter (bitP s)
theorem setM_succ (s m : Nat) : setM s (m + 1) = if bitP s m = true then setM s m ++ [m] else setM s m := by
  unfold setM
  rw [List.range_succ, List.filter_append]
  cases h : bitP s m <;> simp [h]
structure RsOk (j : Job) (F : List Nat) (x : Rs) : Prop where
  n : x.n = F.length
  sum : x.sum = lenL j F
  nil : F = [] → x.tone = -1 ∧ x.one = true
  some : ¬ F = [] → 0 ≤ x.tone ∧ (∃ k ∈ F, (rollAt j k).sh = x.tone) ∧ (x.one = true ↔ ∀ k ∈ F, (rollAt j k).sh = x.tone)
theorem rs_ok {j : Job} (hsh : ∀ k, k < j.rs.length → 0 ≤ (rollAt j k).sh) (s : Nat) : ∀ m, m ≤ j.rs.length → RsOk j (setM s m) (rsM j s m)
  | 0, _ => ⟨rfl, rfl, fun _ => ⟨rfl, rfl⟩, fun h => absurd rfl h⟩
  | m + 1, hm => by
    have ih := rs_ok hsh s m (by omega)
    have h0 := hsh m (by omega)
    rw [setM_succ]
    unfold rsM
    cases hb : bitP s m with
    | false => simpa using ih
    | true =>
      rw [if_pos rfl, if_pos rfl]
      generalize setM s m = F at *
      generalize rsM j s m = x at *
      refine ⟨?_, ?_, fun h => by simp at h, fun _ => ⟨h0, ⟨m, by simp, rfl⟩, ?_⟩⟩
      · dsimp only
        rw [ih.n, List.length_append, List.length_singleton]
        omega
      · dsimp only
        rw [ih.sum]
        unfold lenL
        rw [sumF_append]
        simp [sumF]
      · dsimp only
        by_cases hF : F = []
        · obtain ⟨t1, t2⟩ := ih.nil hF
          rw [if_neg (by omega), t2, hF]
          simp
        · obtain ⟨t1, ⟨k, hk, e⟩, t3⟩ := ih.some hF
          by_cases c : (rollAt j m).sh = x.tone
          · rw [if_neg (fun h => h.2 c), t3]
            constructor
            · intro h i hi
              rcases List.mem_append.1 hi with hi | hi
              · rw [h i hi, c]
              · rw [List.mem_singleton.1 hi]
            · intro h i hi
              rw [h i (by simp [hi]), c]
          · rw [if_pos ⟨t1, c⟩]
            constructor
            · intro h; cases h
            · intro h
              have := h k (by simp [hk])
              rw [e] at this
              exact absurd this.symm c
def goodS (j : Job) (need : Int) (s : Nat) : Prop := (rsM j s j.rs.length).one = true ∧ need ≤ (rsM j s j.rs.length).sum
instance (j : Job) (need : Int) (s : Nat) : Decidable (goodS j need s) := by unfold goodS; infer_instance
def rbM (j : Job) (need : Int) : Nat → Int
  | 0 => -1
  | s + 1 => if goodS j need s ∧ (rbM j need s < 0 ∨ (rsM j s j.rs.length).n < rbM j need s) then (rsM j s j.rs.length).n else rbM j need s
theorem rb_facts (j : Job) (need : Int) (hn : ∀ s, 0 ≤ (rsM j s j.rs.length).n) : ∀ N : Nat, (0 ≤ rbM j need N → ∃ s, s < N ∧ goodS j need s ∧ rbM j need N = (rsM j s j.rs.length).n) ∧ ∀ s, s < N → goodS j need s → 0 ≤ rbM j need N ∧ rbM j need N ≤ (rsM j s j.rs.length).n
  | 0 => ⟨fun h => absurd h (show ¬ (0 : Int) ≤ -1 by decide), fun s h => by omega⟩
  | N + 1 => by
    obtain ⟨h1, h2⟩ := rb_facts j need hn N
    have hnN := hn N
    unfold rbM
    split
    · rename_i h
      refine ⟨fun _ => ⟨N, by omega, h.1, rfl⟩, fun s hs hg => ?_⟩
      by_cases e : s = N
      · subst e; omega
      · have := h2 s (by omega) hg
        omega
    · rename_i h
      refine ⟨fun h0 => ?_, fun s hs hg => ?_⟩
      · obtain ⟨s, hs, e⟩ := h1 h0
        exact ⟨s, by omega, e⟩
      · by_cases e : s = N
        · subst e
          by_cases q : rbM j need s < 0
          · exact absurd ⟨hg, .inl q⟩ h
          · by_cases q2 : (rsM j s j.rs.length).n < rbM j need s
            · exact absurd ⟨hg, .inr q2⟩ h
            · omega
        · exact h2 s (by omega) hg
def refLV (j : Job) : V :=
  if ¬ jobE j = 0 then .tup [.int .i64 0, .bool false, .int .i64 (jobE j)]
  else .tup [.int .i64 (max (rbM j (lenM j.ss) (2 ^ j.rs.length)) 0), .bool (decide (0 ≤ rbM j (lenM j.ss) (2 ^ j.rs.length))), .int .i64 0]
/-- A set of rolls of a shade that is long enough bounds the answer. -/
theorem lb_core {j : Job} (hj : Right j) {s n : Nat} (hs : s < 2 ^ j.rs.length) {t need : Int} (hone : ∀ k ∈ mem s, (rollAt j k).sh = t) (hlen : (mem s).length = n) (hneed : need ≤ lenL j (mem s)) (hn0 : 0 < need) : 0 < (lbTo need (isort ltR j.rs)).best ∧ (lbTo need (isort ltR j.rs)).best ≤ n := by
  have h5 := hj.nrs
  replace hneed : need ≤ sumF (fun y => y.l) ((mem s).map (rollAt j)) := by
    rw [sumF_map]
    exact hneed
  have hSt : ∀ y ∈ (mem s).map (rollAt j), y.sh = t := fun y hy => by
    obtain ⟨k, hk, rfl⟩ := List.mem_map.1 hy
    exact hone k hk
  have hSn : ((((mem s).map (rollAt j)).length : Nat) : Int) = n := by
    rw [List.length_map, hlen]
  have hperm := isort_perm (lt := ltR) j.rs
  have hsort := sorted_isort j.rs
  have hcnt : (n : Int) ≤ cntR t (isort ltR j.rs) := by
    unfold cntR
    rw [sumF_perm _ hperm]
    have h1 := sum_mem h5 hs (g := indS t) fun r => (ind_in t r).1
    have h2 : sumF (indS t) ((mem s).map (rollAt j)) = ((((mem s).map (rollAt j)).length : Nat) : Int) := by
      generalize (mem s).map (rollAt j) = S at *
      clear hneed hSn h1
      induction S with
      | nil => rfl
      | cons y S ih =>
        rw [sumF, ih fun z hz => hSt z (List.mem_cons_of_mem _ hz), List.length_cons]
        unfold indS
        rw [if_pos (hSt y List.mem_cons_self)]
        omega
    omega
  have hn1 : 1 ≤ (n : Int) := by
    cases hm : (mem s).map (rollAt j) with
    | nil =>
      rw [hm] at hneed
      simp only [sumF] at hneed
      omega
    | cons y S =>
      rw [hm, List.length_cons] at hSn
      omega
  obtain ⟨a, x, b, e1, e2, e3⟩ := prefix_n (t := t) hn1 (isort ltR j.rs) [] (by show (0 : Int) < n; omega) (by rw [List.nil_append]; exact hcnt)
  rw [List.nil_append] at e1
  have htop := top_n hsort e1 e2 e3 (S := (mem s).map (rollAt j)) (need := need) (by
    rw [sumF_perm _ hperm]
    exact sum_mem h5 hs fun r => by split <;> omega) hSt hSn hneed
  have hok := lb_ok need _ (isort ltR j.rs) rfl hsort
  rw [← e2] at htop e3
  have := hok.hit a x b e1 htop
  omega
theorem perm_lift {α β : Type} {f : α → β} {L X : List β} (h : L.Perm X) : ∀ M : List α, X = M.map f → ∃ M' : List α, M'.Perm M ∧ M'.map f = L := by
  induction h with
  | nil =>
    intro M hM
    exact ⟨M, List.Perm.refl _, hM.symm⟩
  | cons x _ ih =>
    intro M hM
    cases M with
    | nil => cases hM
    | cons a M =>
      rw [List.map_cons] at hM
      obtain ⟨h1, h2⟩ := List.cons.inj hM
      obtain ⟨M', p, e⟩ := ih M h2
      exact ⟨a :: M', p.cons a, by rw [List.map_cons, e, h1]⟩
  | swap x y l =>
    intro M hM
    cases M with
    | nil => cases hM
    | cons a M =>
      cases M with
      | nil => simp at hM
      | cons b M =>
        simp only [List.map_cons] at hM
        obtain ⟨h1, h2⟩ := List.cons.inj hM
        obtain ⟨h2, h3⟩ := List.cons.inj h2
        exact ⟨b :: a :: M, List.Perm.swap _ _ _, by simp [h1, h2, h3]⟩
  | trans _ _ ih1 ih2 =>
    intro M hM
    obtain ⟨M1, p1, e1⟩ := ih2 M hM
    obtain ⟨M2, p2, e2⟩ := ih1 M1 e1.symm
    exact ⟨M2, p2.trans p1, e2⟩
theorem sumF_if {α : Type} (p : α → Bool) (g : α → Int) : ∀ l : List α, sumF (fun k => if p k = true then g k else 0) l = sumF g (l.filter p)
  | [] => rfl
  | x :: l => by
    rw [sumF, sumF_if p g l, List.filter_cons]
    cases p x <;> simp [sumF]
theorem sumF_ones {α : Type} : ∀ l : List α, sumF (fun _ => (1 : Int)) l = l.length
  | [] => rfl
  | x :: l => by
    rw [sumF, sumF_ones l, List.length_cons]
    omega
/-- The answer is that of a set of rolls. -/
theorem lb_own {j : Job} (hj : Right j) {need : Int} (h : 0 < (lbTo need (isort ltR j.rs)).best) : ∃ s t, s < 2 ^ j.rs.length ∧ (∀ k ∈ mem s, (rollAt j k).sh = t) ∧ ((mem s).length : Int) = (lbTo need (isort ltR j.rs)).best ∧ need ≤ lenL j (mem s) := by
  have h5 := hj.nrs
  obtain ⟨a, x, b, e, h1, h2⟩ := (lb_ok need _ (isort ltR j.rs) rfl (sorted_isort j.rs)).own h
  have hperm := isort_perm (lt := ltR) j.rs
  rw [← range_rolls j] at hperm
  obtain ⟨M, pM, eM⟩ := perm_lift hperm _ rfl
  rw [range_rolls j] at eM
  let T := (M.take (a.length + 1)).filter fun k => decide ((rollAt j k).sh = x.sh)
  have hMn : M.Nodup := pM.nodup_iff.2 List.nodup_range
  have hTs : T.Sublist M := List.filter_sublist.trans (List.take_sublist _ _)
  have hTn : T.Nodup := hTs.nodup hMn
  have hTl : ∀ k ∈ T, k < j.rs.length := fun k hk => List.mem_range.1 (pM.mem_iff.1 (hTs.subset hk))
  have eT : (M.take (a.length + 1)).map (rollAt j) = a ++ [x] := by
    rw [List.map_take, eM, e, show a ++ x :: b = (a ++ [x]) ++ b by simp, List.take_left' (by simp)]
  obtain ⟨s, hs, hms⟩ := mem_of h5 (S := (List.range j.rs.length).filter fun k => decide (k ∈ T)) List.filter_sublist
  have hp : (mem s).Perm T := by
    rw [hms]
    refine (List.perm_ext_iff_of_nodup (List.Pairwise.filter _ List.nodup_range) hTn).2 fun k => ?_
    rw [List.mem_filter, List.mem_range]
    exact ⟨fun h => of_decide_eq_true h.2, fun h => ⟨hTl k h, decide_eq_true h⟩⟩
  refine ⟨s, x.sh, hs, fun k hk => ?_, ?_, ?_⟩
  · exact of_decide_eq_true (List.mem_filter.1 (hp.mem_iff.1 hk)).2
  · rw [hp.length_eq, h2]
    unfold cntR
    rw [← eT, sumF_map, ← sumF_ones, ← sumF_if]
    apply sumF_congr
    intro k _
    unfold indS
    simp
  · unfold lenL
    rw [sumF_perm _ hp]
    unfold lenR at h1
    rw [← eT, sumF_map] at h1
    have : sumF (fun k => (rollAt j k).l) T = sumF (fun k => lenS x.sh (rollAt j k)) (M.take (a.length + 1)) := by
      rw [← sumF_if]
      apply sumF_congr
      intro k _
      unfold lenS
      simp
    omega
/-- Both lower bounds agree. -/
theorem lb_ref (j : Job) : refLV j = lbV j := by
  unfold refLV lbV
  by_cases hje : jobE j = 0
  rotate_left
  · rw [if_pos hje, if_pos hje]
  rw [if_neg (fun h => h hje), if_neg (fun h => h hje)]
  obtain ⟨hj, hjo⟩ := jobE_zero hje
  have hjo := jobOk_iff.1 hjo
  have h5 := hj.nrs
  have hst : ∀ s ∈ j.ss, 0 ≤ s.a ∧ s.a ≤ s.b ∧ s.b ≤ 60 := fun s hs => by have := hj.ss s hs; omega
  have hneed := (lenM_in hst).1
  have hsh : ∀ k, k < j.rs.length → 0 ≤ (rollAt j k).sh := fun k hk => by
    have g : j.rs[k]? = some (rollAt j k) := by
      unfold rollAt
      rw [List.getD_eq_getElem?_getD, List.getElem?_eq_getElem hk]
      rfl
    have := rollOk_iff.1 (hjo.2.2 _ (List.mem_of_getElem? g))
    omega
  have hrs := fun s => rs_ok hsh s j.rs.length (Nat.le_refl _)
  have hn : ∀ s, 0 ≤ (rsM j s j.rs.length).n := fun s => by rw [(hrs s).n]; omega
  obtain ⟨f1, f2⟩ := rb_facts j (lenM j.ss) hn (2 ^ j.rs.length)
  have good : ∀ s, s < 2 ^ j.rs.length → goodS j (lenM j.ss) s → 0 < lenM j.ss → 0 < (lbTo (lenM j.ss) (isort ltR j.rs)).best ∧ (lbTo (lenM j.ss) (isort ltR j.rs)).best ≤ (rsM j s j.rs.length).n := fun s hs hg h0 => by
    have hr := hrs s
    have hm : setM s j.rs.length = mem s := (mem_eq h5 hs).symm
    rw [hm] at hr
    obtain ⟨g1, g2⟩ := hg
    by_cases hF : mem s = []
    · rw [hr.sum, hF] at g2
      simp only [lenL, sumF] at g2
      omega
    · have := lb_core hj hs ((hr.some hF).2.2.1 g1) rfl (by rw [← hr.sum]; exact g2) h0
      rw [hr.n]
      exact this
  by_cases hz : lenM j.ss = 0
  · rw [if_pos hz]
    have g0 : goodS j (lenM j.ss) 0 := by
      have hr := hrs 0
      have hm : setM 0 j.rs.length = [] := by
        unfold setM
        rw [List.filter_eq_nil_iff]
        intro k _
        rw [bit_zero]
        simp
      rw [hm] at hr
      refine ⟨(hr.nil rfl).2, ?_⟩
      rw [hr.sum, hz]
      exact Int.le_refl _
    have hr := hrs 0
    have hm : setM 0 j.rs.length = [] := by
      unfold setM
      rw [List.filter_eq_nil_iff]
      intro k _
      rw [bit_zero]
      simp
    rw [hm] at hr
    have hn0 : (rsM j 0 j.rs.length).n = 0 := hr.n
    have := f2 0 (Nat.two_pow_pos _) g0
    rw [decide_eq_true this.1, show max (rbM j (lenM j.ss) (2 ^ j.rs.length)) 0 = 0 by omega]
  · rw [if_neg hz]
    have hpos := (lb_ok (lenM j.ss) _ (isort ltR j.rs) rfl (sorted_isort j.rs)).pos
    have own := fun h => lb_own (need := lenM j.ss) hj h
    by_cases hb : 0 < (lbTo (lenM j.ss) (isort ltR j.rs)).best
    · obtain ⟨s, t, hs, ht, hl, hnd⟩ := own hb
      have hm : setM s j.rs.length = mem s := (mem_eq h5 hs).symm
      have hr := hrs s
      rw [hm] at hr
      have hg : goodS j (lenM j.ss) s := by
        refine ⟨?_, by rw [hr.sum]; exact hnd⟩
        by_cases hF : mem s = []
        · exact (hr.nil hF).2
        · obtain ⟨_, ⟨k, hk, e⟩, h3⟩ := hr.some hF
          rw [h3]
          intro i hi
          rw [ht i hi, ← e, ht k hk]
      have h2 := f2 s hs hg
      obtain ⟨s', hs', hg', e'⟩ := f1 h2.1
      have h3 := good s' hs' hg' (by omega)
      have h4 := hr.n
      rw [decide_eq_true h2.1, decide_eq_true hb, show max (rbM j (lenM j.ss) (2 ^ j.rs.length)) 0 = (lbTo (lenM j.ss) (isort ltR j.rs)).best by omega]
    · have hno : ¬ 0 ≤ rbM j (lenM j.ss) (2 ^ j.rs.length) := fun h => by
        obtain ⟨s', hs', hg', _⟩ := f1 h
        exact hb (good s' hs' hg' (by omega)).1
      rw [decide_eq_false hno, decide_eq_false hb, show max (rbM j (lenM j.ss) (2 ^ j.rs.length)) 0 = (lbTo (lenM j.ss) (isort ltR j.rs)).best by omega]
end Go.AM.D
