/-
A region that draws its order: an effect is what the operation does.
-/
import Derived.Test.YtdipdaajicceoaaAmDrawB
namespace Go.AM
open Go Go.RowKit

section
variable {P : Program} {E : Env} {O : Orc} {C : Cx} {D : List Deferred} {outs : List (List Value)} {st st' : St} {a : Act} {w : World} {σ : Places} {m : Option Bool}

mutual
/-- What is named lies somewhere: a name that lies nowhere is not there. -/
theorem kill_none (id : Nat) (hi : σ id = none) : ∀ {v : V} {c : Value}, Rep C w σ m v c → kill id v = v
  | .agg cs, c, h => by
    simp only [Rep] at h
    obtain ⟨ds, _, hl, _⟩ := h
    simp only [kill]; rw [killL_none id hi hl]
  | .tup cs, c, h => by
    simp only [Rep] at h
    obtain ⟨ds, _, hl⟩ := h
    simp only [kill]; rw [killL_none id hi hl]
  | .clo f xs ys, c, h => by
    simp only [Rep] at h
    obtain ⟨fa, fb, _, h1, h2⟩ := h
    simp only [kill]; rw [killL_none id hi h1, killL_none id hi h2]
  | .own j off len, c, h => by
    simp only [kill]
    split
    · rename_i hj; subst hj
      simp only [Rep, hi] at h
    · rfl
  | .ptr j i o, c, h => by
    simp only [kill]
    split
    · rename_i hj; subst hj
      simp only [Rep, hi] at h
    · rfl
  | .int .., _, _ => rfl
  | .bool _, _, _ => rfl
  | .lit _, _, _ => rfl
  | .und, _, _ => rfl
  | .emp, _, _ => rfl
  | .sl .., _, _ => rfl
  | .fp .., _, _ => rfl
  | .junk, _, _ => rfl
theorem killL_none (id : Nat) (hi : σ id = none) : ∀ {vs : List V} {ds : List Value}, RepL C w σ m vs ds → killL id vs = vs
  | [], _, _ => rfl
  | v :: r, ds, h => by
    simp only [RepL] at h
    obtain ⟨d, q, _, h1, h2⟩ := h
    simp only [killL]; rw [kill_none id hi h1, killL_none id hi h2]
end

theorem killAll_none (id : Nat) (hi : σ id = none) : ∀ {ls : List (List V)} {ds : List (List Value)}, RepLL C w σ ls ds → killAll id ls = ls
  | [], _, _ => rfl
  | l :: r, ds, h => by
    simp only [RepLL] at h
    obtain ⟨d, q, _, h1, h2⟩ := h
    simp only [killAll]; rw [killL_none id hi h1, killAll_none id hi h2]

theorem drop_same (h : Sim C D outs st a w σ) {id : Nat} (hn : look st.objs id = none) : Same (st.drop id) st := by
  have hi := h.dom id hn
  refine ⟨killL_none id hi h.slots, killAll_none id hi h.outer, fun j => ?_⟩
  simp only [St.drop, look_killObs]
  split
  · rename_i hj; subst hj; exact hn.symm
  · cases hob : look st.objs j with
    | none => rfl
    | some ob =>
      simp only [Option.map_some, killOb]
      obtain ⟨loc, _, hr, _⟩ := h.objs j ob hob
      split
      · rfl
      · have : killL id ob.elems = ob.elems := by
          cases loc with
          | virt app => simp only [ObRep] at hr; rw [hr.1]; rfl
          | blk b bo es cap app =>
            simp only [ObRep] at hr
            obtain ⟨_, _, _, cur, e, ds, _, hl, _⟩ := hr
            exact killL_none id hi hl
        rw [this]

theorem put_congr {s s' : St} (h : Same s s') (dst : Option Nat) (v : V) : Same (s.put dst v) (s'.put dst v) := by
  refine ⟨?_, ?_, fun id => ?_⟩
  · rw [put_slots, put_slots, h.slots]
  · rw [put_outer, put_outer, h.outer]
  · rw [put_objs, put_objs, h.objs]

theorem alloc_same (h : Sim C D outs st a w σ) {id : Nat} (hn : look st.objs id = none) (ob : Ob) (dst : Option Nat) (v : V) :
    Same ((st.alloc id ob).put dst v) ((Eff.new id ob v).ap dst st) := by
  have hs := drop_same h hn
  refine put_congr (s := st.alloc id ob) (s' := { st with objs := upd st.objs id ob }) ⟨hs.slots, hs.outer, fun j => ?_⟩ dst v
  simp only [St.alloc, look_upd]
  split
  · rfl
  · exact hs.objs j

/-- The operation's effect is what the operation does. -/
theorem eff_ok (hT : TyOk P E) (h : Sim C D outs st a w σ) {fc : FC} {base : Nat} {o : Oper} {e : Eff} (he : effOf E O fc base o st = some e) :
    ∃ s, evOp E O fc base o st = some s ∧ Same s (e.ap o.dst st) := by
  unfold effOf at he
  cases hv : evVal E fc o st with
  | some v =>
    rw [hv] at he
    cases he
    refine ⟨st.put o.dst v, ?_, Same.refl _⟩
    unfold evOp
    split
    · rename_i c hc
      split
      · rename_i f hf
        unfold evVal at hv
        rw [hc] at hv
        dsimp only at hv
        rw [hf] at hv
        cases hv
      · unfold evPlain; rw [hv]
    · unfold evPlain; rw [hv]
  | none =>
    rw [hv] at he
    dsimp only at he
    have plain : ∀ s, evMem E fc base o st = some s → evPlain E fc base o st = some s := fun s hs => by unfold evPlain; rw [hv]; exact hs
    unfold effMem at he
    unfold evOp
    split at he
    · -- alloc
      rename_i t ho
      rw [ho]
      dsimp only
      split at he
      case h_2 => cases he
      rename_i d ti hd hti
      obtain ⟨_, _, z, _, _, _, _, _, _, hz, _, hz2, _⟩ := hT t ti hti
      have hk : ∀ i, kill i ti.zero = ti.zero := fun i => kill_none (C := C) (w := w) (σ := fun _ => none) (m := none) i rfl (hz ▸ zero_rep z hz2)
      unfold effVar at he
      split at he
      case h_2 => cases he
      rename_i cs hcs hl
      split at he
      case isFalse => cases he
      rename_i hc
      cases he
      refine ⟨_, plain _ ?_, alloc_same h hl _ _ _⟩
      unfold evMem
      rw [ho]
      dsimp only
      rw [hd, hti]
      dsimp only
      unfold evVar
      rw [hcs]
      dsimp only
      rw [if_pos hc, hk]
    · -- box
      rename_i t x ho
      rw [ho]
      dsimp only
      split at he
      case h_2 => cases he
      rename_i d ti hd hti
      unfold effVar at he
      split at he
      case h_2 => cases he
      rename_i cs hcs hl
      split at he
      case isFalse => cases he
      rename_i hc
      cases he
      have hk : kill (nameOf fc base d) (st.eval x) = st.eval x := kill_none _ (h.dom _ hl) (h.eval x)
      refine ⟨_, plain _ ?_, alloc_same h hl _ _ _⟩
      unfold evMem
      rw [ho]
      dsimp only
      rw [hd, hti]
      dsimp only
      unfold evVar
      rw [hcs]
      dsimp only
      rw [if_pos hc, hk]
    · -- buildSlice
      rename_i t n ps ho
      rw [ho]
      dsimp only
      split at he
      case h_2 => cases he
      rename_i d ei hd hei
      unfold effLit at he
      split at he
      · rename_i hn
        split at he
        case isFalse => cases he
        rename_i hc
        cases he
        refine ⟨st.put o.dst .emp, plain _ ?_, Same.refl _⟩
        unfold evMem
        rw [ho]
        dsimp only
        rw [hd, hei]
        dsimp only
        unfold evLit
        rw [if_pos hn, if_pos hc]
      · rename_i hn
        split at he
        case h_2 => cases he
        rename_i hl
        split at he
        case isFalse => cases he
        rename_i hc
        cases he
        obtain ⟨c1, c2, c3, c4, c5, c6, c7⟩ := hc
        refine ⟨_, plain _ ?_, alloc_same h hl _ _ _⟩
        unfold evMem
        rw [ho]
        dsimp only
        rw [hd, hei]
        dsimp only
        unfold evLit freeze
        rw [if_neg hn, if_pos ⟨c1, c2, c3, c4, c5⟩, c6]
        simp only [if_true]
        rw [if_pos c7]
    · -- store
      rename_i t p x ho
      rw [ho]
      dsimp only
      split at he
      case h_2 => cases he
      rename_i ti hti
      unfold effStore at he
      split at he
      case h_2 => cases he
      rename_i id i c hp
      split at he
      case h_2 => cases he
      rename_i ob ds hob hds
      split at he
      case h_2 => cases he
      rename_i e' hel
      split at he
      case h_2 => cases he
      rename_i cs hcs
      split at he
      case isFalse => cases he
      rename_i hc
      cases he
      refine ⟨_, plain _ ?_, Same.refl _⟩
      unfold evMem
      rw [ho]
      dsimp only
      rw [hti]
      dsimp only
      unfold evStore
      rw [hp]
      dsimp only
      rw [hob, hds]
      dsimp only
      rw [hel]
      dsimp only
      rw [hcs]
      dsimp only
      rw [if_pos hc]
      rfl
    · -- makeSlice
      rename_i t l c ho
      rw [ho]
      dsimp only
      split at he
      case h_2 => cases he
      rename_i d ei hd hei
      unfold effMake at he
      split at he
      case h_2 => cases he
      rename_i n m hl hc hn
      split at he
      case isFalse => cases he
      rename_i hcond
      cases he
      refine ⟨_, plain _ ?_, alloc_same h hn _ _ _⟩
      unfold evMem
      rw [ho]
      dsimp only
      rw [hd, hei]
      dsimp only
      unfold evMake
      rw [hl, hc]
      dsimp only
      rw [if_pos hcond]
    · -- call
      rename_i c ho
      rw [ho]
      dsimp only
      split at he
      · -- append
        rename_i hc
        rw [hc]
        dsimp only
        split at he
        case h_2 => cases he
        rename_i d t t' x y hd ht ha
        split at he
        case isFalse => cases he
        rename_i htt
        split at he
        case h_2 => cases he
        rename_i ei hei
        unfold effApp at he
        split at he
        case h_2 => cases he
        rename_i tt ys hx hy hl
        split at he
        case isFalse => cases he
        rename_i hcond
        cases he
        refine ⟨_, plain _ ?_, alloc_same h hl _ _ _⟩
        unfold evMem
        rw [ho]
        dsimp only
        rw [hc]
        dsimp only
        rw [hd, ht, ha]
        dsimp only
        rw [if_pos htt, hei]
        dsimp only
        unfold evAppend
        rw [hy, hx]
        simp only [freeze, onto, dropO, if_true, List.length_nil, Nat.zero_add, List.nil_append, Bool.true_and]
        rw [if_pos hcond]
      · -- a function
        rename_i f hc
        rw [hc]
        dsimp only
        unfold effCall at he
        split at he
        case h_2 => cases he
        rename_i g first cap hf
        split at he
        case isFalse => cases he
        rename_i hcond
        split at he
        case h_2 => cases he
        rename_i as' has
        split at he
        case h_2 => cases he
        rename_i r hr
        split at he
        case isFalse => cases he
        rename_i hcond2
        cases he
        refine ⟨st.put o.dst r, ?_, Same.refl _⟩
        unfold evCall
        rw [hf]
        dsimp only
        rw [hcond.1]
        simp only [Bool.false_eq_true, if_false]
        rw [has]
        dsimp only
        rw [hr]
        dsimp only
        rw [if_pos hcond2.1, hcond.2]
        dsimp only
        have hempty : ∀ n, reach st.objs n [] = [] := fun n => by
          induction n with
          | zero => rfl
          | succ n ih => simp only [reach, List.flatMap_nil, List.nil_append]; exact ih
        rcases hcond2.2 with hnew | hids
        · rw [if_pos hnew]
        · split
          · rfl
          · rw [hids, hempty]; rfl
      · cases he
    · cases he
end
end Go.AM
