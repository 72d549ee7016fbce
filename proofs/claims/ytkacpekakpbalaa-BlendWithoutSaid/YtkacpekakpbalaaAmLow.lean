/-
Tags inside of slices say nothing: calls of values whose inner tags differ give the same.
-/
import Derived.Test.YtkacpekakpbalaaAmQ
set_option linter.unusedVariables false
set_option linter.unusedSimpArgs false

namespace Go.AM
open Go Go.RowKit

mutual
def lowE : V → V
  | .agg cs => .agg (lowEL cs)
  | .tup cs => .tup (lowEL cs)
  | .sl _ vs => .sl false (lowEL vs)
  | .full _ vs => .full false (lowEL vs)
  | .fp _ cs o => .fp false (lowEL cs) o
  | .clo f a b => .clo f (lowEL a) (lowEL b)
  | v => v
def lowEL : List V → List V
  | [] => []
  | v :: r => lowE v :: lowEL r
end
mutual
def low : V → V
  | .agg cs => .agg (lowL cs)
  | .tup cs => .tup (lowL cs)
  | .sl t vs => .sl t (lowEL vs)
  | .full t vs => .full t (lowEL vs)
  | .fp t cs o => .fp t (lowEL cs) o
  | .clo f a b => .clo f (lowL a) (lowL b)
  | v => v
def lowL : List V → List V
  | [] => []
  | v :: r => low v :: lowL r
end
theorem lowEL_len : ∀ vs : List V, (lowEL vs).length = vs.length
  | [] => rfl
  | v :: r => by simp [lowEL, lowEL_len r]
mutual
theorem free_lowE : ∀ v : V, refFree (lowE v) = refFree v
  | .agg cs => by simp only [lowE, refFree]; exact free_lowEL cs
  | .tup cs => by simp only [lowE, refFree]; exact free_lowEL cs
  | .clo f a b => by simp only [lowE, refFree]; rw [free_lowEL a, free_lowEL b]
  | .int .. => rfl
  | .bool _ => rfl
  | .lit _ => rfl
  | .und => rfl
  | .sl .. => rfl
  | .emp => rfl
  | .full .. => rfl
  | .fp .. => rfl
  | .own .. => rfl
  | .pre .. => rfl
  | .ptr .. => rfl
  | .mapr _ => rfl
  | .junk => rfl
theorem free_lowEL : ∀ vs : List V, refFreeL (lowEL vs) = refFreeL vs
  | [] => rfl
  | v :: r => by simp only [lowEL, refFreeL]; rw [free_lowE v, free_lowEL r]
end
section
variable {C : Cx} {w : World} {σ : Places}
mutual
theorem Rep.lowE {t : Bool} : ∀ (v : V) {c : Value}, Rep C w σ (some t) v c → Rep C w σ (some t) (AM.lowE v) c
  | .agg cs, c, h => by
    simp only [Rep, AM.lowE] at h ⊢
    obtain ⟨ds, rfl, hl, h1⟩ := h
    exact ⟨ds, rfl, RepL.lowE cs hl, h1⟩
  | .tup cs, c, h => by
    simp only [Rep, AM.lowE] at h ⊢
    obtain ⟨ds, rfl, hl⟩ := h
    exact ⟨ds, rfl, RepL.lowE cs hl⟩
  | .sl s vs, c, h => by
    simp only [Rep, AM.lowE, Option.getD_some] at h ⊢
    obtain ⟨hf, a, cap, rfl, hle, hv⟩ := h
    refine ⟨by rw [free_lowEL]; exact hf, a, cap, by rw [lowEL_len], by rw [lowEL_len]; exact hle, ?_⟩
    rcases hv with hv | ⟨b, off, es, ds, rfl, hb, hl, hw, hes, hlie⟩
    · left; rw [hv]; rfl
    · exact .inr ⟨b, off, es, ds, rfl, hb, RepL.lowE vs hl, hw, hes, hlie⟩
  | .full s vs, c, h => by
    simp only [Rep, AM.lowE, Option.getD_some] at h ⊢
    obtain ⟨hf, a, rfl, hv⟩ := h
    refine ⟨by rw [free_lowEL]; exact hf, a, by rw [lowEL_len], ?_⟩
    rcases hv with hv | ⟨b, off, es, ds, rfl, hb, hl, hw, hes, hlie⟩
    · left; rw [hv]; rfl
    · exact .inr ⟨b, off, es, ds, rfl, hb, RepL.lowE vs hl, hw, hes, hlie⟩
  | .fp s cs o, c, h => by
    simp only [Rep, AM.lowE, Option.getD_some] at h ⊢
    obtain ⟨hf, b, off, ds, rfl, hb, hl, h1, hlie⟩ := h
    exact ⟨by rw [free_lowEL]; exact hf, b, off, ds, rfl, hb, RepL.lowE cs hl, h1, hlie⟩
  | .clo f a b, c, h => by
    simp only [Rep, AM.lowE] at h ⊢
    obtain ⟨fa, fb, rfl, h1, h2⟩ := h
    exact ⟨fa, fb, rfl, RepL.lowE a h1, RepL.lowE b h2⟩
  | .int .., c, h => h
  | .bool _, c, h => h
  | .lit _, c, h => h
  | .und, c, h => h
  | .emp, c, h => h
  | .own .., c, h => h
  | .pre .., c, h => h
  | .ptr .., c, h => h
  | .mapr _, c, h => h
  | .junk, c, h => h
theorem RepL.lowE {t : Bool} : ∀ (vs : List V) {ds : List Value}, RepL C w σ (some t) vs ds → RepL C w σ (some t) (lowEL vs) ds
  | [], ds, h => h
  | v :: r, ds, h => by
    simp only [RepL, lowEL] at h ⊢
    obtain ⟨d, q, rfl, h1, h2⟩ := h
    exact ⟨d, q, rfl, Rep.lowE v h1, RepL.lowE r h2⟩
end
mutual
theorem Rep.low : ∀ (v : V) {c : Value}, Rep C w σ none v c → Rep C w σ none (AM.low v) c
  | .agg cs, c, h => by
    simp only [Rep, AM.low] at h ⊢
    obtain ⟨ds, rfl, hl, h1⟩ := h
    exact ⟨ds, rfl, RepL.low cs hl, h1⟩
  | .tup cs, c, h => by
    simp only [Rep, AM.low] at h ⊢
    obtain ⟨ds, rfl, hl⟩ := h
    exact ⟨ds, rfl, RepL.low cs hl⟩
  | .sl s vs, c, h => by
    simp only [Rep, AM.low] at h ⊢
    obtain ⟨hf, a, cap, rfl, hle, hv⟩ := h
    refine ⟨by rw [free_lowEL]; exact hf, a, cap, by rw [lowEL_len], by rw [lowEL_len]; exact hle, ?_⟩
    rcases hv with hv | ⟨b, off, es, ds, rfl, hb, hl, hw, hes, hlie⟩
    · left; rw [hv]; rfl
    · exact .inr ⟨b, off, es, ds, rfl, hb, RepL.lowE vs hl, hw, hes, hlie⟩
  | .full s vs, c, h => by
    simp only [Rep, AM.low] at h ⊢
    obtain ⟨hf, a, rfl, hv⟩ := h
    refine ⟨by rw [free_lowEL]; exact hf, a, by rw [lowEL_len], ?_⟩
    rcases hv with hv | ⟨b, off, es, ds, rfl, hb, hl, hw, hes, hlie⟩
    · left; rw [hv]; rfl
    · exact .inr ⟨b, off, es, ds, rfl, hb, RepL.lowE vs hl, hw, hes, hlie⟩
  | .fp s cs o, c, h => by
    simp only [Rep, AM.low] at h ⊢
    obtain ⟨hf, b, off, ds, rfl, hb, hl, h1, hlie⟩ := h
    exact ⟨by rw [free_lowEL]; exact hf, b, off, ds, rfl, hb, RepL.lowE cs hl, h1, hlie⟩
  | .clo f a b, c, h => by
    simp only [Rep, AM.low] at h ⊢
    obtain ⟨fa, fb, rfl, h1, h2⟩ := h
    exact ⟨fa, fb, rfl, RepL.low a h1, RepL.low b h2⟩
  | .int .., c, h => h
  | .bool _, c, h => h
  | .lit _, c, h => h
  | .und, c, h => h
  | .emp, c, h => h
  | .own .., c, h => h
  | .pre .., c, h => h
  | .ptr .., c, h => h
  | .mapr _, c, h => h
  | .junk, c, h => h
theorem RepL.low : ∀ (vs : List V) {ds : List Value}, RepL C w σ none vs ds → RepL C w σ none (lowL vs) ds
  | [], ds, h => h
  | v :: r, ds, h => by
    simp only [RepL, lowL] at h ⊢
    obtain ⟨d, q, rfl, h1, h2⟩ := h
    exact ⟨d, q, rfl, Rep.low v h1, RepL.low r h2⟩
end
end
theorem CallOk.low {P : Program} {g : Nat} {us : List V} {r : V} (h : CallOk P g (lowL us) r) : CallOk P g us r :=
  ⟨h.1, fun m w Fo cargs hF hr => h.2 m w Fo cargs hF (RepL.low us hr)⟩
theorem lowL_map {α : Type} {f g : α → V} (h : ∀ x, lowE (f x) = g x) : ∀ l : List α, lowEL (l.map f) = l.map g
  | [] => rfl
  | x :: l => by simp only [List.map_cons, lowEL, h x, lowL_map h l]
end Go.AM

