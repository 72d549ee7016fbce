import Derived.Test.YtffbfhjcpgcdeaaCS
import Derived.Test.YtffbfhjcpgcdeaaAmR
import Derived.Test.YtffbfhjcpgcdeaaRows
set_option linter.unusedVariables false
set_option linter.unusedSimpArgs false
set_option maxRecDepth 20000

namespace Go.AM.C
open Go Go.Proofs

theorem has3 {n : Nat} {cs : List V} (h : HasC E n 3 cs) : ∃ i, cs = [.int .i64 i] ∧ -9223372036854775808 ≤ i ∧ i ≤ 9223372036854775807 := by
  cases n with
  | zero => exact h.elim
  | succ n => simp only [HasC, ty3, ti3] at h; exact h

theorem has71 {n : Nat} {cs : List V} (h : HasC E n 71 cs) : ∃ a b c, cs = [.int .i64 a, .int .i64 b, .int .i64 c] := by
  cases n with
  | zero => exact h.elim
  | succ n =>
    simp only [HasC, ty71, ti71, List.map_cons, List.map_nil, HasFs] at h
    obtain ⟨x, _, rfl, h1, y, _, rfl, h2, z, _, rfl, h3, rfl⟩ := h
    obtain ⟨a, rfl, _⟩ := has3 h1
    obtain ⟨b, rfl, _⟩ := has3 h2
    obtain ⟨c, rfl, _⟩ := has3 h3
    exact ⟨a, b, c, rfl⟩

theorem has73 {n : Nat} {cs : List V} (h : HasC E n 73 cs) : ∃ r : Run, pack true cs = encRun r := by
  cases n with
  | zero => exact h.elim
  | succ n =>
    simp only [HasC, ty73, ti73, List.map_cons, List.map_nil, HasFs] at h
    obtain ⟨x, _, rfl, h1, y, _, rfl, h2, rfl⟩ := h
    obtain ⟨l, rfl, _⟩ := has3 h1
    obtain ⟨a, b, c, rfl⟩ := has71 h2
    exact ⟨⟨l, a, b, c⟩, rfl⟩

theorem runs_of {vs : List V} (h : ∀ v ∈ vs, ∃ r : Run, v = encRun r) : ∃ rs : List Run, vs = rs.map encRun := by
  induction vs with
  | nil => exact ⟨[], rfl⟩
  | cons v vs ih =>
    obtain ⟨r, rfl⟩ := h v List.mem_cons_self
    obtain ⟨rs, rfl⟩ := ih fun u hu => h u (List.mem_cons_of_mem _ hu)
    exact ⟨r :: rs, rfl⟩

theorem has22 {n : Nat} {v : V} (h : HasV E n 22 v) : ∃ rs : List Run, v = .sl false (rs.map encRun) := by
  obtain ⟨ti, ds, hti, h, rfl⟩ := h
  rw [ty22] at hti
  cases hti
  cases n with
  | zero => exact h.elim
  | succ n =>
    simp only [HasC, ty22, ti22] at h
    obtain ⟨vs, rfl, _, hv⟩ := h
    obtain ⟨rs, rfl⟩ := runs_of fun v hvm => by
      obtain ⟨ei, ds, hei, h, rfl⟩ := hv v hvm
      rw [ty73] at hei
      cases hei
      exact has73 h
    exact ⟨rs, rfl⟩

theorem has84 {n : Nat} {cs : List V} (h : HasC E n 84 cs) : ∃ a b c d, cs = [.int .i64 a, .int .i64 b, .int .i64 c, .int .i64 d] := by
  cases n with
  | zero => exact h.elim
  | succ n =>
    simp only [HasC, ty84, ti84, List.map_cons, List.map_nil, HasFs] at h
    obtain ⟨x, _, rfl, h1, y, _, rfl, h2, z, _, rfl, h3, u, _, rfl, h4, rfl⟩ := h
    obtain ⟨a, rfl, _⟩ := has3 h1
    obtain ⟨b, rfl, _⟩ := has3 h2
    obtain ⟨c, rfl, _⟩ := has3 h3
    obtain ⟨d, rfl, _⟩ := has3 h4
    exact ⟨a, b, c, d, rfl⟩

theorem has86 {n : Nat} {cs : List V} (h : HasC E n 86 cs) : ∃ a : Art, pack true cs = encArt a := by
  cases n with
  | zero => exact h.elim
  | succ n =>
    simp only [HasC, ty86, ti86, List.map_cons, List.map_nil, HasFs] at h
    obtain ⟨x, _, rfl, h1, y, _, rfl, h2, z, _, rfl, h3, rfl⟩ := h
    obtain ⟨l, rfl, _⟩ := has3 h1
    obtain ⟨a, b, c, d, rfl⟩ := has84 h2
    obtain ⟨p, rfl, _⟩ := has3 h3
    exact ⟨⟨l, ⟨a, b, c, d⟩, p⟩, rfl⟩

theorem has25 {n : Nat} {cs : List V} (h : HasC E n 25 cs) : ∃ a b, cs = [.int .i64 a, .int .i64 b] := by
  cases n with
  | zero => exact h.elim
  | succ n =>
    simp only [HasC, ty25, ti25, List.map_cons, List.map_nil, HasFs] at h
    obtain ⟨x, _, rfl, h1, y, _, rfl, h2, rfl⟩ := h
    obtain ⟨a, rfl, _⟩ := has3 h1
    obtain ⟨b, rfl, _⟩ := has3 h2
    exact ⟨a, b, rfl⟩

theorem list_of {α : Type} {enc : α → V} {vs : List V} (h : ∀ v ∈ vs, ∃ r : α, v = enc r) : ∃ rs : List α, vs = rs.map enc := by
  induction vs with
  | nil => exact ⟨[], rfl⟩
  | cons v vs ih =>
    obtain ⟨r, rfl⟩ := h v List.mem_cons_self
    obtain ⟨rs, rfl⟩ := ih fun u hu => h u (List.mem_cons_of_mem _ hu)
    exact ⟨r :: rs, rfl⟩

theorem hasArts {n : Nat} {v : V} (h : HasV E n 23 v) : ∃ rs : List Art, v = .sl false (rs.map encArt) := by
  obtain ⟨ti, ds, hti, h, rfl⟩ := h
  rw [ty23] at hti
  cases hti
  cases n with
  | zero => exact h.elim
  | succ n =>
    simp only [HasC, ty23, ti23] at h
    obtain ⟨vs, rfl, _, hv⟩ := h
    obtain ⟨rs, rfl⟩ := list_of (enc := encArt) fun v hvm => by
      obtain ⟨ei, ds, hei, h, rfl⟩ := hv v hvm
      rw [ty86] at hei
      cases hei
      exact has86 h
    exact ⟨rs, rfl⟩

def encPc (p : Int × Int) : V := .agg [.int .i64 p.1, .int .i64 p.2]

theorem has42 {n : Nat} {cs : List V} (h : HasC E n 42 cs) : ∃ rs : List (Int × Int), cs = [.sl false (rs.map encPc)] := by
  cases n with
  | zero => exact h.elim
  | succ n =>
    simp only [HasC, ty42, ti42] at h
    obtain ⟨vs, rfl, _, hv⟩ := h
    obtain ⟨rs, rfl⟩ := list_of (enc := encPc) fun v hvm => by
      obtain ⟨ei, ds, hei, h, rfl⟩ := hv v hvm
      rw [ty25] at hei
      cases hei
      obtain ⟨a, b, rfl⟩ := has25 h
      exact ⟨(a, b), rfl⟩
    exact ⟨rs, rfl⟩

end Go.AM.C
namespace Go.Proofs.Ytffbfhjcpgcdeaa
theorem Try.own : ownKnob Try.prog.godebug = none := by kernel_rfl
theorem Try.laidOut : laidOutB Try.prog = true := by kernel_rfl
end Go.Proofs.Ytffbfhjcpgcdeaa

