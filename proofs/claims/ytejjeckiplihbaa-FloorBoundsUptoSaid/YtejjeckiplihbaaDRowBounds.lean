/- FloorBounds: true at every input of bounded bulk; what is read is read as before. The condition: the arguments hold at most 1048576 values. -/
import Derived.Test.YtejjeckiplihbaaDBounds
import Derived.Test.YtejjeckiplihbaaDRowM
import Derived.Test.YtejjeckiplihbaaAmRowUp
import Derived.JoinedCond
set_option linter.unusedSimpArgs false
set_option maxRecDepth 20000

open Go Go.AM Go.AM.D
namespace Go.Proofs.Ytejjeckiplihbaa

theorem bulk_one {H : Type} (d : DataW H) : 1 ≤ Rows.uptoBulk d := by
  cases d with
  | lit l => cases l <;> simp [Rows.uptoBulk]
  | nil => simp [Rows.uptoBulk]
  | ptr d => simp [Rows.uptoBulk]
  | slice elems spare => simp [Rows.uptoBulk]
  | agg parts => simp [Rows.uptoBulk]
  | iface t d => simp [Rows.uptoBulk]
  | map entries => simp [Rows.uptoBulk]
  | held h => simp [Rows.uptoBulk]
theorem bulk_part {H : Type} {d : DataW H} : ∀ {l : List (DataW H)}, d ∈ l → Rows.uptoBulk d ≤ Rows.uptoBulkAll l
  | [], h => by cases h
  | x :: r, h => by
    simp only [Rows.uptoBulkAll]
    rcases List.mem_cons.1 h with e | e
    · subst e; omega
    · have := bulk_part e; omega
theorem bulk_len {H : Type} : ∀ l : List (DataW H), l.length ≤ Rows.uptoBulkAll l
  | [] => by simp [Rows.uptoBulkAll]
  | x :: r => by
    have := bulk_one x
    have := bulk_len r
    simp only [Rows.uptoBulkAll, List.length_cons]
    omega
theorem rolls_len {H : Type} {enc : TypeId × Value → H} {W : World} {v : Value} {d : DataW H} {p : List MemPlace} {base : Nat} {spare : Nat → Bool} {held : Bool} (j : Job)
    (ht : DataW.Trod enc Try.prog W base spare held 66 v d p) (hr : Rep (Old W) W (fun _ => none) none (encJob j) v) : j.rs.length ≤ Rows.uptoBulk d := by
  obtain ⟨fuel, h⟩ := ht
  obtain ⟨dd, _, _, hd, hty, _⟩ := E_ok.ty 66 ti66 ty66
  obtain ⟨gs, rfl⟩ : ∃ gs, dd = .struct gs := by cases dd <;> first | exact ⟨_, rfl⟩ | simp [tyIs, ti66] at hty
  have hty : gs.toList.map (fun g => (g.offset, g.type)) = [(0, 30), (1, 64), (2, 3)] := by simpa [tyIs, ti66] using hty
  obtain ⟨xs, k, _, hx, hl, hlen, hf⟩ := DataW.trod_struct hd h
  obtain ⟨g, hg, e1⟩ : ∃ g, gs[1]? = some g ∧ (g.offset, g.type) = (1, 64) := by
    have h1 : (gs.toList.map (fun g => (g.offset, g.type)))[1]? = some (1, 64) := by rw [hty]; rfl
    rw [List.getElem?_map, Option.map_eq_some_iff] at h1
    obtain ⟨g, h2, h3⟩ := h1
    exact ⟨g, by simpa using h2, h3⟩
  have e2 : g.offset = 1 := congrArg Prod.fst e1
  have e3 : g.type = 64 := congrArg Prod.snd e1
  have hx1 := hf 1 g hg
  rw [e2, e3] at hx1
  obtain ⟨dd2, ii, _, hd2, hty2, hii, hisz, _⟩ := E_ok.ty 64 ti64 ty64
  have hc64 : Try.prog.cellsOf 64 = 1 := by rw [cellsOf_eq hii, hisz]; rfl
  rw [hc64] at hx1
  unfold encJob at hr
  simp only [Rep] at hr
  obtain ⟨cs, rfl, hcs, _⟩ := hr
  obtain ⟨c0, r0, rfl, _, c1, r1, rfl, h1, _⟩ := hcs
  have hsl : ((Value.agg (c0 :: c1 :: r1).toArray).cells.toList.drop 1).take 1 = [c1] := rfl
  rw [hsl] at hx1
  obtain ⟨y, hy⟩ : ∃ y, xs[1]? = some y := by
    have h2 := (Array.getElem?_eq_some_iff.1 hg).1
    exact ⟨_, List.getElem?_eq_getElem (by omega)⟩
  rw [hy] at hx1
  obtain ⟨e, rfl⟩ : ∃ e, dd2 = .slice e := by cases dd2 <;> first | exact ⟨_, rfl⟩ | simp [tyIs, ti64] at hty2
  simp only [Rep] at h1
  obtain ⟨_, a, cap, hc1, _⟩ := h1
  have hmem : y.1 ∈ xs.map (·.1) := List.mem_map_of_mem (List.mem_of_getElem? hy)
  have hd1 : d = .agg (xs.map (·.1)) := congrArg Prod.fst hx
  have hb := bulk_part hmem
  rw [hd1]
  simp only [Rows.uptoBulk]
  rcases DataW.trod_slice hd2 hx1 with ⟨q, _⟩ | ⟨a', len, cap', elems, rest, _, _, q, q2, _, _, _, q3, _⟩
  · rw [hc1] at q
    simp at q
    have : j.rs.length = 0 := by simp_all
    omega
  · rw [hc1] at q
    have hln : j.rs.length = len := by simp at q; exact q.2.1
    have := bulk_len (elems.map (·.1))
    rw [q2] at hb
    simp only [Rows.uptoBulk] at hb
    rw [List.length_map] at this
    omega

set_option maxRecDepth 100000 in
theorem floorBounds_lifted (os : Os) (started : os.Started) (H : Type) (enc : TypeId × Value → H) (F : Stop.Interp) :
    ReturnsInHanded {} Try.checked os 14 .any ((Rows.OpenSpec.upto Rows.floorBoundsSpec).pre6 enc Try.prog Try.f14 Rows.floorBoundsUptoRow.domain false) (((Rows.OpenSpec.upto Rows.floorBoundsSpec).at F).post enc Try.prog Try.f14 false true false false) := by
  refine returnsInHanded_of_cond (C := Try.checked) (s := Rows.OpenSpec.upto Rows.floorBoundsSpec) (k := Rows.uptoSmall) rfl Try.own started (by kernel_rfl) Try.func14
    (OpenSpec.witness (enc := enc) (C := Try.checked) (s := Rows.OpenSpec.upto Rows.floorBoundsSpec) (k := Rows.uptoSmall) rfl false ⟨#[], #[.agg #[.slice none 0 0, .slice none 0 0, .int .i64 0], .slice none 0 0, .agg #[.int .i64 0, .int .i64 0, .int .i64 0]], []⟩ 8 (by kernel_rfl) (by kernel_rfl) (by kernel_rfl)
      (x := ([.agg [.nil, .nil, .lit (.int .i64 0)], .nil, .agg [.lit (.int .i64 0), .lit (.int .i64 0), .lit (.int .i64 0)]], [], [])) (by kernel_rfl) rfl (by kernel_rfl)) ?_
  intro W base args ds gs before hval hW _ hk _
  have hk' : Rows.uptoBulkAll (ds ++ gs) ≤ 1048576 := of_decide_eq_true hk
  refine row_callsU (m := 6) (s := Rows.floorBoundsSpec) E_ok X0_ok mixed Try.laidOut rfl rfl (tb := 4) (by kernel_rfl) (by decide +kernel) (fun ds hds => ?_) (fun avs p h hrep htrod => ?_) hval hW
  · match ds, hds with
    | [d0, d1, d2], _ => rfl
  · rw [Try.params14] at h htrod
    obtain ⟨w0, q0, rfl, hv0, w1, q1, rfl, hv1, w2, q2, rfl, hv2, rfl⟩ := h
    obtain ⟨j, rfl⟩ := hasOrder hv0
    obtain ⟨c, rfl, cl⟩ := hasCuts hv1
    obtain ⟨r, rfl⟩ := hasRoll hv2
    obtain ⟨v0, vr, hargs, hr0, _⟩ := hrep
    rw [hargs] at htrod
    match ds, htrod with
    | d0 :: ds', ⟨p1, _, ht0, _, _⟩ =>
      have hlen := rolls_len j ht0 hr0
      have hb : Rows.uptoBulk d0 ≤ Rows.uptoBulkAll (d0 :: ds' ++ gs) := bulk_part (by simp)
      exact c14 j c r (by omega)

theorem floorBoundsUpto_holds : Rows.FloorBoundsUptoSaid :=
  OpenClaim.holds_of_cond 14 Try.f14 rfl rfl rfl rfl rfl rfl rfl ⟨rfl, rfl, rfl, rfl, rfl⟩ rfl rfl rfl rfl rfl (by kernel_rfl) Try.func14 (by kernel_rfl)
    (of_decide_eq_true (by kernel_rfl)) (by unfold Func.isWrapper; first | (rw [if_pos (by decide +kernel)]; kernel_rfl) | (rw [if_neg (by decide +kernel)]; exact ⟨rfl, rfl⟩))
    (fun os started H enc _ F => floorBounds_lifted os started H enc F)

end Go.Proofs.Ytejjeckiplihbaa
