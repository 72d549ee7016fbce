/-
More fuel and a greater oracle change no answer.
-/
import Derived.Test.YtdipdaajicceoaaAmCode
namespace Go.AM
open Go

structure Orc.le (O O' : Orc) : Prop where
  call : ∀ g as r, O.call g as = some r → O'.call g as = some r
  inl : ∀ b g as st r, O.inl b g as st = some r → O'.inl b g as st = some r

theorem Orc.le.refl (O : Orc) : O.le O := ⟨fun _ _ _ h => h, fun _ _ _ _ _ h => h⟩

theorem Orc.le.trans {O O' O'' : Orc} (h : O.le O') (h' : O'.le O'') : O.le O'' := ⟨fun g as r e => h'.call g as r (h.call g as r e), fun b g as st r e => h'.inl b g as st r (h.inl b g as st r e)⟩

section
variable {E : Env} {O O' : Orc} {fc : FC} {base : Nat}

theorem evCall_mono (hO : O.le O') {dst : Option Nat} {f : V} {args : List V} {st st' : St} (h : evCall E O fc base dst f args st = some st') : evCall E O' fc base dst f args st = some st' := by
  unfold evCall at h ⊢
  cases f <;> try exact h
  dsimp only at h ⊢
  split at h
  · rename_i hi
    rw [if_pos hi]
    split at h
    · rename_i r s hs
      rw [hO.inl _ _ _ _ _ hs]
      exact h
    · cases h
  · rename_i hi
    rw [if_neg hi]
    split at h
    · split at h
      · rename_i r hr
        rw [hO.call _ _ _ hr]
        exact h
      · cases h
    · cases h

theorem evOp_mono (hO : O.le O') {o : Oper} {st st' : St} (h : evOp E O fc base o st = some st') : evOp E O' fc base o st = some st' := by
  unfold evOp at h ⊢
  split at h
  · rename_i c _
    split at h
    · exact evCall_mono hO h
    · exact h
  · exact h

theorem evOps_mono (hO : O.le O') {all : Array Oper} : ∀ (l : List Oper) {st st' : St}, evOps E O fc base all l st = some st' → evOps E O' fc base all l st = some st'
  | [], _, _, h => h
  | o :: r, st, st', h => by
    simp only [evOps] at h ⊢
    split at h
    · split at h
      · rename_i s hs
        rw [evOp_mono hO hs]
        exact evOps_mono hO r h
      · cases h
    · exact evOps_mono hO r h
    · cases h

theorem effOf_mono (hO : O.le O') {o : Oper} {st : St} {e : Eff} (h : effOf E O fc base o st = some e) : effOf E O' fc base o st = some e := by
  unfold effOf at h ⊢
  split
  · rename_i v hv
    rw [hv] at h
    exact h
  · rename_i hv
    rw [hv] at h
    dsimp only at h
    unfold effMem at h ⊢
    split at h <;> try exact h
    split at h <;> try exact h
    unfold effCall at h ⊢
    split at h <;> try exact h
    split at h
    case isFalse => cases h
    rename_i hc
    rw [if_pos hc]
    split at h
    · split at h
      · rename_i r hr
        rw [hO.call _ _ _ hr]
        exact h
      · cases h
    · cases h

theorem evD_mono (hO : O.le O') {all : Array Oper} {cl : List (List Nat)} : ∀ (l : List (Nat × Oper)) {st st' : St} {rs : List Rec}, evD E O fc base all cl l st rs = some st' → evD E O' fc base all cl l st rs = some st'
  | [], _, _, _, h => h
  | (i, o) :: r, st, st', rs, h => by
    simp only [evD] at h ⊢
    split at h
    · split at h
      · rename_i e he
        rw [effOf_mono hO he]
        dsimp only at h ⊢
        try dsimp only
        split at h
        · rename_i hc
          rw [if_pos hc]
          exact evD_mono hO r h
        · cases h
      · cases h
    · split at h
      · rename_i hc
        rw [if_pos hc]
        exact evD_mono hO r h
      · cases h
    · cases h

theorem evRegion_mono (hO : O.le O') {ops : Array Oper} {draw : Bool} {st st' : St} (h : evRegion E O fc base ops draw st = some st') : evRegion E O' fc base ops draw st = some st' := by
  unfold evRegion at h ⊢
  split
  · rename_i hd
    rw [if_pos hd] at h
    exact evD_mono hO _ h
  · rename_i hd
    rw [if_neg hd] at h
    exact evOps_mono hO _ h

theorem roundsIn_mono {run run' : Code → St → Option (Ex × St)} (h : ∀ c s r, run c s = some r → run' c s = some r) {ps : List Nat} {assign body : Code} :
    ∀ {xss : List (List V)} {st : St} {r : Ex × St}, roundsIn run ps assign body xss st = some r → roundsIn run' ps assign body xss st = some r
  | [], _, _, hr => hr
  | xs :: xss, st, r, hr => by
    simp only [roundsIn] at hr ⊢
    cases ha : run assign { tidy st with slots := setAll ((tidy st).outer.headD []) ps xs } with
    | none => rw [ha] at hr; cases hr
    | some p =>
      obtain ⟨e, s⟩ := p
      rw [ha] at hr
      rw [h _ _ _ ha]
      cases e with
      | normal =>
        dsimp only at hr ⊢
        cases hb : run body s with
        | none => rw [hb] at hr; cases hr
        | some p =>
          obtain ⟨e, s'⟩ := p
          rw [hb] at hr
          rw [h _ _ _ hb]
          cases e with
          | normal => exact roundsIn_mono h hr
          | exit id => exact hr
          | ret => exact hr
      | exit id => cases hr
      | ret => cases hr

theorem popped_mono {r r' : Option (Ex × St)} (h : ∀ {q}, r = some q → r' = some q) {p : Ex × St} (hp : popped r = some p) : popped r' = some p := by
  cases r with
  | none => cases hp
  | some q => rw [h rfl]; exact hp

theorem ev_mono (hO : O.le O') : ∀ {n n' : Nat} (_ : n ≤ n') (c : Code) {st : St} {r : Ex × St}, ev E O fc base n c st = some r → ev E O' fc base n' c st = some r := by
  intro n
  induction n with
  | zero => intro n' _ c st r h; simp [ev] at h
  | succ n ih =>
    intro n' hn c st r h
    obtain ⟨k, rfl⟩ : ∃ k, n' = k + 1 := ⟨n' - 1, by omega⟩
    have hk : n ≤ k := by omega
    simp only [ev] at h ⊢
    cases c <;> dsimp only at h ⊢ <;> try exact h
    · split at h
      · rename_i s hs
        rw [evRegion_mono hO hs]
        exact h
      · cases h
    · rename_i x y
      cases hx : ev E O fc base n x st with
      | none => rw [hx] at h; cases h
      | some p =>
        obtain ⟨e, s⟩ := p
        rw [hx] at h
        rw [ih hk _ hx]
        cases e
        · exact ih hk _ h
        · exact h
        · exact h
    · split at h
      · rename_i t ht
        exact ih hk _ h
      · cases h
    · rename_i id b
      cases hx : ev E O fc base n b st with
      | none => rw [hx] at h; cases h
      | some p =>
        obtain ⟨e, s⟩ := p
        rw [hx] at h
        rw [ih hk _ hx]
        cases e <;> exact h
    · rename_i b
      cases hx : ev E O fc base n b (normOf fc b st) with
      | none => rw [hx] at h; cases h
      | some p =>
        obtain ⟨e, s⟩ := p
        rw [hx] at h
        rw [ih hk _ hx]
        cases e
        · exact ih hk _ h
        · exact h
        · exact h
    · rename_i g ps assign body
      split at h
      · rename_i xss _
        exact popped_mono (roundsIn_mono (fun c s r h => ih hk c h)) h
      · cases h

theorem evFn_mono (hO : O.le O') {n n' : Nat} (hn : n ≤ n') {base f : Nat} {args : List V} {st : St} {r : V × St} (h : evFn E O n base f args st = some r) : evFn E O' n' base f args st = some r := by
  unfold evFn at h ⊢
  split at h
  · split at h
    · rename_i c hc
      cases hx : ev E O (E.fc f) base n c { st with slots := args ++ List.replicate (‹Func›.ntmps - args.length) .und } with
      | none => rw [hx] at h; cases h
      | some p => rw [hx] at h; rw [ev_mono hO hn _ hx]; exact h
    · cases h
  · cases h

theorem orc_mono {X : Ext} : ∀ {n n' : Nat}, n ≤ n' → (orc E X n).le (orc E X n') := by
  intro n
  induction n with
  | zero =>
    intro n' _
    cases n' with
    | zero => exact Orc.le.refl _
    | succ k =>
      refine ⟨fun g as r h => ?_, fun b g as st r h => ?_⟩
      · simp only [orc] at h ⊢; rw [h]
      · simp only [orc] at h ⊢; rw [h]
  | succ n ih =>
    intro n' hn
    obtain ⟨k, rfl⟩ : ∃ k, n' = k + 1 := ⟨n' - 1, by omega⟩
    have hk : n ≤ k := by omega
    refine ⟨fun g as r h => ?_, fun b g as st r h => ?_⟩
    · simp only [orc] at h ⊢
      split at h
      · exact h
      · cases hx : evFn E (orc E X n) n 0 g as { slots := [], outer := [], objs := [] } with
        | none => rw [hx] at h; cases h
        | some p => rw [hx] at h; rw [evFn_mono (ih hk) hk hx]; exact h
    · simp only [orc] at h ⊢
      split at h
      · exact h
      · exact evFn_mono (ih hk) hk h

end
end Go.AM
