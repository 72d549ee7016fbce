/-
The limit of the abstract machine: what some fuel answers, as a function.
-/
import Derived.Test.YtdipdaajicceoaaAmMono
namespace Go.AM
open Go

open Classical in
noncomputable def lim {α : Type} (f : Nat → Option α) : Option α := if h : ∃ n r, f n = some r then some h.choose_spec.choose else none

def Mono {α : Type} (f : Nat → Option α) : Prop := ∀ n n' r, n ≤ n' → f n = some r → f n' = some r

theorem lim_iff {α : Type} {f : Nat → Option α} (hf : Mono f) {r : α} : lim f = some r ↔ ∃ n, f n = some r := by
  unfold lim
  constructor
  · intro h
    split at h
    · rename_i h'
      cases h
      exact ⟨_, h'.choose_spec.choose_spec⟩
    · cases h
  · rintro ⟨n, hn⟩
    have h' : ∃ n r, f n = some r := ⟨n, r, hn⟩
    rw [dif_pos h']
    have h1 := h'.choose_spec.choose_spec
    have h2 := hf _ (max n h'.choose) _ (Nat.le_max_left _ _) hn
    have h3 := hf _ (max n h'.choose) _ (Nat.le_max_right _ _) h1
    rw [h2] at h3
    exact h3.symm

theorem lim_none {α : Type} {f : Nat → Option α} (hf : Mono f) : lim f = none ↔ ∀ n, f n = none := by
  constructor
  · intro h n
    cases hn : f n with
    | none => rfl
    | some r => rw [(lim_iff hf).2 ⟨n, hn⟩] at h; cases h
  · intro h
    cases hr : lim f with
    | none => rfl
    | some r => obtain ⟨n, hn⟩ := (lim_iff hf).1 hr; rw [h n] at hn; cases hn

theorem lim_ext {α : Type} {f : Nat → Option α} (hf : Mono f) {o : Option α} (h : ∀ r, o = some r ↔ ∃ n, f n = some r) : lim f = o := by
  cases hr : lim f with
  | none => cases o with
    | none => rfl
    | some r => obtain ⟨n, hn⟩ := (h r).1 rfl; rw [(lim_none hf).1 hr n] at hn; cases hn
  | some r => exact ((h r).2 ((lim_iff hf).1 hr)).symm

section
variable (E : Env) (X : Ext)

theorem mono_call (g : Nat) (as : List V) : Mono fun n => (orc E X n).call g as := fun _ _ _ hn h => (orc_mono hn).call g as _ h
theorem mono_inl (b g : Nat) (as : List V) (st : St) : Mono fun n => (orc E X n).inl b g as st := fun _ _ _ hn h => (orc_mono hn).inl b g as st _ h

/-- The limit of the oracles. -/
noncomputable def orcω : Orc := { call := fun g as => lim fun n => (orc E X n).call g as, inl := fun b g as st => lim fun n => (orc E X n).inl b g as st }

noncomputable def den (fc : FC) (base : Nat) (c : Code) (st : St) : Option (Ex × St) := lim fun n => ev E (orcω E X) fc base n c st
end

section
variable {E : Env} {X : Ext} {fc : FC} {base : Nat}

theorem orcω_le (n : Nat) : (orc E X n).le (orcω E X) :=
  ⟨fun g as _ h => (lim_iff (mono_call E X g as)).2 ⟨n, h⟩, fun b g as st _ h => (lim_iff (mono_inl E X b g as st)).2 ⟨n, h⟩⟩

theorem evCall_fin {dst : Option Nat} {f : V} {args : List V} {st st' : St} (h : evCall E (orcω E X) fc base dst f args st = some st') : ∃ n, evCall E (orc E X n) fc base dst f args st = some st' := by
  unfold evCall at h ⊢
  cases f <;> try (cases h; done)
  dsimp only at h ⊢
  split at h
  · rename_i hi
    simp only [if_pos hi]
    cases hs : (orcω E X).inl (base + 1000) ‹Nat› _ _ with
    | none => rw [hs] at h; cases h
    | some p =>
      obtain ⟨n, hn⟩ := (lim_iff (mono_inl E X _ _ _ _)).1 hs
      rw [hs] at h
      exact ⟨n, by rw [hn]; exact h⟩
  · rename_i hi
    simp only [if_neg hi]
    split at h
    · rename_i as' has
      cases hs : (orcω E X).call ‹Nat› as' with
      | none => rw [hs] at h; cases h
      | some p =>
        obtain ⟨n, hn⟩ := (lim_iff (mono_call E X _ _)).1 hs
        rw [hs] at h
        exact ⟨n, by rw [hn]; exact h⟩
    · cases h

theorem evOp_fin {o : Oper} {st st' : St} (h : evOp E (orcω E X) fc base o st = some st') : ∃ n, evOp E (orc E X n) fc base o st = some st' := by
  unfold evOp at h ⊢
  split at h
  · split at h
    · exact evCall_fin h
    · exact ⟨0, h⟩
  · exact ⟨0, h⟩

theorem evOps_fin {all : Array Oper} : ∀ (l : List Oper) {st st' : St}, evOps E (orcω E X) fc base all l st = some st' → ∃ n, evOps E (orc E X n) fc base all l st = some st'
  | [], _, _, h => ⟨0, h⟩
  | o :: r, st, st', h => by
    simp only [evOps] at h ⊢
    cases hw : wantedV all o st with
    | none => rw [hw] at h; cases h
    | some b =>
      rw [hw] at h
      cases b with
      | true =>
        dsimp only at h ⊢
        cases hs : evOp E (orcω E X) fc base o st with
        | none => rw [hs] at h; cases h
        | some s =>
          rw [hs] at h
          obtain ⟨n, hn⟩ := evOp_fin hs
          obtain ⟨k, hk⟩ := evOps_fin r h
          refine ⟨max n k, ?_⟩
          rw [evOp_mono (orc_mono (Nat.le_max_left n k)) hn]
          exact evOps_mono (orc_mono (Nat.le_max_right n k)) r hk
      | false => exact evOps_fin r h

theorem effOf_fin {o : Oper} {st : St} {e : Eff} (h : effOf E (orcω E X) fc base o st = some e) : ∃ n, effOf E (orc E X n) fc base o st = some e := by
  unfold effOf at h ⊢
  split at h
  · exact ⟨0, h⟩
  · unfold effMem at h ⊢
    split at h <;> try exact ⟨0, h⟩
    split at h <;> try exact ⟨0, h⟩
    unfold effCall at h ⊢
    split at h <;> try exact ⟨0, h⟩
    split at h
    case isFalse => cases h
    rename_i hc
    simp only [if_pos hc]
    split at h
    · rename_i as' has
      cases hs : (orcω E X).call ‹Nat› as' with
      | none => rw [hs] at h; cases h
      | some p =>
        obtain ⟨n, hn⟩ := (lim_iff (mono_call E X _ _)).1 hs
        rw [hs] at h
        exact ⟨n, by rw [hn]; exact h⟩
    · cases h

theorem evD_fin {all : Array Oper} {cl : List (List Nat)} : ∀ (l : List (Nat × Oper)) {st st' : St} {rs : List Rec}, evD E (orcω E X) fc base all cl l st rs = some st' → ∃ n, evD E (orc E X n) fc base all cl l st rs = some st'
  | [], _, _, _, h => ⟨0, h⟩
  | (i, o) :: r, st, st', rs, h => by
    simp only [evD] at h ⊢
    cases hw : wantedV all o st with
    | none => rw [hw] at h; cases h
    | some b =>
      rw [hw] at h
      cases b with
      | true =>
        dsimp only at h ⊢
        cases hs : effOf E (orcω E X) fc base o st with
        | none => rw [hs] at h; cases h
        | some e =>
          rw [hs] at h
          dsimp only at h
          split at h
          · rename_i hc
            obtain ⟨n, hn⟩ := effOf_fin hs
            obtain ⟨k, hk⟩ := evD_fin r h
            refine ⟨max n k, ?_⟩
            rw [effOf_mono (orc_mono (Nat.le_max_left n k)) hn]
            dsimp only
            rw [if_pos hc]
            exact evD_mono (orc_mono (Nat.le_max_right n k)) r hk
          · cases h
      | false =>
        dsimp only at h ⊢
        split at h
        · rename_i hc
          obtain ⟨k, hk⟩ := evD_fin r h
          exact ⟨k, by rw [if_pos hc]; exact hk⟩
        · cases h

theorem evRegion_fin {ops : Array Oper} {draw : Bool} {st st' : St} (h : evRegion E (orcω E X) fc base ops draw st = some st') : ∃ n, evRegion E (orc E X n) fc base ops draw st = some st' := by
  unfold evRegion at h ⊢
  split at h
  · rename_i hd
    simp only [if_pos hd]
    exact evD_fin _ h
  · rename_i hd
    simp only [if_neg hd]
    exact evOps_fin _ h

theorem roundsIn_fin {run : Nat → Code → St → Option (Ex × St)} {runω : Code → St → Option (Ex × St)} (hm : ∀ (n n' : Nat) (c : Code) (s : St) (r : Ex × St), n ≤ n' → run n c s = some r → run n' c s = some r)
    (hf : ∀ c s r, runω c s = some r → ∃ n, run n c s = some r) {ps : List Nat} {assign body : Code} :
    ∀ {xss : List (List V)} {st : St} {r : Ex × St}, roundsIn runω ps assign body xss st = some r → ∃ n, roundsIn (run n) ps assign body xss st = some r
  | [], _, _, hr => ⟨0, hr⟩
  | xs :: xss, st, r, hr => by
    simp only [roundsIn] at hr ⊢
    cases ha : runω assign { tidy st with slots := setAll ((tidy st).outer.headD []) ps xs } with
    | none => rw [ha] at hr; cases hr
    | some p =>
      obtain ⟨e, s⟩ := p
      rw [ha] at hr
      obtain ⟨n1, h1⟩ := hf _ _ _ ha
      cases e with
      | normal =>
        dsimp only at hr
        cases hb : runω body s with
        | none => rw [hb] at hr; cases hr
        | some p =>
          obtain ⟨e, s'⟩ := p
          rw [hb] at hr
          obtain ⟨n2, h2⟩ := hf _ _ _ hb
          cases e with
          | normal =>
            obtain ⟨n3, h3⟩ := roundsIn_fin hm hf (show roundsIn runω ps assign body xss s' = some r from hr)
            refine ⟨max n1 (max n2 n3), ?_⟩
            rw [hm _ _ _ _ _ (by omega) h1]
            dsimp only
            rw [hm _ _ _ _ _ (by omega) h2]
            exact roundsIn_mono (fun c s r h => hm _ _ _ _ _ (by omega) h) h3
          | exit id => exact ⟨max n1 n2, by rw [hm _ _ _ _ _ (by omega) h1]; dsimp only; rw [hm _ _ _ _ _ (by omega) h2]; exact hr⟩
          | ret => exact ⟨max n1 n2, by rw [hm _ _ _ _ _ (by omega) h1]; dsimp only; rw [hm _ _ _ _ _ (by omega) h2]; exact hr⟩
      | exit id => cases hr
      | ret => cases hr

theorem ev_fin : ∀ {n : Nat} (c : Code) {st : St} {r : Ex × St}, ev E (orcω E X) fc base n c st = some r → ∃ m, ev E (orc E X m) fc base m c st = some r := by
  have key : ∀ {n : Nat} (c : Code) {st : St} {r : Ex × St}, ev E (orcω E X) fc base n c st = some r → ∃ m, ev E (orc E X m) fc base n c st = some r := by
    intro n
    induction n with
    | zero => intro c st r h; simp [ev] at h
    | succ n ih =>
      intro c st r h
      have two : ∀ {α : Type} {m1 m2 : Nat} {a b : Code} {s t : St} {p q : Ex × St}, ev E (orc E X m1) fc base n a s = some p → ev E (orc E X m2) fc base n b t = some q →
          ∃ m, ev E (orc E X m) fc base n a s = some p ∧ ev E (orc E X m) fc base n b t = some q := fun {_ m1 m2 _ _ _ _ _ _} h1 h2 =>
        ⟨max m1 m2, ev_mono (orc_mono (Nat.le_max_left _ _)) (Nat.le_refl _) _ h1, ev_mono (orc_mono (Nat.le_max_right _ _)) (Nat.le_refl _) _ h2⟩
      simp only [ev] at h ⊢
      cases c <;> dsimp only at h ⊢ <;> try exact ⟨0, h⟩
      · cases hs : evRegion E (orcω E X) fc base ‹Array Oper› ‹Bool› st with
        | none => rw [hs] at h; cases h
        | some s =>
          obtain ⟨m, hm⟩ := evRegion_fin hs
          rw [hs] at h
          exact ⟨m, by rw [hm]; exact h⟩
      · rename_i x y
        cases hx : ev E (orcω E X) fc base n x st with
        | none => rw [hx] at h; cases h
        | some p =>
          obtain ⟨e, s⟩ := p
          rw [hx] at h
          obtain ⟨m, hm⟩ := ih _ hx
          cases e
          · obtain ⟨m2, hm2⟩ := ih _ h
            obtain ⟨m3, h3, h4⟩ := two (α := Nat) hm hm2
            exact ⟨m3, by rw [h3]; exact h4⟩
          · exact ⟨m, by rw [hm]; exact h⟩
          · exact ⟨m, by rw [hm]; exact h⟩
      · split at h
        · exact ih _ h
        · cases h
      · rename_i id b
        cases hx : ev E (orcω E X) fc base n b st with
        | none => rw [hx] at h; cases h
        | some p =>
          obtain ⟨e, s⟩ := p
          rw [hx] at h
          obtain ⟨m, hm⟩ := ih _ hx
          exact ⟨m, by rw [hm]; exact h⟩
      · rename_i b
        cases hx : ev E (orcω E X) fc base n b (normOf fc b st) with
        | none => rw [hx] at h; cases h
        | some p =>
          obtain ⟨e, s⟩ := p
          rw [hx] at h
          obtain ⟨m, hm⟩ := ih _ hx
          cases e
          · obtain ⟨m2, hm2⟩ := ih _ h
            obtain ⟨m3, h3, h4⟩ := two (α := Nat) hm hm2
            exact ⟨m3, by rw [h3]; exact h4⟩
          · exact ⟨m, by rw [hm]; exact h⟩
          · exact ⟨m, by rw [hm]; exact h⟩
      · split at h
        · rename_i xss _
          cases hx : roundsIn (ev E (orcω E X) fc base n) _ _ _ xss { st with outer := st.slots :: st.outer } with
          | none => rw [hx] at h; cases h
          | some p =>
            obtain ⟨m, hm⟩ := roundsIn_fin (run := fun m => ev E (orc E X m) fc base n) (fun _ _ c s r hle h => ev_mono (orc_mono hle) (Nat.le_refl _) c h) (fun c s r h => ih c h) hx
            rw [hx] at h
            exact ⟨m, by rw [hm]; exact h⟩
        · cases h
  intro n c st r h
  obtain ⟨m, hm⟩ := key c h
  exact ⟨max n m, ev_mono (orc_mono (Nat.le_max_right _ _)) (Nat.le_max_left _ _) c hm⟩

theorem mono_den (fc : FC) (base : Nat) (c : Code) (st : St) : Mono fun n => ev E (orcω E X) fc base n c st := fun _ _ _ hn h => ev_mono (Orc.le.refl _) hn c h

theorem den_iff {c : Code} {st : St} {r : Ex × St} : den E X fc base c st = some r ↔ ∃ n, ev E (orcω E X) fc base n c st = some r := lim_iff (mono_den fc base c st)

theorem den_skip (st : St) : den E X fc base .skip st = some (.normal, st) := den_iff.2 ⟨1, rfl⟩
theorem den_ret (st : St) : den E X fc base .ret st = some (.ret, st) := den_iff.2 ⟨1, rfl⟩
theorem den_exit (id : Nat) (st : St) : den E X fc base (.exit id) st = some (.exit id, st) := den_iff.2 ⟨1, rfl⟩
theorem den_label (id : Nat) (st : St) : den E X fc base (.label id) st = some (.normal, st) := den_iff.2 ⟨1, rfl⟩

def andThen (r : Option (Ex × St)) (k : St → Option (Ex × St)) : Option (Ex × St) := match r with
  | some (.normal, s) => k s
  | r => r

def atBlock (id : Nat) (r : Option (Ex × St)) : Option (Ex × St) := match r with
  | some (.exit i, s) => if i = id then some (.normal, s) else some (.exit i, s)
  | r => r

def normally (r : Option St) : Option (Ex × St) := match r with
  | some s => some (.normal, s)
  | none => none

@[simp] theorem andThen_normal (s : St) (k : St → Option (Ex × St)) : andThen (some (.normal, s)) k = k s := rfl
@[simp] theorem andThen_exit (i : Nat) (s : St) (k : St → Option (Ex × St)) : andThen (some (.exit i, s)) k = some (.exit i, s) := rfl
@[simp] theorem andThen_ret (s : St) (k : St → Option (Ex × St)) : andThen (some (.ret, s)) k = some (.ret, s) := rfl
@[simp] theorem atBlock_normal (id : Nat) (s : St) : atBlock id (some (.normal, s)) = some (.normal, s) := rfl
@[simp] theorem atBlock_ret (id : Nat) (s : St) : atBlock id (some (.ret, s)) = some (.ret, s) := rfl
@[simp] theorem atBlock_exit (id i : Nat) (s : St) : atBlock id (some (.exit i, s)) = if i = id then some (.normal, s) else some (.exit i, s) := rfl
@[simp] theorem normally_some (s : St) : normally (some s) = some (.normal, s) := rfl

theorem den_region (id : Nat) (ops : Array Oper) (draw : Bool) (st : St) : den E X fc base (.region id ops draw) st = normally (evRegion E (orcω E X) fc base ops draw st) := by
  refine lim_ext (mono_den _ _ _ _) fun r => ⟨fun h => ⟨1, ?_⟩, fun ⟨n, h⟩ => ?_⟩
  · simp only [ev]; exact h
  · cases n with
    | zero => simp [ev] at h
    | succ n => simp only [ev] at h; exact h

theorem den_seq (a b : Code) (st : St) : den E X fc base (.seq a b) st = andThen (den E X fc base a st) (den E X fc base b) := by
  refine lim_ext (mono_den _ _ _ _) fun r => ⟨fun h => ?_, fun ⟨n, h⟩ => ?_⟩
  · cases ha : den E X fc base a st with
    | none => rw [ha] at h; cases h
    | some p =>
      obtain ⟨e, s⟩ := p
      rw [ha] at h
      obtain ⟨n, hn⟩ := den_iff.1 ha
      cases e
      · obtain ⟨k, hk⟩ := den_iff.1 (show den E X fc base b s = some r from h)
        refine ⟨max n k + 1, ?_⟩
        simp only [ev]
        rw [ev_mono (Orc.le.refl _) (Nat.le_max_left n k) _ hn]
        exact ev_mono (Orc.le.refl _) (Nat.le_max_right n k) _ hk
      · exact ⟨n + 1, by simp only [ev]; rw [hn]; exact h⟩
      · exact ⟨n + 1, by simp only [ev]; rw [hn]; exact h⟩
  · cases n with
    | zero => simp [ev] at h
    | succ n =>
      simp only [ev] at h
      cases ha : ev E (orcω E X) fc base n a st with
      | none => rw [ha] at h; cases h
      | some p =>
        obtain ⟨e, s⟩ := p
        rw [ha] at h
        rw [den_iff.2 ⟨n, ha⟩]
        cases e
        · exact den_iff.2 ⟨n, h⟩
        · exact h
        · exact h

def onBool (v : V) (x y : Option (Ex × St)) : Option (Ex × St) := match v with
  | .bool true => x
  | .bool false => y
  | _ => none

@[simp] theorem onBool_true (x y : Option (Ex × St)) : onBool (.bool true) x y = x := rfl
@[simp] theorem onBool_false (x y : Option (Ex × St)) : onBool (.bool false) x y = y := rfl
theorem onBool_bool (b : Bool) (x y : Option (Ex × St)) : onBool (.bool b) x y = if b = true then x else y := by cases b <;> rfl

theorem den_cond (c : Operand) (a b : Code) (st : St) : den E X fc base (.cond c a b) st = onBool (st.eval c) (den E X fc base a st) (den E X fc base b st) := by
  refine lim_ext (mono_den _ _ _ _) fun r => ⟨fun h => ?_, fun ⟨n, h⟩ => ?_⟩
  · unfold onBool at h
    split at h
    · rename_i hc
      obtain ⟨n, hn⟩ := den_iff.1 h
      exact ⟨n + 1, by simp only [ev]; rw [hc]; exact hn⟩
    · rename_i hc
      obtain ⟨n, hn⟩ := den_iff.1 h
      exact ⟨n + 1, by simp only [ev]; rw [hc]; exact hn⟩
    · cases h
  · cases n with
    | zero => simp [ev] at h
    | succ n =>
      simp only [ev] at h
      split at h
      · rename_i t ht
        rw [ht]
        cases t
        · exact den_iff.2 ⟨n, h⟩
        · exact den_iff.2 ⟨n, h⟩
      · cases h

theorem den_block (id : Nat) (b : Code) (st : St) : den E X fc base (.block id b) st = atBlock id (den E X fc base b st) := by
  refine lim_ext (mono_den _ _ _ _) fun r => ⟨fun h => ?_, fun ⟨n, h⟩ => ?_⟩
  · cases ha : den E X fc base b st with
    | none => rw [ha] at h; cases h
    | some p =>
      rw [ha] at h
      obtain ⟨n, hn⟩ := den_iff.1 ha
      exact ⟨n + 1, by simp only [ev]; rw [hn]; exact h⟩
  · cases n with
    | zero => simp [ev] at h
    | succ n =>
      simp only [ev] at h
      cases ha : ev E (orcω E X) fc base n b st with
      | none => rw [ha] at h; cases h
      | some p => rw [ha] at h; rw [den_iff.2 ⟨n, ha⟩]; exact h

theorem den_loop (b : Code) (st : St) : den E X fc base (.loop b) st = andThen (den E X fc base b (normOf fc b st)) (den E X fc base (.loop b)) := by
  refine lim_ext (mono_den _ _ _ _) fun r => ⟨fun h => ?_, fun ⟨n, h⟩ => ?_⟩
  · cases ha : den E X fc base b (normOf fc b st) with
    | none => rw [ha] at h; cases h
    | some p =>
      obtain ⟨e, s⟩ := p
      rw [ha] at h
      obtain ⟨n, hn⟩ := den_iff.1 ha
      cases e
      · obtain ⟨k, hk⟩ := den_iff.1 (show den E X fc base (.loop b) s = some r from h)
        refine ⟨max n k + 1, ?_⟩
        simp only [ev]
        rw [ev_mono (Orc.le.refl _) (Nat.le_max_left n k) _ hn]
        exact ev_mono (Orc.le.refl _) (Nat.le_max_right n k) _ hk
      · exact ⟨n + 1, by simp only [ev]; rw [hn]; exact h⟩
      · exact ⟨n + 1, by simp only [ev]; rw [hn]; exact h⟩
  · cases n with
    | zero => simp [ev] at h
    | succ n =>
      simp only [ev] at h
      cases ha : ev E (orcω E X) fc base n b (normOf fc b st) with
      | none => rw [ha] at h; cases h
      | some p =>
        obtain ⟨e, s⟩ := p
        rw [ha] at h
        rw [den_iff.2 ⟨n, ha⟩]
        cases e
        · exact den_iff.2 ⟨n, h⟩
        · exact h
        · exact h

theorem den_range (g : Operand) (ps : Array Nat) (assign body : Code) (st : St) : den E X fc base (.rangeFunc g ps assign body) st = match seqOf E ps assign body (st.eval g) st with
    | some xss => popped (roundsIn (den E X fc base) ps.toList assign body xss { st with outer := st.slots :: st.outer })
    | none => none := by
  refine lim_ext (mono_den _ _ _ _) fun r => ⟨fun h => ?_, fun ⟨n, h⟩ => ?_⟩
  · split at h
    · rename_i xss hx
      cases hr : roundsIn (den E X fc base) ps.toList assign body xss { st with outer := st.slots :: st.outer } with
      | none => rw [hr] at h; cases h
      | some p =>
        obtain ⟨n, hn⟩ := roundsIn_fin (run := ev E (orcω E X) fc base) (fun _ _ c s r hle h => ev_mono (Orc.le.refl _) hle c h) (fun c s r h => den_iff.1 h) hr
        rw [hr] at h
        exact ⟨n + 1, by simp only [ev]; rw [hx]; dsimp only; rw [hn]; exact h⟩
    · cases h
  · cases n with
    | zero => simp [ev] at h
    | succ n =>
      simp only [ev] at h
      split at h
      · rename_i xss hx
        rw [hx]
        exact popped_mono (roundsIn_mono (fun c s r h => den_iff.2 ⟨n, h⟩)) h
      · cases h

/-- What a body answers. -/
def atEnd (E : Env) (fn : Func) (r : Option (Ex × St)) : Option (V × St) := match r with
  | some (.normal, s) | some (.ret, s) => match resultsV E fn s with
    | some v => some (v, s)
    | none => none
  | _ => none

def outOfCall (r : Option (V × St)) : Option V := match r with
  | some (v, s) => resolve s.objs depth v
  | none => none

theorem evFn_lim {n base f : Nat} {args : List V} {st : St} {fn : Func} {c : Code} (hf : E.fn f = some fn) (hc : fn.body = some c) :
    evFn E (orcω E X) n base f args st = atEnd E fn (ev E (orcω E X) (E.fc f) base n c { st with slots := args ++ List.replicate (fn.ntmps - args.length) .und }) := by
  unfold evFn atEnd
  simp only [hf, hc]
  cases ev E (orcω E X) (E.fc f) base n c { st with slots := args ++ List.replicate (fn.ntmps - args.length) .und } with
  | none => rfl
  | some p => obtain ⟨e, s⟩ := p; cases e <;> rfl

theorem evFn_fin {n base f : Nat} {args : List V} {st : St} {r : V × St} (h : evFn E (orcω E X) n base f args st = some r) : ∃ m, evFn E (orc E X m) m base f args st = some r := by
  cases hf : E.fn f with
  | none => simp [evFn, hf] at h
  | some fn =>
    cases hc : fn.body with
    | none => simp [evFn, hf, hc] at h
    | some c =>
      unfold evFn at h ⊢
      simp only [hf, hc] at h ⊢
      cases hx : ev E (orcω E X) (E.fc f) base n c { st with slots := args ++ List.replicate (fn.ntmps - args.length) .und } with
      | none => rw [hx] at h; cases h
      | some p =>
        obtain ⟨m, hm⟩ := ev_fin c hx
        rw [hx] at h
        exact ⟨m, by rw [hm]; exact h⟩

/-- A call, by the body. -/
theorem call_of {g : Nat} {as : List V} {fn : Func} {c : Code} {r : V} (hX : X.call g as = none) (hf : E.fn g = some fn) (hc : fn.body = some c)
    (h : outOfCall (atEnd E fn (den E X (E.fc g) 0 c { slots := as ++ List.replicate (fn.ntmps - as.length) .und, outer := [], objs := [] })) = some r) : (orcω E X).call g as = some r := by
  cases hd : den E X (E.fc g) 0 c { slots := as ++ List.replicate (fn.ntmps - as.length) .und, outer := [], objs := [] } with
  | none => rw [hd] at h; cases h
  | some p =>
    obtain ⟨n, hn⟩ := den_iff.1 hd
    rw [hd] at h
    have h2 := evFn_lim (X := X) (n := n) (base := 0) (args := as) (st := { slots := [], outer := [], objs := [] }) hf hc
    rw [hn] at h2
    cases h3 : atEnd E fn (some p) with
    | none => rw [h3] at h; cases h
    | some q =>
      rw [h3] at h h2
      obtain ⟨m, hm⟩ := evFn_fin h2
      refine (lim_iff (mono_call E X g as)).2 ⟨m + 1, ?_⟩
      simp only [orc, hX, hm]
      exact h

/-- A call on its caller's objects, by the body. -/
theorem inl_of {b g : Nat} {as : List V} {st st' : St} {fn : Func} {c : Code} {r : V} (hX : X.inl b g as st = none) (hf : E.fn g = some fn) (hc : fn.body = some c)
    (h : atEnd E fn (den E X (E.fc g) b c { st with slots := as ++ List.replicate (fn.ntmps - as.length) .und }) = some (r, st')) : (orcω E X).inl b g as st = some (r, st') := by
  cases hd : den E X (E.fc g) b c { st with slots := as ++ List.replicate (fn.ntmps - as.length) .und } with
  | none => rw [hd] at h; cases h
  | some p =>
    obtain ⟨n, hn⟩ := den_iff.1 hd
    rw [hd] at h
    have h2 := evFn_lim (X := X) (n := n) (base := b) (args := as) (st := st) hf hc
    rw [hn, h] at h2
    obtain ⟨m, hm⟩ := evFn_fin h2
    refine (lim_iff (mono_inl E X b g as st)).2 ⟨m + 1, ?_⟩
    simp only [orc, hX, hm]

end
end Go.AM
