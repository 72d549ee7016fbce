/- A part of the proof: the texts AmLim, AmTy, AmLoop, AmSimp, AmStat, AmStatB, AmRow, AmIter, AmSet, AmSetB, one after another. No condition. -/
import Derived.Test.YteocppddjlglbaaAmQ
import Derived.Test.YteocppddjlglbaaAmP
import Derived.IntWalk
import Derived.ProofKit
import Derived.OpenShut
set_option linter.unusedVariables false
set_option linter.unusedSimpArgs false

section
/-
The limit of the abstract machine: what some fuel answers, as a function.
-/
namespace Go.AM
open Go

open Classical in
noncomputable def lim {α : Type} (f : Nat → Option α) : Option α := if h : ∃ n r, f n = some r then some h.choose_spec.choose else none

def Mono {α : Type} (f : Nat → Option α) : Prop := ∀ n n' r, n ≤ n' → f n = some r → f n' = some r

theorem lim_iff {α : Type} {f : Nat → Option α} (hf : Mono f) {r : α} : lim f = some r ↔ ∃ n, f n = some r := by
  unfold lim
  constructor
  · intro h
    split at h
    · rename_i h'
      cases h
      exact ⟨_, h'.choose_spec.choose_spec⟩
    · cases h
  · rintro ⟨n, hn⟩
    have h' : ∃ n r, f n = some r := ⟨n, r, hn⟩
    rw [dif_pos h']
    have h1 := h'.choose_spec.choose_spec
    have h2 := hf _ (max n h'.choose) _ (Nat.le_max_left _ _) hn
    have h3 := hf _ (max n h'.choose) _ (Nat.le_max_right _ _) h1
    rw [h2] at h3
    exact h3.symm

theorem lim_none {α : Type} {f : Nat → Option α} (hf : Mono f) : lim f = none ↔ ∀ n, f n = none := by
  constructor
  · intro h n
    cases hn : f n with
    | none => rfl
    | some r => rw [(lim_iff hf).2 ⟨n, hn⟩] at h; cases h
  · intro h
    cases hr : lim f with
    | none => rfl
    | some r => obtain ⟨n, hn⟩ := (lim_iff hf).1 hr; rw [h n] at hn; cases hn

theorem lim_ext {α : Type} {f : Nat → Option α} (hf : Mono f) {o : Option α} (h : ∀ r, o = some r ↔ ∃ n, f n = some r) : lim f = o := by
  cases hr : lim f with
  | none => cases o with
    | none => rfl
    | some r => obtain ⟨n, hn⟩ := (h r).1 rfl; rw [(lim_none hf).1 hr n] at hn; cases hn
  | some r => exact ((h r).2 ((lim_iff hf).1 hr)).symm

section
variable (E : Env) (X : Ext)

theorem mono_call (g : Nat) (as : List V) : Mono fun n => (orc E X n).call g as := fun _ _ _ hn h => (orc_mono hn).call g as _ h
theorem mono_inl (b g : Nat) (as : List V) (st : St) : Mono fun n => (orc E X n).inl b g as st := fun _ _ _ hn h => (orc_mono hn).inl b g as st _ h

noncomputable def orcω : Orc := { call := fun g as => lim fun n => (orc E X n).call g as, inl := fun b g as st => lim fun n => (orc E X n).inl b g as st }

noncomputable def den (fc : FC) (base : Nat) (c : Code) (st : St) : Option (Ex × St) := lim fun n => ev E (orcω E X) fc base n c st
end

section
variable {E : Env} {X : Ext} {fc : FC} {base : Nat}

theorem orcω_le (n : Nat) : (orc E X n).le (orcω E X) :=
  ⟨fun g as _ h => (lim_iff (mono_call E X g as)).2 ⟨n, h⟩, fun b g as st _ h => (lim_iff (mono_inl E X b g as st)).2 ⟨n, h⟩⟩

theorem evCall_fin {dst : Option Nat} {f : V} {args : List V} {st st' : St} (h : evCall E (orcω E X) fc base dst f args st = some st') : ∃ n, evCall E (orc E X n) fc base dst f args st = some st' := by
  unfold evCall at h ⊢
  cases f <;> try (cases h; done)
  dsimp only at h ⊢
  split at h
  · rename_i hi
    simp only [if_pos hi]
    split at h
    · rename_i hf
      simp only [if_pos hf]
      split at h
      · rename_i hfr
        simp only [if_pos hfr]
        unfold evFresh at h ⊢
        split at h
        case h_2 => cases h
        split at h
        case isFalse => cases h
        rename_i hc
        simp only [if_pos hc]
        cases hs : (orcω E X).inl 1000 _ _ _ with
        | none => rw [hs] at h; cases h
        | some p =>
          obtain ⟨n, hn⟩ := (lim_iff (mono_inl E X _ _ _ _)).1 hs
          rw [hs] at h
          exact ⟨n, by rw [hn]; exact h⟩
      · rename_i hfr
        simp only [if_neg hfr]
        unfold qZ at h ⊢
        split at h
        case isFalse => cases h
        rename_i hc
        simp only [if_pos hc]
        cases hs : (orcω E X).inl 1000 _ _ _ with
        | none => rw [hs] at h; cases h
        | some p =>
          obtain ⟨n, hn⟩ := (lim_iff (mono_inl E X _ _ _ _)).1 hs
          rw [hs] at h
          exact ⟨n, by rw [hn]; exact h⟩
    rename_i hf
    simp only [if_neg hf]
    cases hs : (orcω E X).inl (base + 1000) ‹Nat› _ _ with
    | none => rw [hs] at h; cases h
    | some p =>
      obtain ⟨n, hn⟩ := (lim_iff (mono_inl E X _ _ _ _)).1 hs
      rw [hs] at h
      exact ⟨n, by rw [hn]; exact h⟩
  · rename_i hi
    simp only [if_neg hi]
    split at h
    · rename_i as' has
      cases hs : (orcω E X).call ‹Nat› as' with
      | none => rw [hs] at h; cases h
      | some p =>
        obtain ⟨n, hn⟩ := (lim_iff (mono_call E X _ _)).1 hs
        rw [hs] at h
        exact ⟨n, by rw [hn]; exact h⟩
    · cases h

theorem evOp_fin {o : Oper} {st st' : St} (h : zH E (orcω E X) fc base o st = some st') : ∃ n, zH E (orc E X n) fc base o st = some st' := by
  unfold zH at h ⊢
  split at h
  · split at h
    · exact evCall_fin h
    · exact ⟨0, h⟩
  · exact ⟨0, h⟩

theorem evOps_fin {all : Array Oper} : ∀ (l : List Oper) {st st' : St}, evOps E (orcω E X) fc base all l st = some st' → ∃ n, evOps E (orc E X n) fc base all l st = some st'
  | [], _, _, h => ⟨0, h⟩
  | o :: r, st, st', h => by
    simp only [evOps] at h ⊢
    cases hw : wantedV all o st with
    | none => rw [hw] at h; cases h
    | some b =>
      rw [hw] at h
      cases b with
      | true =>
        dsimp only at h ⊢
        cases hs : zH E (orcω E X) fc base o st with
        | none => rw [hs] at h; cases h
        | some s =>
          rw [hs] at h
          obtain ⟨n, hn⟩ := evOp_fin hs
          obtain ⟨k, hk⟩ := evOps_fin r h
          refine ⟨max n k, ?_⟩
          rw [evOp_mono (orc_mono (Nat.le_max_left n k)) hn]
          exact evOps_mono (orc_mono (Nat.le_max_right n k)) r hk
      | false => exact evOps_fin r h

theorem effOf_fin {o : Oper} {st : St} {e : Eff} (h : qJ E (orcω E X) fc base o st = some e) : ∃ n, qJ E (orc E X n) fc base o st = some e := by
  unfold qJ at h ⊢
  split at h
  · exact ⟨0, h⟩
  · unfold qK at h ⊢
    split at h <;> try exact ⟨0, h⟩
    split at h <;> try exact ⟨0, h⟩
    unfold zX at h ⊢
    split at h <;> try exact ⟨0, h⟩
    split at h
    case isFalse => cases h
    rename_i hc
    simp only [if_pos hc]
    split at h
    · rename_i as' has
      cases hs : (orcω E X).call ‹Nat› as' with
      | none => rw [hs] at h; cases h
      | some p =>
        obtain ⟨n, hn⟩ := (lim_iff (mono_call E X _ _)).1 hs
        rw [hs] at h
        exact ⟨n, by rw [hn]; exact h⟩
    · cases h

theorem evD_fin {all : Array Oper} {cl : List (List Nat)} : ∀ (l : List (Nat × Oper)) {st st' : St} {rs : List Rec}, evD E (orcω E X) fc base all cl l st rs = some st' → ∃ n, evD E (orc E X n) fc base all cl l st rs = some st'
  | [], _, _, _, h => ⟨0, h⟩
  | (i, o) :: r, st, st', rs, h => by
    simp only [evD] at h ⊢
    cases hw : wantedV all o st with
    | none => rw [hw] at h; cases h
    | some b =>
      rw [hw] at h
      cases b with
      | true =>
        dsimp only at h ⊢
        cases hs : qJ E (orcω E X) fc base o st with
        | none => rw [hs] at h; cases h
        | some e =>
          rw [hs] at h
          dsimp only at h
          split at h
          · rename_i hc
            obtain ⟨n, hn⟩ := effOf_fin hs
            obtain ⟨k, hk⟩ := evD_fin r h
            refine ⟨max n k, ?_⟩
            rw [effOf_mono (orc_mono (Nat.le_max_left n k)) hn]
            dsimp only
            rw [if_pos hc]
            exact evD_mono (orc_mono (Nat.le_max_right n k)) r hk
          · cases h
      | false =>
        dsimp only at h ⊢
        split at h
        · rename_i hc
          obtain ⟨k, hk⟩ := evD_fin r h
          exact ⟨k, by rw [if_pos hc]; exact hk⟩
        · cases h

theorem evRegion_fin {ops : Array Oper} {draw : Bool} {st st' : St} (h : evRegion E (orcω E X) fc base ops draw st = some st') : ∃ n, evRegion E (orc E X n) fc base ops draw st = some st' := by
  unfold evRegion at h ⊢
  split at h
  · rename_i hd
    simp only [if_pos hd]
    exact evD_fin _ h
  · rename_i hd
    simp only [if_neg hd]
    exact evOps_fin _ h

theorem effNew_fin {dst : Option Nat} {f : V} {args : List V} {st : St} {e : Eff} (h : effNew E (orcω E X) fc base dst f args st = some e) : ∃ n, effNew E (orc E X n) fc base dst f args st = some e := by
  unfold effNew at h ⊢
  split at h
  case h_2 => cases h
  split at h
  · rename_i hi
    simp only [if_pos hi]
    split at h
    case isFalse =>
      rename_i hc
      simp only [if_neg hc]
      unfold effFr at h ⊢
      split at h
      case isFalse => cases h
      rename_i hc2
      simp only [if_pos hc2]
      cases hs : (orcω E X).inl 1000 _ _ _ with
      | none => rw [hs] at h; cases h
      | some p =>
        obtain ⟨n, hn⟩ := (lim_iff (mono_inl E X _ _ _ _)).1 hs
        rw [hs] at h
        exact ⟨n, by rw [hn]; exact h⟩
    rename_i hc
    simp only [if_pos hc]
    split at h
    · cases hs : (orcω E X).inl 1000 _ _ _ with
      | none => rw [hs] at h; cases h
      | some p =>
        obtain ⟨n, hn⟩ := (lim_iff (mono_inl E X _ _ _ _)).1 hs
        rw [hs] at h
        exact ⟨n, by rw [hn]; exact h⟩
    · cases h
  · rename_i hi
    simp only [if_neg hi]
    split at h
    · split at h
      · cases hs : (orcω E X).call _ _ with
        | none => rw [hs] at h; cases h
        | some p =>
          obtain ⟨n, hn⟩ := (lim_iff (mono_call E X _ _)).1 hs
          rw [hs] at h
          exact ⟨n, by rw [hn]; exact h⟩
      · cases h
    · cases h

theorem effX_fin {o : Oper} {st : St} {e : Eff} (h : effX E (orcω E X) fc base o st = some e) : ∃ n, effX E (orc E X n) fc base o st = some e := by
  have h0 := h
  unfold effX at h
  cases he : qJ E (orcω E X) fc base o st with
  | some e' =>
    rw [he] at h
    obtain ⟨n, hn⟩ := effOf_fin he
    exact ⟨n, by unfold effX; rw [hn]; exact h⟩
  | none =>
    rw [he] at h
    dsimp only at h
    split at h
    case h_2 => cases h
    rename_i c ho
    split at h
    case h_2 => cases h
    rename_i f hc
    obtain ⟨n, hn⟩ := effNew_fin h
    refine ⟨n, ?_⟩
    have hn0 : qJ E (orc E X n) fc base o st = none := by
      cases hq : qJ E (orc E X n) fc base o st with
      | none => rfl
      | some e' => rw [effOf_mono (orcω_le n) hq] at he; cases he
    unfold effX
    rw [hn0]
    dsimp only
    rw [ho]
    dsimp only
    rw [hc]
    exact hn

structure EfFin (bk : Oper → St → Bool) (efω : Oper → St → Option Eff) (ef : Nat → Oper → St → Option Eff) : Prop where
  fin : ∀ o st e, efω o st = some e → ∃ n, ef n o st = some e
  mono : ∀ n m, n ≤ m → EfLe bk (ef n) (ef m)
  bar : ∀ n o st, bk o st = true → efω o st = none → ef n o st = none

theorem efFin_of {bk : Oper → St → Bool} (hbk : ∀ o st, bk o st = true → isBarL E o st = true) : EfFin bk (qJ E (orcω E X) fc base) (fun n => qJ E (orc E X n) fc base) :=
  ⟨fun _ _ _ h => effOf_fin h, fun _ _ hn => efLe_of (orc_mono hn) hbk, fun _ o st hb h => effOf_barL (hbk o st hb) h⟩

theorem efFin_X : EfFin (isBarX E) (effX E (orcω E X) fc base) (fun n => effX E (orc E X n) fc base) :=
  ⟨fun _ _ _ h => effX_fin h, fun _ _ hn => efLe_X (orc_mono hn), fun n o st hb h => by
    cases hq : effX E (orc E X n) fc base o st with
    | none => rfl
    | some e => rw [(efLe_X (orcω_le n)).some _ _ _ hq] at h; cases h⟩

theorem evB_fin {efω : Oper → St → Option Eff} {ef : Nat → Oper → St → Option Eff} {sp : Oper → St → List Nat} {bk : Oper → St → Bool} (hE : EfFin bk efω ef) {all : Array Oper} {cl : List (List Nat)} : ∀ (l : List (Nat × Oper)) {st st' : St} {rs : List Rec}, evB E (orcω E X) fc base efω sp bk all cl l st rs = some st' → ∃ n, evB E (orc E X n) fc base (ef n) sp bk all cl l st rs = some st'
  | [], _, _, _, h => ⟨0, h⟩
  | (i, o) :: r, st, st', rs, h => by
    simp only [evB] at h ⊢
    cases hw : wantedV all o st with
    | none => rw [hw] at h; cases h
    | some b =>
      rw [hw] at h
      cases b with
      | true =>
        dsimp only at h ⊢
        cases hs : efω o st with
        | none =>
          rw [hs] at h
          dsimp only at h
          split at h
          case isFalse => cases h
          rename_i hc
          cases hv : zH E (orcω E X) fc base o st with
          | none => rw [hv] at h; cases h
          | some s =>
            rw [hv] at h
            obtain ⟨n, hn⟩ := evOp_fin hv
            obtain ⟨k, hk⟩ := evB_fin hE r h
            refine ⟨max n k, ?_⟩
            rw [hE.bar (max n k) _ _ (Bool.and_eq_true_iff.1 hc).1 hs]
            dsimp only
            rw [if_pos hc, evOp_mono (orc_mono (Nat.le_max_left n k)) hn]
            exact evB_mono (orc_mono (Nat.le_max_right n k)) (hE.mono _ _ (Nat.le_max_right n k)) r hk
        | some e =>
          rw [hs] at h
          dsimp only at h
          split at h
          · rename_i hc
            obtain ⟨n, hn⟩ := hE.fin _ _ _ hs
            obtain ⟨k, hk⟩ := evB_fin hE r h
            refine ⟨max n k, ?_⟩
            rw [(hE.mono _ _ (Nat.le_max_left n k)).some _ _ _ hn]
            dsimp only
            rw [if_pos hc]
            exact evB_mono (orc_mono (Nat.le_max_right n k)) (hE.mono _ _ (Nat.le_max_right n k)) r hk
          · cases h
      | false =>
        dsimp only at h ⊢
        split at h
        · rename_i hc
          obtain ⟨k, hk⟩ := evB_fin hE r h
          exact ⟨k, by rw [if_pos hc]; exact hk⟩
        · cases h

theorem evReg_fin {ops : Array Oper} {draw : Bool} {st st' : St} (h : evReg E (orcω E X) fc base ops draw st = some st') : ∃ n, evReg E (orc E X n) fc base ops draw st = some st' := by
  unfold evReg at h ⊢
  cases draw with
  | false => exact evRegion_fin h
  | true =>
    dsimp only at h ⊢
    cases hl : fc.lead with
    | true =>
      rw [hl] at h
      dsimp only [regL] at h ⊢
      unfold evLead at h ⊢
      split at h
      case h_2 => cases h
      split at h
      case h_2 => cases h
      split at h
      case isFalse => cases h
      rename_i hc
      simp only [if_pos hc]
      exact evB_fin (efFin_of fun _ _ h => h) _ h
    | false =>
      rw [hl] at h
      dsimp only [regL] at h ⊢
      cases hb : fc.bar with
      | true =>
        rw [hb] at h
        dsimp only [regG] at h ⊢
        cases ht : fc.tew with
        | true => rw [ht] at h; exact evB_fin efFin_X _ h
        | false => rw [ht] at h; exact evB_fin (efFin_of fun _ _ h => isBar_L h) _ h
      | false => rw [hb] at h; exact evRegion_fin h

theorem roundsIn_fin {run : Nat → Code → St → Option (Ex × St)} {runω : Code → St → Option (Ex × St)} (hm : ∀ (n n' : Nat) (c : Code) (s : St) (r : Ex × St), n ≤ n' → run n c s = some r → run n' c s = some r)
    (hf : ∀ c s r, runω c s = some r → ∃ n, run n c s = some r) {ps : List Nat} {assign body : Code} :
    ∀ {xss : List (List V)} {st : St} {r : Ex × St}, roundsIn runω ps assign body xss st = some r → ∃ n, roundsIn (run n) ps assign body xss st = some r
  | [], _, _, hr => ⟨0, hr⟩
  | xs :: xss, st, r, hr => by
    simp only [roundsIn] at hr ⊢
    cases ha : runω assign { tidy st with slots := xP ((tidy st).outer.headD []) ps xs } with
    | none => rw [ha] at hr; cases hr
    | some p =>
      obtain ⟨e, s⟩ := p
      rw [ha] at hr
      obtain ⟨n1, h1⟩ := hf _ _ _ ha
      cases e with
      | normal =>
        dsimp only at hr
        cases hb : runω body s with
        | none => rw [hb] at hr; cases hr
        | some p =>
          obtain ⟨e, s'⟩ := p
          rw [hb] at hr
          obtain ⟨n2, h2⟩ := hf _ _ _ hb
          cases e with
          | normal =>
            obtain ⟨n3, h3⟩ := roundsIn_fin hm hf (show roundsIn runω ps assign body xss s' = some r from hr)
            refine ⟨max n1 (max n2 n3), ?_⟩
            rw [hm _ _ _ _ _ (by omega) h1]
            dsimp only
            rw [hm _ _ _ _ _ (by omega) h2]
            exact roundsIn_mono (fun c s r h => hm _ _ _ _ _ (by omega) h) h3
          | exit id => exact ⟨max n1 n2, by rw [hm _ _ _ _ _ (by omega) h1]; dsimp only; rw [hm _ _ _ _ _ (by omega) h2]; exact hr⟩
          | ret => exact ⟨max n1 n2, by rw [hm _ _ _ _ _ (by omega) h1]; dsimp only; rw [hm _ _ _ _ _ (by omega) h2]; exact hr⟩
      | exit id => cases hr
      | ret => cases hr

theorem ev_fin : ∀ {n : Nat} (c : Code) {st : St} {r : Ex × St}, ev E (orcω E X) fc base n c st = some r → ∃ m, ev E (orc E X m) fc base m c st = some r := by
  have key : ∀ {n : Nat} (c : Code) {st : St} {r : Ex × St}, ev E (orcω E X) fc base n c st = some r → ∃ m, ev E (orc E X m) fc base n c st = some r := by
    intro n
    induction n with
    | zero => intro c st r h; simp [ev] at h
    | succ n ih =>
      intro c st r h
      have two : ∀ {α : Type} {m1 m2 : Nat} {a b : Code} {s t : St} {p q : Ex × St}, ev E (orc E X m1) fc base n a s = some p → ev E (orc E X m2) fc base n b t = some q →
          ∃ m, ev E (orc E X m) fc base n a s = some p ∧ ev E (orc E X m) fc base n b t = some q := fun {_ m1 m2 _ _ _ _ _ _} h1 h2 =>
        ⟨max m1 m2, ev_mono (orc_mono (Nat.le_max_left _ _)) (Nat.le_refl _) _ h1, ev_mono (orc_mono (Nat.le_max_right _ _)) (Nat.le_refl _) _ h2⟩
      simp only [ev] at h ⊢
      cases c <;> dsimp only at h ⊢ <;> try exact ⟨0, h⟩
      · cases hs : evReg E (orcω E X) fc base ‹Array Oper› ‹Bool› st with
        | none => rw [hs] at h; cases h
        | some s =>
          obtain ⟨m, hm⟩ := evReg_fin hs
          rw [hs] at h
          exact ⟨m, by rw [hm]; exact h⟩
      · rename_i x y
        cases hx : ev E (orcω E X) fc base n x st with
        | none => rw [hx] at h; cases h
        | some p =>
          obtain ⟨e, s⟩ := p
          rw [hx] at h
          obtain ⟨m, hm⟩ := ih _ hx
          cases e
          · obtain ⟨m2, hm2⟩ := ih _ h
            obtain ⟨m3, h3, h4⟩ := two (α := Nat) hm hm2
            exact ⟨m3, by rw [h3]; exact h4⟩
          · exact ⟨m, by rw [hm]; exact h⟩
          · exact ⟨m, by rw [hm]; exact h⟩
      · split at h
        · exact ih _ h
        · cases h
      · rename_i id b
        cases hx : ev E (orcω E X) fc base n b st with
        | none => rw [hx] at h; cases h
        | some p =>
          obtain ⟨e, s⟩ := p
          rw [hx] at h
          obtain ⟨m, hm⟩ := ih _ hx
          exact ⟨m, by rw [hm]; exact h⟩
      · rename_i b
        cases hx : ev E (orcω E X) fc base n b (zC fc b st) with
        | none => rw [hx] at h; cases h
        | some p =>
          obtain ⟨e, s⟩ := p
          rw [hx] at h
          obtain ⟨m, hm⟩ := ih _ hx
          cases e
          · obtain ⟨m2, hm2⟩ := ih _ h
            obtain ⟨m3, h3, h4⟩ := two (α := Nat) hm hm2
            exact ⟨m3, by rw [h3]; exact h4⟩
          · exact ⟨m, by rw [hm]; exact h⟩
          · exact ⟨m, by rw [hm]; exact h⟩
      · split at h
        · rename_i xss _
          cases hx : roundsIn (ev E (orcω E X) fc base n) _ _ _ xss { st with outer := st.slots :: st.outer } with
          | none => rw [hx] at h; cases h
          | some p =>
            obtain ⟨m, hm⟩ := roundsIn_fin (run := fun m => ev E (orc E X m) fc base n) (fun _ _ c s r hle h => ev_mono (orc_mono hle) (Nat.le_refl _) c h) (fun c s r h => ih c h) hx
            rw [hx] at h
            exact ⟨m, by rw [hm]; exact h⟩
        · cases h
      · exact ih _ h
  intro n c st r h
  obtain ⟨m, hm⟩ := key c h
  exact ⟨max n m, ev_mono (orc_mono (Nat.le_max_right _ _)) (Nat.le_max_left _ _) c hm⟩

theorem mono_den (fc : FC) (base : Nat) (c : Code) (st : St) : Mono fun n => ev E (orcω E X) fc base n c st := fun _ _ _ hn h => ev_mono (Orc.le.refl _) hn c h

theorem den_iff {c : Code} {st : St} {r : Ex × St} : den E X fc base c st = some r ↔ ∃ n, ev E (orcω E X) fc base n c st = some r := lim_iff (mono_den fc base c st)

theorem den_skip (st : St) : den E X fc base .skip st = some (.normal, st) := den_iff.2 ⟨1, rfl⟩
theorem den_ret (st : St) : den E X fc base .ret st = some (.ret, st) := den_iff.2 ⟨1, rfl⟩
theorem den_exit (id : Nat) (st : St) : den E X fc base (.exit id) st = some (.exit id, st) := den_iff.2 ⟨1, rfl⟩
theorem den_label (id : Nat) (st : St) : den E X fc base (.label id) st = some (.normal, st) := den_iff.2 ⟨1, rfl⟩

theorem den_scope (b : Code) (st : St) : den E X fc base (.scope b) st = den E X fc base b st := by
  refine lim_ext (mono_den _ _ _ _) fun r => ⟨fun h => ?_, fun ⟨n, h⟩ => ?_⟩
  · obtain ⟨n, hn⟩ := den_iff.1 h
    exact ⟨n + 1, by simp only [ev]; exact hn⟩
  · cases n with
    | zero => simp [ev] at h
    | succ n =>
      simp only [ev] at h
      exact den_iff.2 ⟨n, h⟩

def andThen (r : Option (Ex × St)) (k : St → Option (Ex × St)) : Option (Ex × St) := match r with
  | some (.normal, s) => k s
  | r => r

def atBlock (id : Nat) (r : Option (Ex × St)) : Option (Ex × St) := match r with
  | some (.exit i, s) => if i = id then some (.normal, s) else some (.exit i, s)
  | r => r

def normally (r : Option St) : Option (Ex × St) := match r with
  | some s => some (.normal, s)
  | none => none

@[simp] theorem andThen_normal (s : St) (k : St → Option (Ex × St)) : andThen (some (.normal, s)) k = k s := rfl
@[simp] theorem andThen_exit (i : Nat) (s : St) (k : St → Option (Ex × St)) : andThen (some (.exit i, s)) k = some (.exit i, s) := rfl
@[simp] theorem andThen_ret (s : St) (k : St → Option (Ex × St)) : andThen (some (.ret, s)) k = some (.ret, s) := rfl
@[simp] theorem atBlock_normal (id : Nat) (s : St) : atBlock id (some (.normal, s)) = some (.normal, s) := rfl
@[simp] theorem atBlock_ret (id : Nat) (s : St) : atBlock id (some (.ret, s)) = some (.ret, s) := rfl
@[simp] theorem atBlock_exit (id i : Nat) (s : St) : atBlock id (some (.exit i, s)) = if i = id then some (.normal, s) else some (.exit i, s) := rfl
@[simp] theorem normally_some (s : St) : normally (some s) = some (.normal, s) := rfl

theorem den_regG (id : Nat) (ops : Array Oper) (draw : Bool) (st : St) : den E X fc base (.region id ops draw) st = normally (evReg E (orcω E X) fc base ops draw st) := by
  refine lim_ext (mono_den _ _ _ _) fun r => ⟨fun h => ⟨1, ?_⟩, fun ⟨n, h⟩ => ?_⟩
  · simp only [ev]; exact h
  · cases n with
    | zero => simp [ev] at h
    | succ n => simp only [ev] at h; exact h

theorem den_region (id : Nat) (ops : Array Oper) (st : St) : den E X fc base (.region id ops false) st = normally (evRegion E (orcω E X) fc base ops false st) := den_regG id ops false st
theorem den_regT (id : Nat) (ops : Array Oper) (st : St) : den E X fc base (.region id ops true) st = normally (regL E (orcω E X) fc base ops st fc.lead) := den_regG id ops true st
theorem regL_no (ops : Array Oper) (st : St) : regL E (orcω E X) fc base ops st false = regG E (orcω E X) fc base ops st fc.bar := rfl
theorem regG_yes (ops : Array Oper) (st : St) : regG E (orcω E X) fc base ops st true = regX E (orcω E X) fc base ops st fc.tew := rfl
theorem regG_no (ops : Array Oper) (st : St) : regG E (orcω E X) fc base ops st false = evRegion E (orcω E X) fc base ops true st := rfl

theorem den_seq (a b : Code) (st : St) : den E X fc base (.seq a b) st = andThen (den E X fc base a st) (den E X fc base b) := by
  refine lim_ext (mono_den _ _ _ _) fun r => ⟨fun h => ?_, fun ⟨n, h⟩ => ?_⟩
  · cases ha : den E X fc base a st with
    | none => rw [ha] at h; cases h
    | some p =>
      obtain ⟨e, s⟩ := p
      rw [ha] at h
      obtain ⟨n, hn⟩ := den_iff.1 ha
      cases e
      · obtain ⟨k, hk⟩ := den_iff.1 (show den E X fc base b s = some r from h)
        refine ⟨max n k + 1, ?_⟩
        simp only [ev]
        rw [ev_mono (Orc.le.refl _) (Nat.le_max_left n k) _ hn]
        exact ev_mono (Orc.le.refl _) (Nat.le_max_right n k) _ hk
      · exact ⟨n + 1, by simp only [ev]; rw [hn]; exact h⟩
      · exact ⟨n + 1, by simp only [ev]; rw [hn]; exact h⟩
  · cases n with
    | zero => simp [ev] at h
    | succ n =>
      simp only [ev] at h
      cases ha : ev E (orcω E X) fc base n a st with
      | none => rw [ha] at h; cases h
      | some p =>
        obtain ⟨e, s⟩ := p
        rw [ha] at h
        rw [den_iff.2 ⟨n, ha⟩]
        cases e
        · exact den_iff.2 ⟨n, h⟩
        · exact h
        · exact h

def onBool (v : V) (x y : Option (Ex × St)) : Option (Ex × St) := match v with
  | .bool true => x
  | .bool false => y
  | _ => none

@[simp] theorem onBool_true (x y : Option (Ex × St)) : onBool (.bool true) x y = x := rfl
@[simp] theorem onBool_false (x y : Option (Ex × St)) : onBool (.bool false) x y = y := rfl
theorem den_cond (c : Operand) (a b : Code) (st : St) : den E X fc base (.cond c a b) st = onBool (st.eval c) (den E X fc base a st) (den E X fc base b st) := by
  refine lim_ext (mono_den _ _ _ _) fun r => ⟨fun h => ?_, fun ⟨n, h⟩ => ?_⟩
  · unfold onBool at h
    split at h
    · rename_i hc
      obtain ⟨n, hn⟩ := den_iff.1 h
      exact ⟨n + 1, by simp only [ev]; rw [hc]; exact hn⟩
    · rename_i hc
      obtain ⟨n, hn⟩ := den_iff.1 h
      exact ⟨n + 1, by simp only [ev]; rw [hc]; exact hn⟩
    · cases h
  · cases n with
    | zero => simp [ev] at h
    | succ n =>
      simp only [ev] at h
      split at h
      · rename_i t ht
        rw [ht]
        cases t
        · exact den_iff.2 ⟨n, h⟩
        · exact den_iff.2 ⟨n, h⟩
      · cases h

theorem den_block (id : Nat) (b : Code) (st : St) : den E X fc base (.block id b) st = atBlock id (den E X fc base b st) := by
  refine lim_ext (mono_den _ _ _ _) fun r => ⟨fun h => ?_, fun ⟨n, h⟩ => ?_⟩
  · cases ha : den E X fc base b st with
    | none => rw [ha] at h; cases h
    | some p =>
      rw [ha] at h
      obtain ⟨n, hn⟩ := den_iff.1 ha
      exact ⟨n + 1, by simp only [ev]; rw [hn]; exact h⟩
  · cases n with
    | zero => simp [ev] at h
    | succ n =>
      simp only [ev] at h
      cases ha : ev E (orcω E X) fc base n b st with
      | none => rw [ha] at h; cases h
      | some p => rw [ha] at h; rw [den_iff.2 ⟨n, ha⟩]; exact h

theorem den_loop (b : Code) (st : St) : den E X fc base (.loop b) st = andThen (den E X fc base b (zC fc b st)) (den E X fc base (.loop b)) := by
  refine lim_ext (mono_den _ _ _ _) fun r => ⟨fun h => ?_, fun ⟨n, h⟩ => ?_⟩
  · cases ha : den E X fc base b (zC fc b st) with
    | none => rw [ha] at h; cases h
    | some p =>
      obtain ⟨e, s⟩ := p
      rw [ha] at h
      obtain ⟨n, hn⟩ := den_iff.1 ha
      cases e
      · obtain ⟨k, hk⟩ := den_iff.1 (show den E X fc base (.loop b) s = some r from h)
        refine ⟨max n k + 1, ?_⟩
        simp only [ev]
        rw [ev_mono (Orc.le.refl _) (Nat.le_max_left n k) _ hn]
        exact ev_mono (Orc.le.refl _) (Nat.le_max_right n k) _ hk
      · exact ⟨n + 1, by simp only [ev]; rw [hn]; exact h⟩
      · exact ⟨n + 1, by simp only [ev]; rw [hn]; exact h⟩
  · cases n with
    | zero => simp [ev] at h
    | succ n =>
      simp only [ev] at h
      cases ha : ev E (orcω E X) fc base n b (zC fc b st) with
      | none => rw [ha] at h; cases h
      | some p =>
        obtain ⟨e, s⟩ := p
        rw [ha] at h
        rw [den_iff.2 ⟨n, ha⟩]
        cases e
        · exact den_iff.2 ⟨n, h⟩
        · exact h
        · exact h

theorem den_range (g : Operand) (ps : Array Nat) (assign body : Code) (st : St) : den E X fc base (.rangeFunc g ps assign body) st = match xN E ps assign body (st.eval g) st with
    | some xss => popped (roundsIn (den E X fc base) ps.toList assign body xss { st with outer := st.slots :: st.outer })
    | none => none := by
  refine lim_ext (mono_den _ _ _ _) fun r => ⟨fun h => ?_, fun ⟨n, h⟩ => ?_⟩
  · split at h
    · rename_i xss hx
      cases hr : roundsIn (den E X fc base) ps.toList assign body xss { st with outer := st.slots :: st.outer } with
      | none => rw [hr] at h; cases h
      | some p =>
        obtain ⟨n, hn⟩ := roundsIn_fin (run := ev E (orcω E X) fc base) (fun _ _ c s r hle h => ev_mono (Orc.le.refl _) hle c h) (fun c s r h => den_iff.1 h) hr
        rw [hr] at h
        exact ⟨n + 1, by simp only [ev]; rw [hx]; dsimp only; rw [hn]; exact h⟩
    · cases h
  · cases n with
    | zero => simp [ev] at h
    | succ n =>
      simp only [ev] at h
      split at h
      · rename_i xss hx
        rw [hx]
        exact popped_mono (roundsIn_mono (fun c s r h => den_iff.2 ⟨n, h⟩)) h
      · cases h

def atEnd (E : Env) (fn : Func) (r : Option (Ex × St)) : Option (V × St) := match r with
  | some (.normal, s) | some (.ret, s) => match qD E fn s with
    | some v => some (v, s)
    | none => none
  | _ => none

def outOfCall (r : Option (V × St)) : Option V := match r with
  | some (v, s) => resolve s.objs depth v
  | none => none

theorem evFn_lim {n base f : Nat} {args : List V} {st : St} {fn : Func} {c : Code} (hf : E.fn f = some fn) (hc : fn.body = some c) :
    evFn E (orcω E X) n base f args st = atEnd E fn (ev E (orcω E X) (E.fc f) base n c { st with slots := args ++ List.replicate (fn.ntmps - args.length) .und }) := by
  unfold evFn atEnd
  simp only [hf, hc]
  cases ev E (orcω E X) (E.fc f) base n c { st with slots := args ++ List.replicate (fn.ntmps - args.length) .und } with
  | none => rfl
  | some p => obtain ⟨e, s⟩ := p; cases e <;> rfl

theorem evFn_fin {n base f : Nat} {args : List V} {st : St} {r : V × St} (h : evFn E (orcω E X) n base f args st = some r) : ∃ m, evFn E (orc E X m) m base f args st = some r := by
  cases hf : E.fn f with
  | none => simp [evFn, hf] at h
  | some fn =>
    cases hc : fn.body with
    | none => simp [evFn, hf, hc] at h
    | some c =>
      unfold evFn at h ⊢
      simp only [hf, hc] at h ⊢
      cases hx : ev E (orcω E X) (E.fc f) base n c { st with slots := args ++ List.replicate (fn.ntmps - args.length) .und } with
      | none => rw [hx] at h; cases h
      | some p =>
        obtain ⟨m, hm⟩ := ev_fin c hx
        rw [hx] at h
        exact ⟨m, by rw [hm]; exact h⟩

theorem call_of {g : Nat} {as : List V} {fn : Func} {c : Code} {r : V} (hX : X.call g as = none) (hf : E.fn g = some fn) (hc : fn.body = some c)
    (h : outOfCall (atEnd E fn (den E X (E.fc g) 0 c { slots := as ++ List.replicate (fn.ntmps - as.length) .und, outer := [], objs := [] })) = some r) : (orcω E X).call g as = some r := by
  cases hd : den E X (E.fc g) 0 c { slots := as ++ List.replicate (fn.ntmps - as.length) .und, outer := [], objs := [] } with
  | none => rw [hd] at h; cases h
  | some p =>
    obtain ⟨n, hn⟩ := den_iff.1 hd
    rw [hd] at h
    have h2 := evFn_lim (X := X) (n := n) (base := 0) (args := as) (st := { slots := [], outer := [], objs := [] }) hf hc
    rw [hn] at h2
    cases h3 : atEnd E fn (some p) with
    | none => rw [h3] at h; cases h
    | some q =>
      rw [h3] at h h2
      obtain ⟨m, hm⟩ := evFn_fin h2
      refine (lim_iff (mono_call E X g as)).2 ⟨m + 1, ?_⟩
      simp only [orc, hX, hm]
      exact h

theorem inl_of {b g : Nat} {as : List V} {st st' : St} {fn : Func} {c : Code} {r : V} (hX : X.inl b g as st = none) (hf : E.fn g = some fn) (hc : fn.body = some c)
    (h : atEnd E fn (den E X (E.fc g) b c { st with slots := as ++ List.replicate (fn.ntmps - as.length) .und }) = some (r, st')) : (orcω E X).inl b g as st = some (r, st') := by
  cases hd : den E X (E.fc g) b c { st with slots := as ++ List.replicate (fn.ntmps - as.length) .und } with
  | none => rw [hd] at h; cases h
  | some p =>
    obtain ⟨n, hn⟩ := den_iff.1 hd
    rw [hd] at h
    have h2 := evFn_lim (X := X) (n := n) (base := b) (args := as) (st := st) hf hc
    rw [hn, h] at h2
    obtain ⟨m, hm⟩ := evFn_fin h2
    refine (lim_iff (mono_inl E X b g as st)).2 ⟨m + 1, ?_⟩
    simp only [orc, hX, hm]

end
end Go.AM
end

section
/-
An environment out of tables, and that it says what the program says.
-/
namespace Go.AM
open Go

def sameLit : Value → Value → Bool
  | .nilFunc, .nilFunc => true
  | .nilIface, .nilIface => true
  | .pointer none, .pointer none => true
  | .map none, .map none => true
  | .string a, .string b => a.data.size == 0 && b.data.size == 0
  | _, _ => false

theorem sameLit_eq {a b : Value} (h : sameLit a b = true) : a = b := by
  unfold sameLit at h
  split at h <;> first
    | rfl
    | cases h
    | (rename_i a b
       obtain ⟨x⟩ := a
       obtain ⟨y⟩ := b
       simp only [Bool.and_eq_true, beq_iff_eq, Array.size_eq_zero_iff] at h
       obtain ⟨rfl, rfl⟩ := h
       rfl)

mutual
def sameV : V → V → Bool
  | .int k n, .int k' n' => k == k' && n == n'
  | .bool b, .bool b' => b == b'
  | .emp, .emp => true
  | .lit a, .lit b => sameLit a b
  | .agg cs, .agg ds => sameVL cs ds
  | _, _ => false
def sameVL : List V → List V → Bool
  | [], [] => true
  | v :: r, u :: s => sameV v u && sameVL r s
  | _, _ => false
end

mutual
theorem sameV_eq : ∀ {a b : V}, sameV a b = true → a = b
  | .int .., b, h => by cases b <;> simp_all [sameV]
  | .bool _, b, h => by cases b <;> simp_all [sameV]
  | .emp, b, h => by cases b <;> simp_all [sameV]
  | .lit a, b, h => by
    cases b <;> simp [sameV] at h
    rw [sameLit_eq h]
  | .agg cs, b, h => by
    cases b <;> simp [sameV] at h
    rw [sameVL_eq h]
  | .und, b, h => by cases b <;> simp [sameV] at h
  | .tup _, b, h => by cases b <;> simp [sameV] at h
  | .sl .., b, h => by cases b <;> simp [sameV] at h
  | .full .., b, h => by cases b <;> simp [sameV] at h
  | .fp .., b, h => by cases b <;> simp [sameV] at h
  | .own .., b, h => by cases b <;> simp [sameV] at h
  | .pre .., b, h => by cases b <;> simp [sameV] at h
  | .ptr .., b, h => by cases b <;> simp [sameV] at h
  | .mapr _, b, h => by cases b <;> simp [sameV] at h
  | .clo .., b, h => by cases b <;> simp [sameV] at h
  | .junk, b, h => by cases b <;> simp [sameV] at h
theorem sameVL_eq : ∀ {a b : List V}, sameVL a b = true → a = b
  | [], [], _ => rfl
  | [], _ :: _, h => by simp [sameVL] at h
  | _ :: _, [], h => by simp [sameVL] at h
  | v :: r, u :: s, h => by
    simp only [sameVL, Bool.and_eq_true] at h
    rw [sameV_eq h.1, sameVL_eq h.2]
end

def tyChk (P : Program) (t : Nat) (ti : TI) : Bool := match P.underlying t, P.info? t with
  | some d, some i => tyIs ti.ty d && i.size == ti.size && i.bytes == ti.bytes && (match i.zero with
    | some z => sameV ti.zero (zeroV z) && z.cells.size == ti.size && z.cells.toList.all (fun u => u.oneCell')
    | none => false) && (!ti.eq || (!P.stoodInHeld t && !P.eqGuardType P.depth t && match d with
    | .struct gs => gs.toList.all (fun g => g.name != "_")
    | _ => true))
  | _, _ => false

theorem tyChk_ok {P : Program} {t : Nat} {ti : TI} (h : tyChk P t ti = true) : ∃ d i z, P.underlying t = some d ∧ tyIs ti.ty d = true ∧ P.info? t = some i ∧ i.size = ti.size ∧ i.bytes = ti.bytes ∧
    i.zero = some z ∧ ti.zero = zeroV z ∧ z.cells.size = ti.size ∧ (∀ u ∈ z.cells.toList, u.oneCell' = true) ∧
    (ti.eq = true → P.stoodInHeld t = false ∧ P.eqGuardType P.depth t = false ∧ match d with | .struct gs => gs.toList.all (fun g => g.name != "_") = true | _ => True) := by
  unfold tyChk at h
  split at h
  case h_2 => cases h
  rename_i d i hd hi
  simp only [Bool.and_eq_true] at h
  obtain ⟨⟨⟨⟨h1, h2⟩, h3⟩, h4⟩, h5⟩ := h
  split at h4
  case h_2 => cases h4
  rename_i z hz
  simp only [Bool.and_eq_true] at h4
  obtain ⟨⟨h6, h7⟩, h8⟩ := h4
  refine ⟨d, i, z, hd, h1, hi, by simpa using h2, by simpa using h3, hz, sameV_eq h6, by simpa using h7, fun u hu => by rw [List.all_eq_true] at h8; exact h8 u hu, fun he => ?_⟩
  rw [he] at h5
  simp only [Bool.not_true, Bool.false_or, Bool.and_eq_true, Bool.not_eq_true'] at h5
  refine ⟨h5.1.1, h5.1.2, ?_⟩
  have h9 := h5.2
  split <;> simp_all

theorem look_mem {α : Type} : ∀ {l : List (Nat × α)} {i : Nat} {x : α}, look l i = some x → (i, x) ∈ l
  | [], _, _, h => by simp [look] at h
  | (j, y) :: r, i, x, h => by
    simp only [look] at h
    split at h
    · rename_i hj; cases h; subst hj; exact List.mem_cons_self
    · exact List.mem_cons_of_mem _ (look_mem h)

def mkEnv (P : Program) (tys : List (Nat × TI)) (fcs : List (Nat × FC)) (inls : List Nat) (seq : Nat → List V → Option (Nat × List (List V)) := fun _ _ => none) : Env where
  seq := seq
  ty := look tys
  fn := fun f => P.funcs[f]?
  fc := fun f => (look fcs f).getD {}
  inl := fun f => inls.contains f

theorem mkEnv_ok {P : Program} {tys : List (Nat × TI)} {fcs : List (Nat × FC)} {inls : List Nat} {seq : Nat → List V → Option (Nat × List (List V))} (hseq : ∀ f as k xss, seq f as = some (k, xss) → SeqOk P f k as xss) (h : tys.all (fun p => tyChk P p.1 p.2) = true)
    (h2 : P.funcs.all (fun fn => !(fn.name == "runtime.NumGoroutine")) = true) : EnvOk P (mkEnv P tys fcs inls seq) := by
  refine ⟨fun t ti ht => ?_, fun f fn hf => ?_, hseq⟩
  · rw [List.all_eq_true] at h
    exact tyChk_ok (h _ (look_mem ht))
  · refine ⟨hf, ?_⟩
    rw [Array.all_eq_true_iff_forall_mem] at h2
    have := h2 fn (Array.mem_of_getElem? hf)
    simpa using this
end Go.AM
end

section
/-
Loops in the limit.
-/
namespace Go.AM
open Go

def after (fc : FC) (b : Code) (r : Option (Ex × St)) (K : St → Prop) (D : Ex × St → Prop) : Prop := match r with
  | some (.normal, s) => K (zC fc b s)
  | some (.exit i, s) => D (.exit i, s)
  | some (.ret, s) => D (.ret, s)
  | none => False

section
variable {E : Env} {X : Ext} {fc : FC} {base : Nat} {b : Code} {st : St}

@[simp] theorem after_normal (s : St) (K : St → Prop) (D : Ex × St → Prop) : after fc b (some (.normal, s)) K D = K (zC fc b s) := rfl
@[simp] theorem after_exit (i : Nat) (s : St) (K : St → Prop) (D : Ex × St → Prop) : after fc b (some (.exit i, s)) K D = D (.exit i, s) := rfl
@[simp] theorem after_ret (s : St) (K : St → Prop) (D : Ex × St → Prop) : after fc b (some (.ret, s)) K D = D (.ret, s) := rfl

end
end Go.AM
end

section
/-
Equations for the simplifier.
-/
namespace Go.AM
open Go

theorem atEnd_normal (E : Env) (fn : Func) (s : St) : atEnd E fn (some (.normal, s)) = match qD E fn s with | some v => some (v, s) | none => none := rfl
theorem atEnd_ret (E : Env) (fn : Func) (s : St) : atEnd E fn (some (.ret, s)) = match qD E fn s with | some v => some (v, s) | none => none := rfl
theorem outOfCall_some (v : V) (s : St) : outOfCall (some (v, s)) = resolve s.objs depth v := rfl
theorem resolve_int (objs : List (Nat × Ob)) (n : Nat) (k : IntKind) (m : Int) : resolve objs (n + 1) (.int k m) = some (.int k m) := rfl
theorem resolve_bool (objs : List (Nat × Ob)) (n : Nat) (b : Bool) : resolve objs (n + 1) (.bool b) = some (.bool b) := rfl
theorem resolve_lit (objs : List (Nat × Ob)) (n : Nat) (v : Value) : resolve objs (n + 1) (.lit v) = some (.lit v) := rfl
theorem resolve_sl (objs : List (Nat × Ob)) (n : Nat) (t : Bool) (vs : List V) : resolve objs (n + 1) (.sl t vs) = some (.sl t vs) := rfl
theorem resolve_fp (objs : List (Nat × Ob)) (n : Nat) (t : Bool) (cs : List V) (o : Nat) : resolve objs (n + 1) (.fp t cs o) = some (.fp t cs o) := rfl
theorem resolve_emp (objs : List (Nat × Ob)) (n : Nat) : resolve objs (n + 1) .emp = some (.sl true []) := rfl
theorem resolve_agg (objs : List (Nat × Ob)) (n : Nat) (cs : List V) : resolve objs (n + 1) (.agg cs) = (allM (resolve objs n) cs).map .agg := rfl
theorem resolve_tup (objs : List (Nat × Ob)) (n : Nat) (cs : List V) : resolve objs (n + 1) (.tup cs) = (allM (resolve objs n) cs).map .tup := rfl
theorem resolve_clo (objs : List (Nat × Ob)) (n f : Nat) (a b : List V) : resolve objs (n + 1) (.clo f a b) = match allM (resolve objs n) a, allM (resolve objs n) b with
      | some a', some b' => some (.clo f a' b')
      | _, _ => none := rfl
theorem resolve_own (objs : List (Nat × Ob)) (n id off len : Nat) : resolve objs (n + 1) (.own id off len) = match look objs id with
      | some o =>
        if off + len ≤ o.elems.length then
          if o.flat then some (.sl o.t ((o.elems.drop off).take len))
          else match allM (resolve objs n) (xU o.t ((o.elems.drop off).take len)) with
            | some es => some (.sl (xT es) es)
            | none => none
        else none
      | none => none := rfl

theorem resolve_pre (objs : List (Nat × Ob)) (n id off len room : Nat) : resolve objs (n + 1) (.pre id off len room) = match look objs id with
      | some o =>
        if off + len ≤ o.elems.length then
          if o.flat then some (.sl o.t ((o.elems.drop off).take len))
          else match allM (resolve objs n) (xU o.t ((o.elems.drop off).take len)) with
            | some es => some (.sl (xT es) es)
            | none => none
        else none
      | none => none := rfl
theorem resolve_ptr (objs : List (Nat × Ob)) (n id i c : Nat) : resolve objs (n + 1) (.ptr id i c) = match look objs id with
      | some o => match o.elems[i]? with
        | some e => match cells? e with
          | some cs => if o.flat then some (.fp o.t cs c)
            else match allM (resolve objs n) (xU o.t cs) with
              | some es => some (.fp (xT es) es c)
              | none => none
          | none => none
        | none => none
      | none => none := rfl

theorem allM_nil {α β : Type} (f : α → Option β) : allM f [] = some [] := rfl
theorem allM_cons {α β : Type} (f : α → Option β) (x : α) (r : List α) : allM f (x :: r) = match f x with
    | some b => match allM f r with
      | some bs => some (b :: bs)
      | none => none
    | none => none := rfl
theorem beqT (b : Bool) : (b == true) = b := by cases b <;> rfl
theorem beqF (b : Bool) : (b == false) = !b := by cases b <;> rfl

theorem wrap_in {n : Int} (h : -9223372036854775808 ≤ n ∧ n ≤ 9223372036854775807) : IntKind.i64.wrap n = n := IntWalk.i64_in n h
theorem ite_min (a b : Int) : (if b < a then b else a) = min a b := by omega
theorem ite_max (a b : Int) : (if a < b then b else a) = max a b := by omega
theorem tidy_mk (l : List V) (o : List (List V)) (b : List (Nat × Ob)) : tidy { slots := l, outer := o, objs := b } = norm [] { slots := [], outer := o, objs := b } := rfl
theorem ask_true : ask true = some true := rfl
theorem ask_false : ask false = some false := rfl
theorem take_map_length {α β : Type} (f : α → β) (l : List α) : (l.map f).take l.length = l.map f := List.take_of_length_le (by simp)

section
variable (E : Env) (O : Orc) (X : Ext) (fc : FC) (base : Nat)

def condB (w : Option Bool) (f g : St → Option (Ex × St)) (st : St) : Option (Ex × St) := match w with
  | some true => f st
  | some false => g st
  | none => none

noncomputable def condG (a b : Code) (st : St) (v : V) : Option (Ex × St) := match v with
  | .bool t => condB (ask t) (den E X fc base a) (den E X fc base b) st
  | _ => none

noncomputable def loopAt (b : Code) (st : St) : Option (Ex × St) := andThen (den E X fc base b st) (den E X fc base (.loop b))
end

section
variable {E : Env} {O : Orc} {X : Ext} {fc : FC} {base : Nat} {st : St}

theorem condB_true (f g : St → Option (Ex × St)) : condB (some true) f g st = f st := rfl
theorem condB_false (f g : St → Option (Ex × St)) : condB (some false) f g st = g st := rfl
theorem condG_bool (a b : Code) (t : Bool) : condG E X fc base a b st (.bool t) = condB (ask t) (den E X fc base a) (den E X fc base b) st := rfl
theorem den_condG (c : Operand) (a b : Code) : den E X fc base (.cond c a b) st = condG E X fc base a b st (st.eval c) := by
  rw [den_cond]
  unfold onBool condG
  split
  · rename_i h; rw [h]; rfl
  · rename_i h; rw [h]; rfl
  · rename_i h1 h2
    split
    · rename_i t h
      cases t
      · exact absurd h h2
      · exact absurd h h1
    · rfl
theorem den_loopAt (b : Code) : den E X fc base (.loop b) st = loopAt E X fc base b (zC fc b st) := den_loop b st
theorem pickV_true (x y : V) : pickV (some true) x y = some x := rfl
theorem pickV_false (x y : V) : pickV (some false) x y = some y := rfl
end

section
variable (E : Env) (O : Orc) (fc : FC) (base : Nat)

def callG (dst : Option Nat) (as_ : List V) (st : St) (r : Option V) : Option St := match r with
  | some r =>
    if refFree r then
      match dst.bind (look fc.thaw) with
      | some (k, es) => match dst with
        | some d => if isNew r then xE fc base d k es r (if isNew r then st else st.dropL (reach st.objs depth (idsL as_))) else none
        | none => none
      | none => some ((if isNew r then st else st.dropL (reach st.objs depth (idsL as_))).put dst r)
    else none
  | none => none

def lendG (g : Nat) (dst : Option Nat) (as_ : List V) (st : St) (l : Option (List V)) : Option St := match l with
  | some as' => callG fc base dst as_ st (O.call g as')
  | none => none

def inlG (dst : Option Nat) (r : Option (V × St)) : Option St := match r with
  | some (r, s) => match s.outer with
    | sl :: out => some (St.put { s with slots := sl, outer := out } dst r)
    | [] => none
  | none => none

def freshG (dst : Option Nat) (g : Nat) (as_ : List V) (st : St) : Bool → Option St
  | true => evFresh O fc base dst g as_ st
  | false => qZ O dst g as_ st

def frameG (dst : Option Nat) (g : Nat) (as_ : List V) (st : St) : Bool → Option St
  | true => freshG O fc base dst g as_ st (E.fc g).fresh
  | false => inlG dst (O.inl (base + 1000) g as_ { st with slots := [], outer := st.slots :: st.outer })

theorem evCall_clo (dst : Option Nat) (g : Nat) (first cap args : List V) (st : St) : evCall E O fc base dst (.clo g first cap) args st =
    if E.inl g then frameG E O fc base dst g (first ++ args ++ cap) st (E.fc g).frame
    else lendG O fc base g dst (first ++ args ++ cap) st (qP st (first ++ args ++ cap)) := by
  unfold evCall
  dsimp only
  split
  · cases hf : (E.fc g).frame with
    | false => rfl
    | true =>
      simp only [frameG, if_true]
      cases (E.fc g).fresh <;> rfl
  · unfold lendG callG
    split
    · rename_i h
      rw [h]
      dsimp only
      split
      · rename_i h2
        rw [h2]
        dsimp only
        split <;> rfl
      · rename_i h2; rw [h2]
    · rename_i h; rw [h]
end

section
variable {E : Env} {O : Orc} {fc : FC} {base : Nat}
theorem lendG_some (g : Nat) (dst : Option Nat) (as_ as' : List V) (st : St) : lendG O fc base g dst as_ st (some as') = callG fc base dst as_ st (O.call g as') := rfl
theorem callG_some (dst : Option Nat) (as_ : List V) (st : St) (r : V) : callG fc base dst as_ st (some r) =
    if refFree r then
      match dst.bind (look fc.thaw) with
      | some (k, es) => match dst with
        | some d => if isNew r then xE fc base d k es r (if isNew r then st else st.dropL (reach st.objs depth (idsL as_))) else none
        | none => none
      | none => some ((if isNew r then st else st.dropL (reach st.objs depth (idsL as_))).put dst r)
    else none := rfl
theorem frameG_no (dst : Option Nat) (g : Nat) (as_ : List V) (st : St) : frameG E O fc base dst g as_ st false = inlG dst (O.inl (base + 1000) g as_ { st with slots := [], outer := st.slots :: st.outer }) := rfl
theorem frameG_yes (dst : Option Nat) (g : Nat) (as_ : List V) (st : St) : frameG E O fc base dst g as_ st true = freshG O fc base dst g as_ st (E.fc g).fresh := rfl
theorem freshG_no (dst : Option Nat) (g : Nat) (as_ : List V) (st : St) : freshG O fc base dst g as_ st false = qZ O dst g as_ st := rfl
theorem freshG_yes (dst : Option Nat) (g : Nat) (as_ : List V) (st : St) : freshG O fc base dst g as_ st true = evFresh O fc base dst g as_ st := rfl
theorem inlG_some (dst : Option Nat) (r : V) (s : St) : inlG dst (some (r, s)) = match s.outer with
    | sl :: out => some (St.put { s with slots := sl, outer := out } dst r)
    | [] => none := rfl
end

def afterA (x : Option (Ex × St)) (k : St → Prop) : Prop := match x with
  | some (.normal, s) => k s
  | _ => False
def afterR (x : Option (Ex × St)) (N : St → Prop) (K : Option (Ex × St) → Prop) : Prop := match x with
  | some (.normal, s) => N s
  | some (.exit i, s) => K (popped (some (.exit i, s)))
  | some (.ret, s) => K (popped (some (.ret, s)))
  | none => False

theorem afterA_normal (s : St) (k : St → Prop) : afterA (some (.normal, s)) k = k s := rfl
theorem afterR_normal (s : St) (N : St → Prop) (K : Option (Ex × St) → Prop) : afterR (some (.normal, s)) N K = N s := rfl
theorem afterR_exit (i : Nat) (s : St) (N : St → Prop) (K : Option (Ex × St) → Prop) : afterR (some (.exit i, s)) N K = K (popped (some (.exit i, s))) := rfl
theorem afterR_ret (s : St) (N : St → Prop) (K : Option (Ex × St) → Prop) : afterR (some (.ret, s)) N K = K (popped (some (.ret, s))) := rfl
theorem popped_some (e : Ex) (l s0 : List V) (out : List (List V)) (objs : List (Nat × Ob)) : popped (some (e, { slots := l, outer := s0 :: out, objs := objs })) = some (e, { slots := s0, outer := out, objs := objs }) := rfl

section
variable (id d : Nat) (ei : TI)
def appG2 (s : St) (t1 : Bool) (ns : List V) (r : Option (Option Nat × Bool × List V)) : Option St := match r with
  | some (i, t, old) =>
    if roomy (old.length + ns.length) ei.bytes = true ∧ old.length + ns.length ≤ 4294967296 ∧ sized ei.size ns = true ∧ 0 < ei.size then
      some (((dropO s i).alloc id { es := ei.size, flat := true, t := t && t1, app := true, elems := old ++ ns }).put (some d) (.own id 0 (old.length + ns.length)))
    else none
  | none => none
def appGF (s : St) (t1 : Bool) (ns : List V) (x : V) (r : Option V) : Option St := match r with
  | some v => some (s.put (some d) v)
  | none => appG2 id d ei s t1 ns (onto ei x s)
def appG1 (x : V) (r : Option (St × Bool × List V)) : Option St := match r with
  | some (s, t1, ns) => appGF id d ei s t1 ns x (qH x ns)
  | none => none
def appG0 (x : V) (st : St) (r : Option (Bool × Bool × List V)) : Option St := match r with
  | some (fl, t', ys) => appG1 id d ei x (zI st fl t' ys)
  | none => none
theorem evApp_emp (y : V) (st : St) : evApp id d ei .emp y st = evAppend id d ei .emp y st := rfl
theorem evApp_own (i o l : Nat) (y : V) (st : St) : evApp id d ei (.own i o l) y st = evAppend id d ei (.own i o l) y st := rfl
theorem evApp_full (t : Bool) (vs : List V) (y : V) (st : St) : evApp id d ei (.full t vs) y st = evAppend id d ei (.full t vs) y st := rfl
theorem evApp_pre (i o l r : Nat) (y : V) (st : St) : evApp id d ei (.pre i o l r) y st = evPre d ei i o l r y st := rfl
theorem evSlice_emp (lo hi : Option (Option Int)) (mx : Option V) (st : St) : qU ei .emp lo hi mx st = evSlice0 ei .emp lo hi mx st := rfl
theorem evSlice_sl (t : Bool) (vs : List V) (lo hi : Option (Option Int)) (mx : Option V) (st : St) : qU ei (.sl t vs) lo hi mx st = evSlice0 ei (.sl t vs) lo hi mx st := rfl
theorem evSlice_full (t : Bool) (vs : List V) (lo hi : Option (Option Int)) (mx : Option V) (st : St) : qU ei (.full t vs) lo hi mx st = evSlice0 ei (.full t vs) lo hi mx st := rfl
theorem evSlice_own (i o l : Nat) (lo hi : Option (Option Int)) (mx : Option V) (st : St) : qU ei (.own i o l) lo hi mx st = evSlice0 ei (.own i o l) lo hi mx st := rfl
theorem evSlice_pre (i o l r : Nat) (lo hi : Option (Option Int)) (mx : Option V) (st : St) : qU ei (.pre i o l r) lo hi mx st = xK ei i o l r lo hi mx st := rfl
theorem preV_no (x : V) (r : Option V) : preV x r false = r := rfl
theorem preV_yes (i o l i' o' l' : Nat) : preV (.own i o l) (some (.own i' o' l')) true = if o' < o + l ∧ o' + l' ≤ o + l then some (.pre i' o' l' (o + l - o')) else none := rfl
theorem evAppend_eq (x y : V) (st : St) : evAppend id d ei x y st = appG0 id d ei x st (upO x (xB st.objs y)) := by
  unfold evAppend appG0 appG1 appGF appG2
  rfl
theorem appG0_some (x : V) (st : St) (fl t' : Bool) (ys : List V) : appG0 id d ei x st (some (fl, t', ys)) = appG1 id d ei x (zI st fl t' ys) := rfl
theorem appG1_some (x : V) (s : St) (t1 : Bool) (ns : List V) : appG1 id d ei x (some (s, t1, ns)) = appGF id d ei s t1 ns x (qH x ns) := rfl
theorem appGF_some (x : V) (s : St) (t1 : Bool) (ns : List V) (v : V) : appGF id d ei s t1 ns x (some v) = some (s.put (some d) v) := rfl
theorem appGF_none (x : V) (s : St) (t1 : Bool) (ns : List V) : appGF id d ei s t1 ns x none = appG2 id d ei s t1 ns (onto ei x s) := rfl
theorem fullEnd_emp (ns : List V) : qH .emp ns = none := rfl
theorem fullEnd_own (i o l : Nat) (ns : List V) : qH (.own i o l) ns = none := rfl
theorem fullEnd_nil (t : Bool) (vs : List V) : qH (.full t vs) [] = some (.sl t vs) := rfl
theorem fullEnd_cons (t : Bool) (vs : List V) (n : V) (ns : List V) : qH (.full t vs) (n :: ns) = none := rfl
theorem appG2_some (s : St) (t1 : Bool) (ns : List V) (i : Option Nat) (t : Bool) (old : List V) : appG2 id d ei s t1 ns (some (i, t, old)) =
    if roomy (old.length + ns.length) ei.bytes = true ∧ old.length + ns.length ≤ 4294967296 ∧ sized ei.size ns = true ∧ 0 < ei.size then
      some (((dropO s i).alloc id { es := ei.size, flat := true, t := t && t1, app := true, elems := old ++ ns }).put (some d) (.own id 0 (old.length + ns.length)))
    else none := rfl
end

def xL : List V → List (Nat × V) → List V
  | l, [] => l
  | l, (i, v) :: r => xL (l.set i v) r

def xM : List (Nat × Ob) → List (Nat × Ob) → List (Nat × Ob)
  | l, [] => l
  | l, (i, o) :: r => xM (upd l i o) r

def St.with (s : St) (vs : List (Nat × V)) (os : List (Nat × Ob)) : St := { slots := xL s.slots vs, outer := s.outer, objs := xM s.objs os }

section
variable {E : Env} {X : Ext} {fc : FC} {base : Nat} {b : Code}

theorem loop_inv {ι : Type} {K : Option (Ex × St) → Prop} {s0 : St} (vs : ι → List (Nat × V)) (os : ι → List (Nat × Ob)) (m : ι → Nat) (i0 : ι) (h0 : s0 = s0.with (vs i0) (os i0))
    (h : ∀ i, after fc b (den E X fc base b (s0.with (vs i) (os i))) (fun s => ∃ i', s = s0.with (vs i') (os i') ∧ m i' < m i) (fun q => K (some q))) : ∀ r, loopAt E X fc base b s0 = r → K r := by
  rintro r rfl
  have key : ∀ (n : Nat) (i : ι), m i < n → K (loopAt E X fc base b (s0.with (vs i) (os i))) := by
    intro n
    induction n with
    | zero => intro i hm; omega
    | succ n ih =>
      intro i hm
      have ha := h i
      unfold loopAt
      cases hd : den E X fc base b (s0.with (vs i) (os i)) with
      | none => rw [hd] at ha; exact ha.elim
      | some p =>
        obtain ⟨e, s⟩ := p
        rw [hd] at ha
        cases e with
        | normal =>
          obtain ⟨i', h1, h3⟩ := ha
          rw [andThen_normal, den_loopAt, h1]
          exact ih i' (by omega)
        | exit i => exact ha
        | ret => exact ha
  have := key (m i0 + 1) i0 (Nat.lt_succ_self _)
  rwa [← h0] at this

theorem loop_list {γ σ : Type} {K : Option (Ex × St) → Prop} {s0 : St} (xs : List γ) (vs : List γ → σ → List (Nat × V)) (os : List γ → σ → List (Nat × Ob)) (I : List γ → σ → Prop) (c0 : σ)
    (hn : xs.length ≤ 1000000000000) (h0 : s0 = s0.with (vs [] c0) (os [] c0)) (hI : I [] c0)
    (hend : ∀ c, I xs c → after fc b (den E X fc base b (s0.with (vs xs c) (os xs c))) (fun _ => False) (fun q => K (some q)))
    (hstep : ∀ pre x post c, xs = pre ++ x :: post → I pre c → (pre.length : Int) < xs.length → pre.length < xs.length → xs[pre.length]? = some x → IntKind.i64.wrap ((pre.length : Int) + 1) = ((pre ++ [x]).length : Int) →
      after fc b (den E X fc base b (s0.with (vs pre c) (os pre c))) (fun s => ∃ c', s = s0.with (vs (pre ++ [x]) c') (os (pre ++ [x]) c') ∧ I (pre ++ [x]) c') (fun q => K (some q))) : ∀ r, loopAt E X fc base b s0 = r → K r := by
  refine loop_inv (ι := { p : (List γ × List γ) × σ // xs = p.1.1 ++ p.1.2 ∧ I p.1.1 p.2 }) (fun i => vs i.1.1.1 i.1.2) (fun i => os i.1.1.1 i.1.2) (fun i => i.1.1.2.length) ⟨(([], xs), c0), rfl, hI⟩ h0 ?_
  rintro ⟨⟨⟨pre, post⟩, c⟩, hp, hi⟩
  dsimp only at hp hi ⊢
  cases post with
  | nil =>
    obtain rfl : xs = pre := by simpa using hp
    have := hend c hi
    revert this
    cases den E X fc base b (s0.with (vs xs c) (os xs c)) with
    | none => exact fun h => h
    | some p =>
      obtain ⟨e, s⟩ := p
      cases e with
      | normal => exact fun h => h.elim
      | exit i => exact fun h => h
      | ret => exact fun h => h
  | cons x post =>
    have hlt : pre.length < xs.length := by subst hp; simp
    have := hstep pre x post c hp hi (by omega) hlt (by subst hp; simp) (by rw [Go.IntWalk.i64_in _ (by omega)]; simp)
    revert this
    cases den E X fc base b (s0.with (vs pre c) (os pre c)) with
    | none => exact fun h => h
    | some p =>
      obtain ⟨e, s⟩ := p
      cases e with
      | normal =>
        rintro ⟨c', h1, h2⟩
        exact ⟨⟨((pre ++ [x], post), c'), by simpa using hp, h2⟩, h1, Nat.lt_succ_self _⟩
      | exit i => exact fun h => h
      | ret => exact fun h => h
end

theorem refFreeL_map {α : Type} {f : α → V} (h : ∀ x, refFree (f x) = true) : ∀ l : List α, xS (l.map f) = true
  | [] => rfl
  | x :: l => by simp only [List.map_cons, xS, h, refFreeL_map h l, Bool.and_self]
theorem isNewL_map {α : Type} {f : α → V} (h : ∀ x, isNew (f x) = true) : ∀ l : List α, xT (l.map f) = true
  | [] => rfl
  | x :: l => by simp only [List.map_cons, xT, h, isNewL_map h l, Bool.and_self]
theorem plainL_map {α : Type} {f : α → V} (h : ∀ x, plain (f x) = true) : ∀ l : List α, plainL (l.map f) = true
  | [] => rfl
  | x :: l => by simp only [List.map_cons, plainL, h, plainL_map h l, Bool.and_self]
theorem sized_map {α : Type} {f : α → V} {n : Nat} (h : ∀ x, ∃ cs, cells? (f x) = some cs ∧ cs.length = n) : ∀ l : List α, sized n (l.map f) = true
  | [] => rfl
  | x :: l => by
    obtain ⟨cs, h1, h2⟩ := h x
    simp only [List.map_cons, sized, h1, h2, sized_map h l, beq_self_eq_true, Bool.and_self]

def vI (n : Int) : V := .int .i64 n
theorem refFree_vI (l : List Int) : xS (l.map vI) = true := refFreeL_map (fun _ => rfl) l
theorem isNew_vI (l : List Int) : xT (l.map vI) = true := isNewL_map (fun _ => rfl) l
theorem plain_vI (l : List Int) : plainL (l.map vI) = true := plainL_map (fun _ => rfl) l
theorem sized_vI (l : List Int) : sized 1 (l.map vI) = true := sized_map (fun n => ⟨[.int .i64 n], rfl, rfl⟩) l
end Go.AM
end

section
/-
Regions that draw their order, where the code alone shows that no two open operations disturb each other.
-/
namespace Go.AM
open Go

def wrOp (o : Oper) : Bool := match o.op with
  | .alloc _ => true
  | .box _ _ => true
  | .buildSlice _ _ _ => true
  | .store _ _ _ => true
  | .mapUpdate _ _ _ _ => true
  | .makeSlice _ _ _ => true
  | .call c => match c.callee with
    | .builtin .append => true
    | _ => false
  | _ => false

def quiet (o : Oper) : Bool := match o.op with
  | .load _ _ => false
  | .indexAddr _ _ _ => false
  | .slice _ _ _ _ _ => false
  | .store _ _ _ => false
  | .lookup _ _ _ _ => false
  | .mapUpdate _ _ _ _ => false
  | .alloc _ => false
  | .box _ _ => false
  | .buildSlice _ _ _ => false
  | .makeSlice _ _ _ => false
  | .call c => match c.callee with
    | .builtin .append => false
    | .builtin _ => true
    | _ => false
  | _ => true

def staticPair (ops : Array Oper) (cl : List (List Nat)) (i j : Nat) : Bool := (cl.getD i []).contains j || match ops[j]?, ops[i]? with
  | some y, some x => y.apart ops x && ((!wrOp y && !wrOp x) || quiet y || quiet x)
  | _, _ => false

def staticOk (ops : Array Oper) : Bool :=
  let cl := clo ops ops.size
  (List.range ops.size).all fun i => (deps ops i).all (fun d => decide (d < i)) && (List.range i).all (staticPair ops cl i)

def okCode : Code → Bool
  | .region _ ops true => staticOk ops
  | .seq a b => okCode a && okCode b
  | .cond _ a b => okCode a && okCode b
  | .block _ b => okCode b
  | .loop b => okCode b
  | .scope b => okCode b
  | .rangeFunc _ _ a b => okCode a && okCode b
  | _ => true

section
variable {E : Env} {X : Ext} {O : Orc} {fc : FC} {base : Nat}

def evE (E : Env) (O : Orc) (fc : FC) (base : Nat) (all : Array Oper) : List Oper → St → Option St
  | [], st => some st
  | o :: r, st => match wantedV all o st with
    | some true => match qJ E O fc base o st with
      | some e => evE E O fc base all r (e.ap o.dst st)
      | none => none
    | some false => evE E O fc base all r (st.put o.dst .und)
    | none => none

theorem quiet_still {o : Oper} (h : quiet o = true) : wrOp o = false := by
  unfold quiet at h
  unfold wrOp
  cases ho : o.op <;> simp only [ho] at h ⊢ <;> try (cases h; done)
  rename_i c
  cases hc : c.callee <;> simp only [hc] at h ⊢
  rename_i b
  cases b <;> simp_all

theorem supp_quiet {o : Oper} {st : St} (h : quiet o = true) : supp fc base o st = [] := by
  unfold quiet at h
  unfold supp
  cases ho : o.op <;> simp only [ho] at h ⊢ <;> try (cases h; done)
  rename_i c
  cases hc : c.callee <;> simp only [hc] at h ⊢ <;> try (cases h; done)
  rename_i b
  cases b <;> simp_all

theorem eff_still {o : Oper} {st : St} {e : Eff} (hw : wrOp o = false) (h : qJ E O fc base o st = some e) : e.writes = [] := by
  unfold qJ at h
  split at h
  · cases h; rfl
  · unfold qK at h
    unfold wrOp at hw
    split at h
    · rename_i ho; rw [ho] at hw; cases hw
    · rename_i ho; rw [ho] at hw; cases hw
    · rename_i ho; rw [ho] at hw; cases hw
    · rename_i ho; rw [ho] at hw; cases hw
    · rename_i ho; rw [ho] at hw; cases hw
    · rename_i ho; rw [ho] at hw; cases hw
    · rename_i c ho
      rw [ho] at hw
      dsimp only at hw
      split at h
      · rename_i hc; rw [hc] at hw; cases hw
      · unfold zX at h
        split at h
        case h_2 => cases h
        split at h
        case isFalse => cases h
        split at h
        case h_2 => cases h
        split at h
        case h_2 => cases h
        split at h
        case isFalse => cases h
        cases h
        rfl
      · cases h
    · cases h

theorem free_nil_left (l : List Nat) : free [] l = true := rfl
def Rows (all : Array Oper) (rs : List Rec) : Prop := ∀ j (x : Rec), rs[j]? = some x → x.i = j ∧ all[j]? = some x.o ∧ (wrOp x.o = false → x.eff.writes = []) ∧ (quiet x.o = true → x.supp = [])

theorem calm_stat {all : Array Oper} {x y : Rec} {o : Oper} (hxo : x.o = o) (hp : (y.o.apart all o && ((!wrOp y.o && !wrOp o) || quiet y.o || quiet o)) = true) (hw : wrOp o = false → x.eff.writes = []) (hqu : quiet o = true → x.supp = [])
    (k3 : wrOp y.o = false → y.eff.writes = []) (k4 : quiet y.o = true → y.supp = []) : calm all y x = true := by
  simp only [Bool.and_eq_true, Bool.or_eq_true, Bool.not_eq_true'] at hp
  unfold calm
  rw [hxo, hp.1]
  rcases hp.2 with (h | h) | h
  · rw [k3 h.1, hw h.2, free_nil_left, free_nil_left, free_nil_left]; rfl
  · rw [k3 (quiet_still h), k4 h]; simp [free]
  · rw [hw (quiet_still h), hqu h]; simp [free]

theorem static_seq {all : Array Oper} (hs : staticOk all = true) : ∀ (ops' : List Oper) (rs : List Rec) (st : St), all.toList.drop rs.length = ops' → Rows all rs →
    evD E O fc base all (clo all all.size) (numbered rs.length ops') st rs = evE E O fc base all ops' st
  | [], rs, st, _, _ => rfl
  | o :: r, rs, st, hall, hr => by
    have ho : all[rs.length]? = some o := by
      have := congrArg (·[0]?) hall
      simpa using this
    have hlt : rs.length < all.size := (Array.getElem?_eq_some_iff.1 ho).1
    have hdrop : all.toList.drop (rs.length + 1) = r := by
      rw [← List.drop_drop, hall]
      rfl
    have h1 := List.all_eq_true.1 hs rs.length (List.mem_range.2 hlt)
    simp only [Bool.and_eq_true] at h1
    have hpair : ∀ (x : Rec), x.i = rs.length → x.o = o → (wrOp o = false → x.eff.writes = []) → (quiet o = true → x.supp = []) →
        ((deps all rs.length).all (fun d => decide (d < rs.length)) && rs.all (fun y => ((clo all all.size).getD rs.length []).contains y.i || calm all y x)) = true := fun x hi hxo hw hqu => by
      rw [h1.1, Bool.true_and, List.all_eq_true]
      intro y hy
      obtain ⟨j, hj⟩ := List.mem_iff_getElem?.1 hy
      obtain ⟨k1, k2, k3, k4⟩ := hr j y hj
      have hjlt : j < rs.length := by
        rcases Nat.lt_or_ge j rs.length with h | h
        · exact h
        · rw [List.getElem?_eq_none h] at hj; cases hj
      have hp := List.all_eq_true.1 h1.2 j (List.mem_range.2 hjlt)
      unfold staticPair at hp
      rw [k2, ho, Bool.or_eq_true] at hp
      rw [k1, Bool.or_eq_true]
      rcases hp with hp | hp
      · exact .inl hp
      · right
        exact calm_stat hxo hp hw hqu k3 k4
    have next : ∀ (x : Rec), x.i = rs.length → x.o = o → (wrOp o = false → x.eff.writes = []) → (quiet o = true → x.supp = []) → Rows all (rs ++ [x]) := fun x hi hxo hw hqu j y hy => by
      rcases getElem?_snoc hy with ⟨_, h⟩ | ⟨rfl, rfl⟩
      · exact hr j y h
      · exact ⟨hi, by rw [hxo]; exact ho, by rw [hxo]; exact hw, by rw [hxo]; exact hqu⟩
    simp only [numbered, evD, evE]
    cases hw : wantedV all o st with
    | none => rfl
    | some b =>
      cases b with
      | true =>
        dsimp only
        cases he : qJ E O fc base o st with
        | none => rfl
        | some e =>
          dsimp only
          rw [if_pos (hpair { i := rs.length, o := o, eff := e, supp := supp fc base o st } rfl rfl (fun hwr => eff_still hwr he) (fun hq => supp_quiet hq))]
          have := static_seq hs r (rs ++ [{ i := rs.length, o := o, eff := e, supp := supp fc base o st }]) (e.ap o.dst st) (by simpa using hdrop) (next _ rfl rfl (fun hwr => eff_still hwr he) (fun hq => supp_quiet hq))
          rw [List.length_append] at this
          exact this
      | false =>
        dsimp only
        rw [if_pos (hpair { i := rs.length, o := o, eff := .put .und, supp := [] } rfl rfl (fun _ => rfl) (fun _ => rfl))]
        have := static_seq hs r (rs ++ [{ i := rs.length, o := o, eff := .put .und, supp := [] }]) (st.put o.dst .und) (by simpa using hdrop) (next _ rfl rfl (fun _ => rfl) (fun _ => rfl))
        rw [List.length_append] at this
        exact this

theorem evRegion_still (ops : Array Oper) (st : St) : evRegion E O fc base ops false st = evOps E O fc base ops ops.toList st := rfl

theorem evRegion_static {ops : Array Oper} (hs : staticOk ops = true) (st : St) : evRegion E O fc base ops true st = evE E O fc base ops ops.toList st := by
  unfold evRegion
  rw [if_pos rfl]
  exact static_seq hs ops.toList [] st rfl (fun j x h => by simp at h)

def zD (ds : List (Option Nat)) (o : Oper) (st : St) : Option Bool := match o.guard with
  | none => some true
  | some (j, b) => match ds.getD j none with
    | some d => match st.get d with
      | .bool b' => ask (b' == b)
      | .und => some false
      | _ => none
    | none => none

theorem wantedV_D (all : Array Oper) (o : Oper) (st : St) : wantedV all o st = zD (all.toList.map (·.dst)) o st := by
  unfold wantedV zD
  cases o.guard with
  | none => rfl
  | some p =>
    obtain ⟨j, b⟩ := p
    dsimp only
    have : (all[j]?).bind (·.dst) = (all.toList.map (·.dst)).getD j none := by
      rw [List.getD_eq_getElem?_getD, List.getElem?_map, Array.getElem?_toList]
      cases all[j]? <;> rfl
    rw [this]
    cases (all.toList.map (·.dst)).getD j none with
    | none => rfl
    | some d =>
      dsimp only
      cases st.get d <;> rfl

def thenOps (r : Option St) (k : St → Option St) : Option St := match r with
  | some s => k s
  | none => none
def thenEff (r : Option Eff) (k : Eff → Option St) : Option St := match r with
  | some e => k e
  | none => none

section
variable (E : Env) (O : Orc) (fc : FC) (base : Nat) (ds : List (Option Nat))
def evOpsD : List Oper → St → Option St
  | [], st => some st
  | o :: r, st => match zD ds o st with
    | some true => thenOps (zH E O fc base o st) (evOpsD r)
    | some false => evOpsD r (st.put o.dst .und)
    | none => none
def evED : List Oper → St → Option St
  | [], st => some st
  | o :: r, st => match zD ds o st with
    | some true => thenEff (qJ E O fc base o st) (fun e => evED r (e.ap o.dst st))
    | some false => evED r (st.put o.dst .und)
    | none => none
def opsG (o : Oper) (r : List Oper) (st : St) (w : Option Bool) : Option St := match w with
  | some true => thenOps (zH E O fc base o st) (evOpsD E O fc base ds r)
  | some false => evOpsD E O fc base ds r (st.put o.dst .und)
  | none => none
def effG (o : Oper) (r : List Oper) (st : St) (w : Option Bool) : Option St := match w with
  | some true => thenEff (qJ E O fc base o st) (fun e => evED E O fc base ds r (e.ap o.dst st))
  | some false => evED E O fc base ds r (st.put o.dst .und)
  | none => none
end

section
variable {ds : List (Option Nat)} {o : Oper} {r : List Oper} {st : St}
theorem thenOps_some (s : St) (k : St → Option St) : thenOps (some s) k = k s := rfl
theorem thenEff_some (e : Eff) (k : Eff → Option St) : thenEff (some e) k = k e := rfl
theorem evOpsD_nil : evOpsD E O fc base ds [] st = some st := rfl
theorem evOpsD_cons : evOpsD E O fc base ds (o :: r) st = opsG E O fc base ds o r st (zD ds o st) := by
  simp only [evOpsD]
  cases zD ds o st with
  | none => rfl
  | some b => cases b <;> rfl
theorem evED_nil : evED E O fc base ds [] st = some st := rfl
theorem evED_cons : evED E O fc base ds (o :: r) st = effG E O fc base ds o r st (zD ds o st) := by
  simp only [evED]
  cases zD ds o st with
  | none => rfl
  | some b => cases b <;> rfl
theorem opsG_true : opsG E O fc base ds o r st (some true) = thenOps (zH E O fc base o st) (evOpsD E O fc base ds r) := rfl
theorem opsG_false : opsG E O fc base ds o r st (some false) = evOpsD E O fc base ds r (st.put o.dst .und) := rfl
theorem effG_true : effG E O fc base ds o r st (some true) = thenEff (qJ E O fc base o st) (fun e => evED E O fc base ds r (e.ap o.dst st)) := rfl
theorem effG_false : effG E O fc base ds o r st (some false) = evED E O fc base ds r (st.put o.dst .und) := rfl
end

theorem evOps_D (all : Array Oper) : ∀ (l : List Oper) (st : St), evOps E O fc base all l st = evOpsD E O fc base (all.toList.map (·.dst)) l st
  | [], _ => rfl
  | o :: r, st => by
    simp only [evOps, evOpsD, wantedV_D]
    cases zD (all.toList.map (·.dst)) o st with
    | none => rfl
    | some b =>
      cases b with
      | false => exact evOps_D all r _
      | true =>
        unfold thenOps
        cases zH E O fc base o st with
        | none => rfl
        | some s => exact evOps_D all r s

theorem evE_D (all : Array Oper) : ∀ (l : List Oper) (st : St), evE E O fc base all l st = evED E O fc base (all.toList.map (·.dst)) l st
  | [], _ => rfl
  | o :: r, st => by
    simp only [evE, evED, wantedV_D]
    cases zD (all.toList.map (·.dst)) o st with
    | none => rfl
    | some b =>
      cases b with
      | false => exact evE_D all r _
      | true =>
        unfold thenEff
        cases qJ E O fc base o st with
        | none => rfl
        | some e => exact evE_D all r _

theorem evRegion_calm (ops : Array Oper) (st : St) : evRegion E O fc base ops false st = evOpsD E O fc base (ops.toList.map (·.dst)) ops.toList st := evOps_D ops _ st
theorem evRegion_st {ops : Array Oper} (hs : staticOk ops = true) (st : St) : evRegion E O fc base ops true st = evED E O fc base (ops.toList.map (·.dst)) ops.toList st := (evRegion_static hs st).trans (evE_D ops _ st)
end
end Go.AM
end

section
/-
Regions that draw their order with an operation that stands between all others, where the code alone shows that no two open operations disturb each other.
-/
namespace Go.AM
open Go

def barKind (o : Oper) : Bool := match o.op with
  | .call c => match c.callee with
    | .value _ => true
    | .builtin .append => true
    | _ => false
  | _ => false

section
variable {E : Env} {X : Ext} {O : Orc} {fc : FC} {base : Nat}

theorem bar_kind {o : Oper} {st : St} (h : isBar E o st = true) : barKind o = true := by
  unfold isBar at h
  unfold barKind
  split at h
  case h_2 => cases h
  rename_i c hc
  split at h
  · rename_i f hf; rw [hc]; dsimp only; rw [hf]
  · rename_i hf; rw [hc]; dsimp only; rw [hf]
  · cases h

section
variable (E : Env) (O : Orc) (fc : FC) (base : Nat) (ds : List (Option Nat))
end

section
variable {ds : List (Option Nat)} {o : Oper} {r : List Oper} {st : St}
end

end
end Go.AM
end

section
/-
A given row, out of what the abstract machine answers: arguments of plain data.
-/
namespace Go.AM
open Go Go.RowKit

theorem Orc.callOk {P : Program} {E : Env} {X : Ext} (hE : EnvOk P E) (hX : ExtOk P X) (hm : P.follows .mixedOrders = true) {g : Nat} {args : List V} {r : V}
    (h : (orcω E X).call g args = some r) : CallOk P g args r := by
  obtain ⟨n, hn⟩ := (lim_iff (mono_call E X g args)).1 h
  exact (orc_ok hE hX hm n).call g args r hn

def HasFs (H : Nat → List V → Prop) : List Nat → List V → Prop
  | [], cs => cs = []
  | t :: r, cs => ∃ a b, cs = a ++ b ∧ H t a ∧ HasFs H r b

def pack (agg : Bool) (ds : List V) : V := if agg then .agg ds else ds.headD .junk

def HasC (E : Env) : Nat → Nat → List V → Prop
  | 0, _, _ => False
  | n + 1, t, cs => match E.ty t with
    | some ti => match ti.ty with
      | .int k => ∃ i, cs = [.int k i] ∧ k.min ≤ i ∧ i ≤ k.max
      | .bool => ∃ b, cs = [.bool b]
      | .slice e => ∃ vs, cs = [.sl false vs] ∧ vs.length ≤ maxLen ∧ ∀ v ∈ vs, ∃ ei ds, E.ty e = some ei ∧ HasC E n e ds ∧ v = pack ei.ty.isAgg ds
      | .struct fs => HasFs (HasC E n) (fs.map (·.2)) cs
      | .array k e => HasFs (HasC E n) (List.replicate k e) cs
      | _ => False
    | none => False

def HasV (E : Env) (n t : Nat) (v : V) : Prop := ∃ ti ds, E.ty t = some ti ∧ HasC E n t ds ∧ v = pack ti.ty.isAgg ds

def HasAll (E : Env) (n : Nat) : List Nat → List V → Prop
  | [], vs => vs = []
  | t :: r, vs => ∃ v q, vs = v :: q ∧ HasV E n t v ∧ HasAll E n r q

def tiles (E : Env) : Nat → List (Nat × Nat) → Option Nat
  | off, [] => some off
  | off, (o, t) :: r => match E.ty t with
    | some fi => if o = off then tiles E (off + fi.size) r else none
    | none => none

def plainTy (E : Env) : Nat → Nat → Bool
  | 0, _ => false
  | n + 1, t => match E.ty t with
    | some ti => match ti.ty with
      | .int _ => ti.size == 1
      | .bool => ti.size == 1
      | .slice e => ti.size == 1 && (match E.ty e with | some ei => decide (0 < ei.size) | none => false) && plainTy E n e
      | .struct fs => decide (tiles E 0 fs = some ti.size) && fs.all (fun p => plainTy E n p.2)
      | .array k e => (match E.ty e with | some ei => decide (k * ei.size = ti.size) | none => false) && plainTy E n e
      | _ => false
    | none => false

theorem HasFs.refFree {H : Nat → List V → Prop} (h : ∀ t cs, H t cs → xS cs = true) : ∀ (ts : List Nat) (cs : List V), HasFs H ts cs → xS cs = true
  | [], _, e => by simp only [HasFs] at e; subst e; rfl
  | _ :: r, _, e => by
    obtain ⟨a, b, rfl, h1, h2⟩ := e
    rw [refFreeL_app, h _ _ h1, HasFs.refFree h r b h2]; rfl

theorem HasC.refFree {E : Env} : ∀ (n t : Nat) (cs : List V), HasC E n t cs → xS cs = true
  | 0, _, _, h => h.elim
  | n + 1, t, cs, h => by
    simp only [HasC] at h
    split at h
    case h_2 => exact h.elim
    split at h
    · obtain ⟨i, rfl, _⟩ := h; rfl
    · obtain ⟨b, rfl⟩ := h; rfl
    · obtain ⟨vs, rfl, _⟩ := h; rfl
    · exact HasFs.refFree (fun t cs => HasC.refFree n t cs) _ _ h
    · exact HasFs.refFree (fun t cs => HasC.refFree n t cs) _ _ h
    · exact h.elim

theorem refFree_pack {agg : Bool} {ds : List V} (h : xS ds = true) : refFree (pack agg ds) = true := by
  unfold pack
  split
  · exact h
  · cases ds with
    | nil => rfl
    | cons d r => simp only [xS, Bool.and_eq_true] at h; exact h.1

section
variable {P : Program} {E : Env} {w : World} {H : Type} {enc : TypeId × Value → H} {base : Nat} {spare : Nat → Bool} {held : Bool}

def Old (w : World) : Cx := ⟨fun b => b < w.heap.size, w.heap.size, w, fun _ => False, true, fun _ => False⟩

theorem cellsOf_eq {t : TypeId} {i : TypeInfo} (h : P.info? t = some i) : P.cellsOf t = i.size := by simp [Program.cellsOf, h]

theorem parts_rep {n : Nat} (h : ∀ t cs x, DataW.trod enc P w base spare held n t cs = some x → ∀ m ti, E.ty t = some ti → plainTy E m t = true →
      ∃ av, HasC E m t av ∧ (∀ mo : Option Bool, mo.getD false = false → RepL (Old w) w (fun _ => none) mo av cs) ∧ (∀ u ∈ cs, u.oneCell' = true) ∧ cs.length = ti.size) {m : Nat} :
    ∀ (fs : List (Nat × Nat)) (off tot : Nat) (cs : List Value), tiles E off fs = some tot → cs.length = tot → off ≤ tot →
      (∀ p ∈ fs, plainTy E m p.2 = true) → (∀ p ∈ fs, ∃ fi y, E.ty p.2 = some fi ∧ DataW.trod enc P w base spare held n p.2 ((cs.drop p.1).take fi.size) = some y) →
      ∃ av, HasFs (HasC E m) (fs.map (·.2)) av ∧ (∀ mo : Option Bool, mo.getD false = false → RepL (Old w) w (fun _ => none) mo av (cs.drop off)) ∧ (∀ u ∈ cs.drop off, u.oneCell' = true)
  | [], off, tot, cs, ht, hl, _, _, _ => by
    simp only [tiles, Option.some.injEq] at ht
    subst ht
    rw [List.drop_of_length_le (by omega)]
    exact ⟨[], rfl, fun _ _ => rfl, fun u hu => by cases hu⟩
  | (o, t) :: r, off, tot, cs, ht, hl, hoff, hp, hx => by
    obtain ⟨fi, y, hfi, hy⟩ := hx (o, t) List.mem_cons_self
    simp only [tiles, hfi] at ht
    split at ht
    case isFalse => cases ht
    rename_i ho
    subst ho
    obtain ⟨av, h1, h2, h3, h4⟩ := h t _ y hy m fi hfi (hp (o, t) List.mem_cons_self)
    have hle : o + fi.size ≤ tot := by
      dsimp only at h4
      rw [List.length_take, List.length_drop] at h4
      omega
    obtain ⟨bv, k1, k2, k3⟩ := parts_rep h (m := m) r (o + fi.size) tot cs ht hl hle (fun p hp' => hp p (List.mem_cons_of_mem _ hp')) (fun p hp' => hx p (List.mem_cons_of_mem _ hp'))
    have hsplit : cs.drop o = (cs.drop o).take fi.size ++ cs.drop (o + fi.size) := by
      rw [← List.drop_drop, List.take_append_drop]
    refine ⟨av ++ bv, ⟨av, bv, rfl, h1, k1⟩, ?_, ?_⟩
    · intro mo hmo; rw [hsplit]; exact RepL.app (h2 mo hmo) (k2 mo hmo)
    · intro u hu
      rw [hsplit, List.mem_append] at hu
      rcases hu with hu | hu
      · exact h3 u hu
      · exact k3 u hu

theorem tiles_replicate {E : Env} {e : Nat} {ei : TI} (he : E.ty e = some ei) : ∀ (k off : Nat), tiles E off ((List.range k).map fun i => (off + i * ei.size, e)) = some (off + k * ei.size)
  | 0, off => by simp [tiles]
  | k + 1, off => by
    rw [List.range_succ_eq_map, List.map_cons, List.map_map]
    simp only [tiles, he, Nat.zero_mul, Nat.add_zero, if_true]
    have := tiles_replicate he k (off + ei.size)
    rw [show off + (k + 1) * ei.size = off + ei.size + k * ei.size by rw [Nat.succ_mul]; omega, ← this]
    congr 1
    refine List.map_congr_left fun i _ => ?_
    simp only [Function.comp, Nat.succ_mul]
    congr 1
    omega

def packW (agg : Bool) (cs : List Value) : Value := if agg then .agg cs.toArray else cs.headD undef

theorem cells_one {c : Value} (h : c.oneCell' = true) : c.cells = #[c] := by cases c <;> first | rfl | simp [Value.oneCell'] at h

theorem packW_cells {agg : Bool} {cs : List Value} (h : agg = false → cs.length = 1) (h1 : ∀ u ∈ cs, u.oneCell' = true) : (packW agg cs).cells.toList = cs := by
  unfold packW
  cases agg with
  | true => rfl
  | false =>
    match cs, h rfl with
    | [c], _ =>
      simp only [Bool.false_eq_true, if_false, List.headD_cons]
      rw [cells_one (h1 c (by simp))]

theorem pack_rep {agg : Bool} {av : List V} {cs : List Value} {C : Cx} {σ : Places} {mo : Option Bool} (h : agg = false → cs.length = 1) (h1 : ∀ u ∈ cs, u.oneCell' = true) (hr : RepL C w σ mo av cs) : Rep C w σ mo (pack agg av) (packW agg cs) := by
  unfold pack packW
  cases agg with
  | true => exact ⟨cs, rfl, hr, h1⟩
  | false =>
    match cs, h rfl with
    | [c], _ =>
      match av, hr with
      | v :: r, ⟨d, q, e, hd, _⟩ =>
        cases e
        exact hd

theorem plain_size {m : Nat} {t : Nat} {ti : TI} (hti : E.ty t = some ti) (hp : plainTy E m t = true) : ti.ty.isAgg = false → ti.size = 1 := fun ha => by
  cases m with
  | zero => simp [plainTy] at hp
  | succ m =>
    simp only [plainTy, hti] at hp
    split at hp
    · simpa using hp
    · simpa using hp
    · simp only [Bool.and_eq_true] at hp; simpa using hp.1.1
    · rename_i hk; rw [hk] at ha; cases ha
    · rename_i hk; rw [hk] at ha; cases ha
    · cases hp

theorem choose_list {α : Type} {n : Nat} {p : Nat → α → Prop} (h : ∀ i, i < n → ∃ y, p i y) : ∃ l : List α, l.length = n ∧ ∀ i y, l[i]? = some y → p i y := by
  induction n with
  | zero => exact ⟨[], rfl, fun i y h => by simp at h⟩
  | succ n ih =>
    obtain ⟨l, hl, hp⟩ := ih fun i hi => h i (by omega)
    obtain ⟨y, hy⟩ := h n (by omega)
    refine ⟨l ++ [y], by simp [hl], fun i z hz => ?_⟩
    rcases getElem?_snoc hz with ⟨_, h1⟩ | ⟨rfl, rfl⟩
    · exact hp i z h1
    · rw [hl]; exact hy

theorem repL_of {C : Cx} {σ : Places} {mo : Option Bool} : ∀ {vs : List V} {ds : List Value}, vs.length = ds.length → (∀ (i : Nat) v d, vs[i]? = some v → ds[i]? = some d → Rep C w σ mo v d) → RepL C w σ mo vs ds
  | [], [], _, _ => rfl
  | [], _ :: _, h, _ => by simp at h
  | _ :: _, [], h, _ => by simp at h
  | v :: vs, d :: ds, h, hr => ⟨d, ds, rfl, hr 0 v d rfl rfl, repL_of (by simpa using h) fun i v' d' h1 h2 => hr (i + 1) v' d' (by simpa using h1) (by simpa using h2)⟩

theorem plain_known {m t : Nat} (hp : plainTy E m t = true) : ∃ ti, E.ty t = some ti := by
  cases m with
  | zero => simp [plainTy] at hp
  | succ m =>
    simp only [plainTy] at hp
    split at hp
    · rename_i ti h; exact ⟨ti, h⟩
    · cases hp

theorem trod_rep (hT : TyOk P E) : ∀ (n : Nat) (t : TypeId) (cs : List Value) (x : DataW H × List MemPlace), DataW.trod enc P w base spare held n t cs = some x → ∀ (m : Nat) (ti : TI), E.ty t = some ti → plainTy E m t = true →
      ∃ av, HasC E m t av ∧ (∀ mo : Option Bool, mo.getD false = false → RepL (Old w) w (fun _ => none) mo av cs) ∧ (∀ u ∈ cs, u.oneCell' = true) ∧ cs.length = ti.size := by
  intro n
  induction n with
  | zero => intro t cs x h; simp [DataW.trod] at h
  | succ n ih =>
    intro t cs x h m ti hti hp
    have hp0 := hp
    cases m with
    | zero => simp [plainTy] at hp
    | succ m =>
      obtain ⟨d, i, z, hd, ht, hi, hsz, _, _, _, _, _⟩ := hT t ti hti
      have hcell : P.cellsOf t = ti.size := by rw [cellsOf_eq hi, hsz]
      simp only [plainTy, hti] at hp
      simp only [HasC, hti]
      split at hp
      · -- integers
        rename_i k hk
        rw [hk] at ht
        cases d <;> simp [tyIs] at ht
        subst ht
        obtain ⟨v, rfl, _, hw⟩ := DataW.trod_int hd h
        refine ⟨[.int k v], ⟨v, rfl, ?_⟩, fun _ _ => ⟨_, _, rfl, rfl, rfl⟩, fun u hu => ?_, ?_⟩
        · simp only [Lit.wf, Bool.and_eq_true, decide_eq_true_eq] at hw
          exact hw
        · simp at hu; subst hu; rfl
        · have : ti.size = 1 := by simpa using hp
          rw [this]; rfl
      · rename_i hk
        rw [hk] at ht
        cases d <;> simp [tyIs] at ht
        obtain ⟨b, rfl, _⟩ := DataW.trod_bool hd h
        refine ⟨[.bool b], ⟨b, rfl⟩, fun _ _ => ⟨_, _, rfl, rfl, rfl⟩, fun u hu => ?_, ?_⟩
        · simp at hu; subst hu; rfl
        · have : ti.size = 1 := by simpa using hp
          rw [this]; rfl
      · -- slices
        rename_i e hk
        rw [hk] at ht
        simp only [Bool.and_eq_true] at hp
        obtain ⟨⟨hp1, hp2⟩, hp3⟩ := hp
        have hp1 : ti.size = 1 := by simpa using hp1
        cases d <;> simp [tyIs] at ht
        subst ht
        split at hp2
        case h_2 => cases hp2
        rename_i ei hei
        have hes : 0 < ei.size := by simpa using hp2
        obtain ⟨_, ii, _, _, _, hii, hisz, _⟩ := hT _ ei hei
        have hce : P.cellsOf e = ei.size := by rw [cellsOf_eq hii, hisz]
        rcases DataW.trod_slice hd h with ⟨rfl, _⟩ | ⟨a, len, cap, elems, rest, k, hk', rfl, _, _, hl, hm, hlen, hel, _⟩
        · refine ⟨[.sl false []], ⟨[], rfl, Nat.zero_le _, fun v hv => by cases hv⟩, fun mo hmo => ⟨_, _, rfl, ?_, rfl⟩, fun u hu => ?_, by rw [hp1]; rfl⟩
          · simp only [Rep]
            exact ⟨rfl, none, 0, rfl, Nat.le_refl _, .inl trivial⟩
          · simp at hu; subst hu; rfl
        · have hkn : k = n := by omega
          subst hkn
          obtain ⟨l, hll, hlp⟩ := choose_list (n := len) (p := fun i (y : List V × List Value) => HasC E m e y.1 ∧ (∀ mo : Option Bool, mo.getD false = false → RepL (Old w) w (fun _ => none) mo y.1 y.2) ∧ (∀ u ∈ y.2, u.oneCell' = true) ∧ y.2.length = ei.size ∧
              ∀ r, r < ei.size → w.cell? ((a.add (i * ei.size)).add r) = y.2[r]?) (fun i hi => by
            have h1 := hel i hi
            rw [hce, List.getElem?_eq_getElem (by omega)] at h1
            obtain ⟨cs', h2, h3⟩ := Option.bind_eq_some_iff.1 h1
            obtain ⟨av, q1, q2, q3, q4⟩ := ih e cs' _ h3 m ei hei hp3
            obtain ⟨_, _, h4⟩ := World.cells?_some h2
            exact ⟨(av, cs'), q1, q2, q3, q4, h4⟩)
          have hsz1 : ∀ i (y : List V × List Value), l[i]? = some y → (ei.ty.isAgg = false → y.2.length = 1) := fun i y hy ha => by
            rw [(hlp i y hy).2.2.2.1]; exact plain_size hei hp3 ha
          refine ⟨[.sl false (l.map fun y => pack ei.ty.isAgg y.1)], ⟨_, rfl, by rw [List.length_map, hll]; omega, fun v hv => ?_⟩, fun mo hmo => ⟨_, _, rfl, ?_, rfl⟩, fun u hu => ?_, by rw [hp1]; rfl⟩
          · obtain ⟨y, hy, rfl⟩ := List.mem_map.1 hv
            obtain ⟨i, hi⟩ := List.mem_iff_getElem?.1 hy
            exact ⟨ei, y.1, hei, (hlp i y hi).1, rfl⟩
          · simp only [Rep]
            refine ⟨?_, some a, cap, by rw [List.length_map, hll], by rw [List.length_map, hll]; exact hl, ?_⟩
            · have : ∀ (l : List V), (∀ v ∈ l, refFree v = true) → xS l = true := fun l => by
                induction l with
                | nil => intro _; rfl
                | cons v r ih => intro hv; simp only [xS, hv v List.mem_cons_self, ih fun u hu => hv u (List.mem_cons_of_mem _ hu), Bool.and_self]
              refine this _ fun v hv => ?_
              obtain ⟨y, hy, rfl⟩ := List.mem_map.1 hv
              obtain ⟨i, hi⟩ := List.mem_iff_getElem?.1 hy
              exact refFree_pack (HasC.refFree _ _ _ (hlp i y hi).1)
            · cases hlz : l with
              | nil => exact .inl rfl
              | cons y0 r0 =>
                right
                have h0 : l[0]? = some y0 := by rw [hlz]; rfl
                rw [← hlz]
                have hc0 := (hlp 0 y0 h0).2.2.2.2 0 hes
                have hy0 : 0 < y0.2.length := by rw [(hlp 0 y0 h0).2.2.2.1]; exact hes
                rw [List.getElem?_eq_getElem hy0] at hc0
                have ha0 : (a.add (0 * ei.size)).add 0 = a := by simp [Addr.add]
                rw [ha0] at hc0
                have hspot := World.cell?_spot hc0
                obtain ⟨b, off, spot⟩ := a
                dsimp only at hspot
                subst hspot
                have hb : b < w.heap.size := by
                  rcases Nat.lt_or_ge b w.heap.size with h1 | h1
                  · exact h1
                  · simp [World.cell?, Array.getElem?_eq_none h1] at hc0
                refine ⟨b, off, ei.size, l.map fun y => packW ei.ty.isAgg y.2, rfl, ?_, ?_, ?_, hes, ?_⟩
                · exact ⟨(fun ⟨_, _, hi, _⟩ => by cases hi), hb, .inr ⟨hmo, hb⟩, fun e' => by rw [hmo] at e'; cases e'⟩
                · refine repL_of (by simp) fun i v d' hv hd' => ?_
                  rw [List.getElem?_map] at hv hd'
                  obtain ⟨y, hy, rfl⟩ := Option.map_eq_some_iff.1 hv
                  rw [hy] at hd'
                  cases hd'
                  exact pack_rep (hsz1 i y hy) (hlp i y hy).2.2.1 ((hlp i y hy).2.1 _ (by rw [hmo]; rfl))
                · intro d' hd'
                  obtain ⟨y, hy, rfl⟩ := List.mem_map.1 hd'
                  obtain ⟨i, hi⟩ := List.mem_iff_getElem?.1 hy
                  have := packW_cells (hsz1 i y hi) (hlp i y hi).2.2.1
                  refine ⟨?_, ?_⟩
                  · rw [← Array.length_toList, this]; exact (hlp i y hi).2.2.2.1
                  · rw [this]; exact (hlp i y hi).2.2.1
                · intro i d' r u hd' hu
                  rw [List.getElem?_map] at hd'
                  obtain ⟨y, hy, rfl⟩ := Option.map_eq_some_iff.1 hd'
                  rw [packW_cells (hsz1 i y hy) (hlp i y hy).2.2.1] at hu
                  have hr : r < ei.size := by
                    rw [← (hlp i y hy).2.2.2.1]
                    exact (List.getElem?_eq_some_iff.1 hu).1
                  have := (hlp i y hy).2.2.2.2 r hr
                  rw [Addr.add_lit, Addr.add_lit, hu] at this
                  exact this
          · simp at hu; subst hu; rfl
      · -- structs
        rename_i fs hk
        rw [hk] at ht
        simp only [Bool.and_eq_true, decide_eq_true_eq] at hp
        obtain ⟨hp1, hp2⟩ := hp
        obtain ⟨gs, rfl⟩ : ∃ gs, d = .struct gs := by cases d <;> first | exact ⟨_, rfl⟩ | simp [tyIs] at ht
        simp only [tyIs] at ht
        have ht : gs.toList.map (fun g => (g.offset, g.type)) = fs := by simpa using ht
        obtain ⟨xs, k, hk', _, hl, hlen, hf⟩ := DataW.trod_struct hd h
        have hkn : k = n := by omega
        subst hkn
        rw [hcell] at hl
        rw [List.all_eq_true] at hp2
        have := parts_rep (fun t cs x h m ti hti hp => ih t cs x h m ti hti hp) (m := m) fs 0 ti.size cs hp1 hl (Nat.zero_le _) (fun p hp => hp2 p hp) (fun p hpm => by
          obtain ⟨fi, hfi⟩ := plain_known (hp2 p hpm)
          rw [← ht, List.mem_map] at hpm
          obtain ⟨g, hg, rfl⟩ := hpm
          obtain ⟨j, hj⟩ := List.mem_iff_getElem?.1 hg
          have hj' : gs[j]? = some g := by simpa using hj
          have hx := hf j g hj'
          obtain ⟨_, ii, _, _, _, hii, hisz, _⟩ := hT _ fi hfi
          rw [cellsOf_eq hii, hisz] at hx
          have hjl : j < xs.length := by
            rw [hlen]
            exact (Array.getElem?_eq_some_iff.1 hj').1
          rw [List.getElem?_eq_getElem hjl] at hx
          exact ⟨fi, _, hfi, hx⟩)
        obtain ⟨av, h1, h2, h3⟩ := this
        rw [List.drop_zero] at h2 h3
        exact ⟨av, h1, h2, h3, hl⟩
      · -- arrays
        rename_i k e hk
        rw [hk] at ht
        simp only [Bool.and_eq_true] at hp
        obtain ⟨hp1, hp2⟩ := hp
        split at hp1
        case h_2 => cases hp1
        rename_i ei hei
        have hp1 : k * ei.size = ti.size := by simpa using hp1
        cases d <;> simp [tyIs] at ht
        obtain ⟨rfl, rfl⟩ := ht
        obtain ⟨xs, k', hk', _, hl, hlen, hf⟩ := DataW.trod_array hd h
        have hkn : k' = n := by omega
        subst hkn
        rw [hcell] at hl
        obtain ⟨_, ii, _, _, _, hii, hisz, _⟩ := hT _ ei hei
        have hce : P.cellsOf e = ei.size := by rw [cellsOf_eq hii, hisz]
        have := parts_rep (fun t cs x h m ti hti hp => ih t cs x h m ti hti hp) (m := m) ((List.range k).map fun i => (0 + i * ei.size, e)) 0 ti.size cs
          (by rw [tiles_replicate hei, hp1]; simp) hl (Nat.zero_le _) (fun p hp => by obtain ⟨i, _, rfl⟩ := List.mem_map.1 hp; exact hp2) (fun p hpm => by
          obtain ⟨i, hi, rfl⟩ := List.mem_map.1 hpm
          have hi := List.mem_range.1 hi
          have hx := hf i hi
          rw [hce, List.getElem?_eq_getElem (by omega)] at hx
          refine ⟨ei, xs[i]'(by omega), hei, ?_⟩
          dsimp only
          rw [Nat.zero_add]
          exact hx)
        obtain ⟨av, h1, h2, h3⟩ := this
        rw [List.drop_zero] at h2 h3
        refine ⟨av, ?_, h2, h3, hl⟩
        have e1 : ((List.range k).map fun i => (0 + i * ei.size, e)).map (·.2) = List.replicate k e := by
          rw [List.map_map]
          apply List.ext_getElem?
          intro j
          simp only [List.getElem?_map, List.getElem?_range', List.getElem?_replicate]
          by_cases hj : j < k
          · simp [hj]
          · simp [hj]
        rw [← e1]
        exact h1
      · cases hp

theorem arg_rep (hT : TyOk P E) {m : Nat} {t : TypeId} (hp : plainTy E m t = true) {v : Value} {d : DataW H} {p : List MemPlace} (h : DataW.Trod enc P w base spare held t v d p) {r : Reach} {b : Nat} (hok : Value.okWide P w r b t v) :
    ∃ av, HasV E m t av ∧ Rep (Old w) w (fun _ => none) none av v := by
  obtain ⟨ti, hti⟩ := plain_known hp
  obtain ⟨fuel, hf⟩ := h
  obtain ⟨av, h1, h2, h3, h4⟩ := trod_rep hT fuel t _ _ hf m ti hti hp
  refine ⟨pack ti.ty.isAgg av, ⟨ti, av, hti, h1, rfl⟩, ?_⟩
  have hv : packW ti.ty.isAgg v.cells.toList = v := by
    obtain ⟨dd, _, _, hd, ht, _⟩ := hT t ti hti
    have hok0 := hok
    unfold Value.okWide at hok
    rw [hd] at hok
    cases hk : ti.ty with
    | struct fs =>
      rw [hk] at ht
      obtain ⟨gs, rfl⟩ : ∃ gs, dd = .struct gs := by cases dd <;> first | exact ⟨_, rfl⟩ | simp [tyIs] at ht
      obtain ⟨cs, rfl, _⟩ := hok
      simp [packW, Ty.isAgg, Value.cells]
    | array n e =>
      rw [hk] at ht
      obtain ⟨n', e', rfl⟩ : ∃ n' e', dd = .array n' e' := by cases dd <;> first | exact ⟨_, _, rfl⟩ | simp [tyIs] at ht
      obtain ⟨cs, rfl, _⟩ := hok
      simp [packW, Ty.isAgg, Value.cells]
    | int k =>
      rw [hk] at ht
      cases dd <;> simp [tyIs] at ht
      simp only [Cell.okWide, hd] at hok
      cases v <;> simp_all [Cell.ok, packW, Ty.isAgg, Value.cells]
    | bool =>
      rw [hk] at ht
      cases dd <;> simp [tyIs] at ht
      simp only [Cell.okWide, hd] at hok
      cases v <;> simp_all [Cell.ok, packW, Ty.isAgg, Value.cells]
    | slice e =>
      rw [hk] at ht
      cases dd <;> simp [tyIs] at ht
      obtain ⟨a, len, cap, rfl⟩ := WideShapes.okWide_slice hd hok0
      rfl
    | str => cases m <;> simp [plainTy, hti, hk] at hp
    | other => cases m <;> simp [plainTy, hti, hk] at hp
    | map k e => cases m <;> simp [plainTy, hti, hk] at hp
  have := pack_rep (C := Old w) (σ := fun _ => none) (mo := none) (agg := ti.ty.isAgg) (fun ha => by rw [h4]; exact plain_size hti hp ha) h3 (h2 none rfl)
  rw [hv] at this
  exact this

theorem args_rep (hT : TyOk P E) {m : Nat} {r : Reach} {b : Nat} : ∀ {ts : List TypeId} {vs : List Value} {ds : List (DataW H)} {p : List MemPlace}, DataW.TrodAll enc P w base spare held ts vs ds p →
    (∀ (j : Nat) t v, ts[j]? = some t → vs[j]? = some v → Value.okWide P w r b t v) → (∀ t ∈ ts, plainTy E m t = true) →
    ∃ avs, HasAll E m ts avs ∧ RepL (Old w) w (fun _ => none) none avs vs
  | [], [], [], _, _, _, _ => ⟨[], rfl, rfl⟩
  | t :: ts, v :: vs, d :: ds, p, h, hok, hp => by
    obtain ⟨p1, q, h1, h2, _⟩ := h
    obtain ⟨av, k1, k2⟩ := arg_rep hT (hp t List.mem_cons_self) h1 (hok 0 t v rfl rfl)
    obtain ⟨avs, k3, k4⟩ := args_rep hT h2 (fun j t v h1 h2 => hok (j + 1) t v (by simpa using h1) (by simpa using h2)) (fun t ht => hp t (List.mem_cons_of_mem _ ht))
    exact ⟨av :: avs, ⟨av, avs, rfl, k1, k3⟩, v, vs, rfl, k2, k4⟩
  | [], _ :: _, _, _, h, _, _ => h.elim
  | [], [], _ :: _, _, h, _, _ => h.elim
  | _ :: _, [], _, _, h, _, _ => h.elim
  | _ :: _, _ :: _, [], _, h, _, _ => h.elim

theorem trodAll_below (hl : laidOutB P = true) {w' : World} (hb : Below w.heap.size w w') : ∀ {ts : List TypeId} {vs : List Value} {ds : List (DataW H)} {p : List MemPlace}, DataW.TrodAll enc P w 0 (fun _ => true) true ts vs ds p →
    (∀ t ∈ ts, P.readableRec t = true ∧ t < P.types.size) → (∀ x ∈ p, x.block < w.heap.size) → DataW.TrodAll enc P w' 0 (fun b => decide (b < w.heap.size)) true ts vs ds p
  | [], [], [], _, h, _, _ => h
  | t :: ts, v :: vs, d :: ds, p, h, hr, hlt => by
    obtain ⟨p1, q, h1, h2, rfl⟩ := h
    exact ⟨p1, q, Below.trod hl (hr t List.mem_cons_self).1 (hr t List.mem_cons_self).2 h1 hb (fun x hx => hlt x (List.mem_append_left _ hx)),
      trodAll_below hl hb h2 (fun t ht => hr t (List.mem_cons_of_mem _ ht)) (fun x hx => hlt x (List.mem_append_right _ hx)), rfl⟩
  | [], _ :: _, _, _, h, _, _ => h.elim
  | [], [], _ :: _, _, h, _, _ => h.elim
  | _ :: _, [], _, _, h, _, _ => h.elim
  | _ :: _, _ :: _, [], _, h, _, _ => h.elim

theorem row_calls {X : Ext} (hE : EnvOk P E) (hX : ExtOk P X) (hm : P.follows .mixedOrders = true) (hl : laidOutB P = true) {f : FuncId} {fn : Func} {s : ChangeSpec} {tb : TypeId} (hvars : s.vars = [])
    (hres : fn.resultTypes = #[tb]) (htb : P.underlying tb = some .bool) {m : Nat} (hp : ∀ t ∈ fn.params.toList, plainTy E m t = true ∧ P.readableRec t = true ∧ t < P.types.size)
    (hs : ∀ ds : List (DataW H), ds.length = fn.params.size → s.fn H ds = { results := [.lit (.bool true)], args := ds })
    (hcall : ∀ avs, HasAll E m fn.params.toList avs → (orcω E X).call f avs = some (.bool true))
    {apart fresh handsOn : Bool} {W : World} {b : Nat} {args : Array Value} {ds gs : List (DataW H)} {before : List MemPlace}
    (hval : ∀ (j : Nat) t v, fn.params[j]? = some t → args[j]? = some v → Value.okWide P W .any b t v)
    (hW : DataW.Whole enc P fn.params.toList s.vars apart W args.toList ds gs before) :
    Calls P f args W fun e W' => ∃ v, e = .returned v ∧ s.post enc P fn apart fresh handsOn false W args v W' := by
  have hlt := hW.lt
  have hW' := hW
  obtain ⟨p, q, hA, hV, rfl, _, _⟩ := hW
  rw [hvars] at hV
  obtain ⟨rfl, rfl⟩ : gs = [] ∧ q = [] := by
    cases gs with
    | nil => exact ⟨rfl, hV⟩
    | cons g r => exact hV.elim
  obtain ⟨avs, k1, k2⟩ := args_rep hE.ty (m := m) hA (fun j t v h1 h2 => hval j t v (by simpa using h1) (by simpa using h2)) (fun t ht => (hp t ht).1)
  obtain ⟨_, hc⟩ := (hcall avs k1 |> Orc.callOk hE hX hm)
  have hc := callsIn_wide.1 (hc 0 W (fun b => b < W.heap.size) args.toList (fun _ h => h) k2)
  rw [Array.toArray_toList] at hc
  refine hc.mono fun e W' he => ?_
  obtain ⟨c, rfl, hb, hr, _⟩ := he
  simp only [Rep] at hr
  subst hr
  have hlen : ds.length = fn.params.size := by
    have : ∀ {ts : List TypeId} {vs : List Value} {ds : List (DataW H)} {p : List MemPlace}, DataW.TrodAll enc P W 0 (fun _ => true) true ts vs ds p → ds.length = ts.length := fun {ts} => by
      induction ts with
      | nil => intro vs ds p h; cases vs <;> cases ds <;> first | rfl | exact h.elim
      | cons t ts ih =>
        intro vs ds p h
        cases vs with
        | nil => exact h.elim
        | cons v vs =>
          cases ds with
          | nil => exact h.elim
          | cons d ds =>
            obtain ⟨p1, q, _, h2, _⟩ := h
            simp [ih h2]
    rw [this hA]
    simp
  have hfn := hs ds hlen
  refine ⟨_, rfl, ds, [], p ++ [], [], p, [], hW', ?_, ?_, ?_, hb.frame _, fun e => by cases e⟩
  · rw [List.append_nil, hfn, hres]
    refine ⟨[], [], ⟨1, ?_⟩, ?_, rfl⟩
    · simp [DataW.trod, Value.cells, htb]
    · rfl
  · rw [List.append_nil, hfn]
    exact trodAll_below hl hb hA (fun t ht => (hp t ht).2) (fun x hx => hlt x (by simpa using hx))
  · rw [List.append_nil, hfn, hvars]
    rfl
end
end Go.AM
end

section
/-
What an iterator over runs yields: definitions, and what is kept of a state across a round.
-/
namespace Go.AM
open Go Go.RowKit

section
variable {C : Cx} {D : List Deferred} {outs : List (List Value)} {st : St} {a : Act} {w w' : World} {σ : Places}

theorem Sim.kept (h : Sim C D outs st a w σ) (hD : a.defers = D) (hs : w.heap.size ≤ w'.heap.size) (hK : ∀ b, C.F b ∨ (C.B ≤ b ∧ b < w.heap.size) → w'.heap[b]? = w.heap[b]?) :
    Sim ⟨C.F, C.B, w', fun _ => False, false, fun _ => False⟩ D outs st a w' σ := by
  have hF : ∀ b, b < w.heap.size → (C.B ≤ b ∨ C.F b) → w'.heap[b]? = w.heap[b]? := fun b hb h => hK b (h.elim (fun h => .inr ⟨h, hb⟩) .inl)
  have hok : ∀ t b, okB C w σ t b → okB ⟨C.F, C.B, w', fun _ => False, false, fun _ => False⟩ w' σ t b := fun t b hb => ⟨hb.1, Nat.lt_of_lt_of_le hb.2.1 hs, hb.2.2.1.imp_left fun h => ⟨h.1, fun hh => hh⟩, fun e => by
    rw [hF b hb.2.1 (hb.2.2.1.imp (·.1) (·.2))]; exact hb.2.2.2 e⟩
  have hc : ∀ (t : Bool) (b o : Nat), okB C w σ t b → w'.cell? ⟨b, o, none⟩ = w.cell? ⟨b, o, none⟩ := fun t b o hb => cell_of_heap (hF b hb.2.1 (hb.2.2.1.imp (·.1) (·.2))) o
  refine ⟨RepL.mono hok hc (fun _ => rfl) _ h.slots, RepLL.mono hok hc (fun _ => rfl) h.outer, fun id ob hi => ?_, h.dom, h.inj, fun b hb => ⟨(h.held b hb).1, Nat.lt_of_lt_of_le (h.held b hb).2 hs⟩,
    Below.refl _ _, Nat.le_trans h.base hs, h.old, by rw [hD]; exact Still.refl (fun b hb => hb.elim) fun b hb => hb.elim⟩
  obtain ⟨loc, hl, hrp, hf⟩ := h.objs id ob hi
  exact ⟨loc, hl, hrp.mono hok hc (fun _ => rfl) (fun b e => hF b (h.held b ⟨id, loc, hl, e⟩).2 (.inl (h.held b ⟨id, loc, hl, e⟩).1)), hf⟩

theorem Rep.later {F : Nat → Prop} {w0 w0' : World} {Z Z' : Nat → Prop} {v : V} {c : Value} {mk mk' : Bool} {H H' : Nat → Prop} (h : Rep ⟨F, w.heap.size, w0, Z, mk, H⟩ w (fun _ => none) none v c) (hs : w.heap.size ≤ w'.heap.size) (hK : ∀ b, F b → w'.heap[b]? = w.heap[b]?) :
    Rep ⟨F, w'.heap.size, w0', Z', mk', H'⟩ w' (fun _ => none) none v c := by
  have hF : ∀ t b, okB ⟨F, w.heap.size, w0, Z, mk, H⟩ w (fun _ => none) t b → t = false ∧ F b := fun t b hb => by
    rcases hb.2.2.1 with h1 | h1
    · have h2 : w.heap.size ≤ b := h1.1
      have := hb.2.1
      omega
    · exact h1
  exact Rep.mono (σ := fun _ => none) (σ' := fun _ => none) (fun t b hb => ⟨(fun ⟨_, _, hi, _⟩ => by cases hi), Nat.lt_of_lt_of_le hb.2.1 hs, .inr (hF t b hb), fun e => by rw [(hF t b hb).1] at e; cases e⟩)
    (fun t b o hb => cell_of_heap (hK b (hF t b hb).2) o) (fun _ => rfl) v h

def evVals (E : Env) (fc : FC) : List Oper → St → Option St
  | [], st => some st
  | o :: r, st => match o.guard with
    | none => match zF E fc o st with
      | some v => evVals E fc r (st.put o.dst v)
      | none => none
    | some _ => none

theorem val_ok {P : Program} {E : Env} (hT : TyOk P E) {fc : FC} {o : Oper} {v : V} {ro : Option Nat} {m : Nat} {K : Act → World → Prop} {Q : Exit → Act → World → Prop} (h : Sim C D outs st a w σ) (he : zF E fc o st = some v)
    (hK : ∀ a', a'.defers = a.defers → Sim C D outs (st.put o.dst v) a' w σ → K a' w) : o.wpIn (W ro) m P a w K Q := by
  obtain ⟨c, h1, h2⟩ := evVal_ok hT h he
  refine wpIn_of_ran (fun c e => ?_) (.inl h1) (hK _ (by cases o.dst <;> rfl) (h.put h2))
  unfold zF at he
  rw [e] at he
  cases he

theorem vals_ok {P : Program} {E : Env} (hT : TyOk P E) {fc : FC} {all : Array Oper} {ro : Option Nat} {m : Nat} {Q : Exit → Act → World → Prop} {st' : St} {rest : List Nat}
    (hQ : ∀ a', a'.defers = a.defers → Sim C D outs st' a' w σ → wpOpsIn (W ro) m P all Q rest a' w) :
    ∀ (k : Nat) (ops : List Oper) {st : St} {a1 : Act}, (∀ i o, ops[i]? = some o → all[k + i]? = some o) → a1.defers = a.defers → Sim C D outs st a1 w σ → evVals E fc ops st = some st' →
      wpOpsIn (W ro) m P all Q (List.range' k ops.length ++ rest) a1 w
  | k, [], st, a1, _, hd, h, he => by
    simp only [evVals] at he; cases he
    exact hQ _ hd h
  | k, o :: ops, st, a1, hi, hd, h, he => by
    have hk : all[k]? = some o := hi 0 o rfl
    have hi' : ∀ i o', ops[i]? = some o' → all[k + 1 + i]? = some o' := fun i o' ho => by have := hi (i + 1) o' (by simpa using ho); rw [← this]; congr 1; omega
    simp only [evVals] at he
    rw [List.length_cons, List.range'_succ, List.cons_append]
    simp only [wpOpsIn, hk]
    split at he
    case h_2 => cases he
    rename_i hg
    split at he
    case h_2 => cases he
    rename_i v hv
    rw [if_pos (by unfold Region.wanted; rw [hg])]
    exact val_ok hT h hv fun a' hd' h' => vals_ok hT hQ (k + 1) ops hi' (hd'.trans hd) h' he

theorem region_vals {P : Program} {E : Env} (hT : TyOk P E) {fc : FC} {id : Nat} {ops : Array Oper} {ro : Option Nat} {m : Nat} {Q : Exit → Act → World → Prop} {st' : St} (h : Sim C D outs st a w σ) (he : evVals E fc ops.toList st = some st')
    (hQ : ∀ a', a'.defers = a.defers → Sim C D outs st' a' w σ → Q .normal a' w) : (Code.region id ops false).wpIn (W ro) m P Q a w := by
  have := vals_ok (m := m) (ro := ro) (all := ops) (rest := []) hT hQ 0 ops.toList (fun i o ho => by simpa using ho) rfl h he
  rw [Array.length_toList, List.append_nil] at this
  exact wpIn_region (by rw [List.range_eq_range']; exact this)

theorem Sim.empty (h : Sim C D outs st a w σ) (ho : st.objs = []) : ∀ b, ¬ Held σ b := fun b ⟨id, loc, hi, hb⟩ => by
  rw [h.dom id (by rw [ho]; rfl)] at hi
  cases hi

theorem RepL.undefs {mo : Option Bool} : ∀ k, RepL C w σ mo (List.replicate k .und) (List.replicate k undef)
  | 0 => rfl
  | k + 1 => ⟨undef, List.replicate k undef, rfl, rfl, RepL.undefs k⟩


end
end Go.AM
end

section
/-
The lemmas of the simp set, as one.
-/
namespace Go.AM
open Go Go.RowKit

theorem ss : type_of% (And.intro (And.intro (And.intro (And.intro (And.intro (And.intro (And.intro @Option.getD_some.{0}
 @List.cons_append.{0})
 (And.intro @List.nil_append.{0}
 @den_seq))
 (And.intro (And.intro (And.intro @den_region (And.intro @den_regT (And.intro (And.intro @regG_no @regG_yes) @regL_no)))
 (And.intro @den_block @den_scope))
 (And.intro @den_skip
 (And.intro @den_ret
 @den_exit))))
 (And.intro (And.intro (And.intro @List.getD_cons_zero.{0}
 @List.getD_cons_succ.{0})
 (And.intro @Bool.false_eq_true
 (And.intro @if_false.{0}
 @List.contains_nil.{0})))
 (And.intro (And.intro @Bool.false_and
 @normally_some)
 (And.intro @andThen_normal
 (And.intro @andThen_exit
 @andThen_ret)))))
 (And.intro (And.intro (And.intro (And.intro @atBlock_normal
 @atBlock_exit)
 (And.intro @atBlock_ret
 @after_normal))
 (And.intro (And.intro @after_exit
 @after_ret)
 (And.intro @outOfCall_some
 (And.intro @atEnd_normal
 @atEnd_ret))))
 (And.intro (And.intro (And.intro @allM_nil
 @allM_cons)
 (And.intro @resolve_int
 (And.intro @resolve_bool
 @resolve_lit)))
 (And.intro (And.intro @resolve_sl
 @resolve_fp)
 (And.intro @resolve_emp
 (And.intro @resolve_agg
 @resolve_tup))))))
 (And.intro (And.intro (And.intro (And.intro (And.intro @resolve_clo
 (And.intro @resolve_own @resolve_pre))
 (And.intro @Option.map_some.{0, 0}
 @Option.map_none.{0, 0}))
 (And.intro (And.intro @List.length_cons.{0}
 @List.length_nil.{0})
 (And.intro @List.length_map.{0, 0}
 (And.intro @List.contains_cons.{0}
 @Bool.or_false))))
 (And.intro (And.intro (And.intro @Bool.false_or
 @Bool.or_true)
 (And.intro @Bool.true_or
 (And.intro @beq_self_eq_true.{0}
 @List.map_cons.{0, 0})))
 (And.intro (And.intro @List.map_nil.{0, 0}
 @List.filter_cons.{0})
 (And.intro @List.filter_nil.{0}
 (And.intro @List.flatMap_cons.{0, 0}
 @List.flatMap_nil.{0, 0})))))
 (And.intro (And.intro (And.intro (And.intro @Bool.not_true
 @Bool.not_false)
 (And.intro @and_self
 @and_true))
 (And.intro (And.intro @true_and
 @List.getElem?_cons_zero.{0})
 (And.intro @List.getElem?_cons_succ.{0}
 (And.intro @List.getElem?_nil.{0}
 @List.drop_succ_cons.{0}))))
 (And.intro (And.intro (And.intro @List.drop_zero.{0}
 @List.take_succ_cons.{0})
 (And.intro @List.take_zero.{0}
 (And.intro @List.drop_nil.{0}
 @List.take_nil.{0})))
 (And.intro (And.intro @List.append_nil.{0}
 @Nat.le_refl)
 (And.intro @Option.getD_none.{0}
 (And.intro @Bool.and_true
 @Bool.true_and)))))))
 (And.intro (And.intro (And.intro (And.intro (And.intro (And.intro @Bool.and_false
 @Bool.and_self)
 (And.intro @Nat.lt_irrefl
 @Nat.zero_add))
 (And.intro (And.intro @List.contains_append.{0}
 @Option.bind_none.{0, 0})
 (And.intro @Option.bind_some.{0, 0}
 (And.intro @Bool.and_eq_true
 @decide_true))))
 (And.intro (And.intro (And.intro @decide_false
 @Bool.not_eq_true')
 (And.intro @List.take_length.{0}
 (And.intro @List.range_succ
 @List.range_zero)))
 (And.intro (And.intro @Option.some.injEq.{0}
 @ne_eq.{0})
 (And.intro @not_false_eq_true
 (And.intro @not_true_eq_false
 @List.all_cons.{0})))))
 (And.intro (And.intro (And.intro (And.intro @List.all_nil.{0}
 @List.getElem?_toArray.{0})
 (And.intro @beqT
 @beqF))
 (And.intro (And.intro @Bool.cond_true.{0}
 @Bool.cond_false.{0})
 (And.intro @or_self
 (And.intro @true_or
 @or_true))))
 (And.intro (And.intro (And.intro @or_false
 @false_or)
 (And.intro @ask_true
 (And.intro @ask_false
 @pickV_true)))
 (And.intro (And.intro @pickV_false
 @resolve_ptr)
 (And.intro @evOpsD_nil
 (And.intro @evOpsD_cons
 @evRegion_calm))))))
 (And.intro (And.intro (And.intro (And.intro (And.intro @opsG_true
 @opsG_false)
 (And.intro @thenOps_some
 @condB_true))
 (And.intro (And.intro @condB_false
 @condG_bool)
 (And.intro @den_condG
 (And.intro @den_loopAt
 @evED_nil))))
 (And.intro (And.intro (And.intro @evED_cons
 @effG_true)
 (And.intro @effG_false
 (And.intro @thenEff_some
 @den_range)))
 (And.intro (And.intro @den_label
 @afterA_normal)
 (And.intro @afterR_normal
 (And.intro @afterR_exit
 @afterR_ret)))))
 (And.intro (And.intro (And.intro (And.intro @popped_some
 (And.intro @evAppend_eq (And.intro (And.intro (And.intro @evApp_emp @evApp_own) (And.intro @evApp_full @evApp_pre)) (And.intro (And.intro (And.intro @evSlice_emp @evSlice_sl) (And.intro @evSlice_full @evSlice_own)) (And.intro @evSlice_pre (And.intro @preV_no @preV_yes))))))
 (And.intro @appG0_some
 (And.intro (And.intro @appG1_some (And.intro (And.intro @appGF_some @appGF_none) (And.intro (And.intro @fullEnd_emp @fullEnd_own) (And.intro @fullEnd_nil (And.intro @fullEnd_cons @eq_self.{1})))))
 @appG2_some)))
 (And.intro (And.intro @refFree_vI
 @isNew_vI)
 (And.intro @plain_vI
 (And.intro @sized_vI
 @ite_min))))
 (And.intro (And.intro (And.intro @ite_max
 @tidy_mk)
 (And.intro @List.headD_cons.{0}
 (And.intro @evCall_clo
 @lendG_some)))
 (And.intro (And.intro @callG_some
 (And.intro @inlG_some (And.intro (And.intro @frameG_no @frameG_yes) (And.intro @freshG_no @freshG_yes))))
 (And.intro @take_map_length
 (And.intro @Int.natCast_zero
 @List.isEmpty_nil.{0})))))))) :=
(And.intro (And.intro (And.intro (And.intro (And.intro (And.intro (And.intro @Option.getD_some.{0}
 @List.cons_append.{0})
 (And.intro @List.nil_append.{0}
 @den_seq))
 (And.intro (And.intro (And.intro @den_region (And.intro @den_regT (And.intro (And.intro @regG_no @regG_yes) @regL_no)))
 (And.intro @den_block @den_scope))
 (And.intro @den_skip
 (And.intro @den_ret
 @den_exit))))
 (And.intro (And.intro (And.intro @List.getD_cons_zero.{0}
 @List.getD_cons_succ.{0})
 (And.intro @Bool.false_eq_true
 (And.intro @if_false.{0}
 @List.contains_nil.{0})))
 (And.intro (And.intro @Bool.false_and
 @normally_some)
 (And.intro @andThen_normal
 (And.intro @andThen_exit
 @andThen_ret)))))
 (And.intro (And.intro (And.intro (And.intro @atBlock_normal
 @atBlock_exit)
 (And.intro @atBlock_ret
 @after_normal))
 (And.intro (And.intro @after_exit
 @after_ret)
 (And.intro @outOfCall_some
 (And.intro @atEnd_normal
 @atEnd_ret))))
 (And.intro (And.intro (And.intro @allM_nil
 @allM_cons)
 (And.intro @resolve_int
 (And.intro @resolve_bool
 @resolve_lit)))
 (And.intro (And.intro @resolve_sl
 @resolve_fp)
 (And.intro @resolve_emp
 (And.intro @resolve_agg
 @resolve_tup))))))
 (And.intro (And.intro (And.intro (And.intro (And.intro @resolve_clo
 (And.intro @resolve_own @resolve_pre))
 (And.intro @Option.map_some.{0, 0}
 @Option.map_none.{0, 0}))
 (And.intro (And.intro @List.length_cons.{0}
 @List.length_nil.{0})
 (And.intro @List.length_map.{0, 0}
 (And.intro @List.contains_cons.{0}
 @Bool.or_false))))
 (And.intro (And.intro (And.intro @Bool.false_or
 @Bool.or_true)
 (And.intro @Bool.true_or
 (And.intro @beq_self_eq_true.{0}
 @List.map_cons.{0, 0})))
 (And.intro (And.intro @List.map_nil.{0, 0}
 @List.filter_cons.{0})
 (And.intro @List.filter_nil.{0}
 (And.intro @List.flatMap_cons.{0, 0}
 @List.flatMap_nil.{0, 0})))))
 (And.intro (And.intro (And.intro (And.intro @Bool.not_true
 @Bool.not_false)
 (And.intro @and_self
 @and_true))
 (And.intro (And.intro @true_and
 @List.getElem?_cons_zero.{0})
 (And.intro @List.getElem?_cons_succ.{0}
 (And.intro @List.getElem?_nil.{0}
 @List.drop_succ_cons.{0}))))
 (And.intro (And.intro (And.intro @List.drop_zero.{0}
 @List.take_succ_cons.{0})
 (And.intro @List.take_zero.{0}
 (And.intro @List.drop_nil.{0}
 @List.take_nil.{0})))
 (And.intro (And.intro @List.append_nil.{0}
 @Nat.le_refl)
 (And.intro @Option.getD_none.{0}
 (And.intro @Bool.and_true
 @Bool.true_and)))))))
 (And.intro (And.intro (And.intro (And.intro (And.intro (And.intro @Bool.and_false
 @Bool.and_self)
 (And.intro @Nat.lt_irrefl
 @Nat.zero_add))
 (And.intro (And.intro @List.contains_append.{0}
 @Option.bind_none.{0, 0})
 (And.intro @Option.bind_some.{0, 0}
 (And.intro @Bool.and_eq_true
 @decide_true))))
 (And.intro (And.intro (And.intro @decide_false
 @Bool.not_eq_true')
 (And.intro @List.take_length.{0}
 (And.intro @List.range_succ
 @List.range_zero)))
 (And.intro (And.intro @Option.some.injEq.{0}
 @ne_eq.{0})
 (And.intro @not_false_eq_true
 (And.intro @not_true_eq_false
 @List.all_cons.{0})))))
 (And.intro (And.intro (And.intro (And.intro @List.all_nil.{0}
 @List.getElem?_toArray.{0})
 (And.intro @beqT
 @beqF))
 (And.intro (And.intro @Bool.cond_true.{0}
 @Bool.cond_false.{0})
 (And.intro @or_self
 (And.intro @true_or
 @or_true))))
 (And.intro (And.intro (And.intro @or_false
 @false_or)
 (And.intro @ask_true
 (And.intro @ask_false
 @pickV_true)))
 (And.intro (And.intro @pickV_false
 @resolve_ptr)
 (And.intro @evOpsD_nil
 (And.intro @evOpsD_cons
 @evRegion_calm))))))
 (And.intro (And.intro (And.intro (And.intro (And.intro @opsG_true
 @opsG_false)
 (And.intro @thenOps_some
 @condB_true))
 (And.intro (And.intro @condB_false
 @condG_bool)
 (And.intro @den_condG
 (And.intro @den_loopAt
 @evED_nil))))
 (And.intro (And.intro (And.intro @evED_cons
 @effG_true)
 (And.intro @effG_false
 (And.intro @thenEff_some
 @den_range)))
 (And.intro (And.intro @den_label
 @afterA_normal)
 (And.intro @afterR_normal
 (And.intro @afterR_exit
 @afterR_ret)))))
 (And.intro (And.intro (And.intro (And.intro @popped_some
 (And.intro @evAppend_eq (And.intro (And.intro (And.intro @evApp_emp @evApp_own) (And.intro @evApp_full @evApp_pre)) (And.intro (And.intro (And.intro @evSlice_emp @evSlice_sl) (And.intro @evSlice_full @evSlice_own)) (And.intro @evSlice_pre (And.intro @preV_no @preV_yes))))))
 (And.intro @appG0_some
 (And.intro (And.intro @appG1_some (And.intro (And.intro @appGF_some @appGF_none) (And.intro (And.intro @fullEnd_emp @fullEnd_own) (And.intro @fullEnd_nil (And.intro @fullEnd_cons @eq_self.{1})))))
 @appG2_some)))
 (And.intro (And.intro @refFree_vI
 @isNew_vI)
 (And.intro @plain_vI
 (And.intro @sized_vI
 @ite_min))))
 (And.intro (And.intro (And.intro @ite_max
 @tidy_mk)
 (And.intro @List.headD_cons.{0}
 (And.intro @evCall_clo
 @lendG_some)))
 (And.intro (And.intro @callG_some
 (And.intro @inlG_some (And.intro (And.intro @frameG_no @frameG_yes) (And.intro @freshG_no @freshG_yes))))
 (And.intro @take_map_length
 (And.intro @Int.natCast_zero
 @List.isEmpty_nil.{0}))))))))

end Go.AM
end

section
/- The equations of the machine's parts, bundled: one name for the simp set. No condition. -/
namespace Go.AM

theorem sd : type_of% (And.intro (And.intro (And.intro (And.intro (And.intro (And.intro (And.intro @List.replicate.eq_1.{0}
 (And.intro @List.replicate.eq_2.{0}
 @Go.AM.St.eval.eq_1))
 (And.intro (And.intro @Go.AM.St.eval.eq_2
 @Go.AM.St.eval.eq_3)
 (And.intro @Go.AM.St.eval.eq_4
 @Go.AM.St.put.eq_1)))
 (And.intro (And.intro (And.intro @Go.AM.St.put.eq_2
 @Go.AM.constV.eq_1)
 (And.intro @Go.AM.constV.eq_2
 @Go.AM.constV.eq_3))
 (And.intro (And.intro @Go.AM.constV.eq_4
 @Go.AM.constV.eq_5)
 (And.intro @Go.AM.constV.eq_6
 @Go.AM.constV.eq_7))))
 (And.intro (And.intro (And.intro (And.intro @Go.AM.constV.eq_8
 @Go.AM.constV.eq_9)
 (And.intro @List.set.eq_1.{0}
 @List.set.eq_2.{0}))
 (And.intro (And.intro @List.set.eq_3.{0}
 @Go.AM.lenV.eq_1)
 (And.intro @Go.AM.lenV.eq_2
 @Go.AM.lenV.eq_3)))
 (And.intro (And.intro (And.intro @Go.AM.lenV.eq_4
 @Go.AM.lenV.eq_5)
 (And.intro @Go.AM.xR.eq_1
 @Go.AM.xR.eq_2))
 (And.intro (And.intro @Go.AM.xR.eq_3
 @Go.AM.xR.eq_4)
 (And.intro @Go.AM.xR.eq_5
 @Go.AM.xR.eq_6)))))
 (And.intro (And.intro (And.intro (And.intro (And.intro @Go.AM.xR.eq_7
 @Go.AM.xQ.eq_1)
 (And.intro @Go.AM.xQ.eq_2
 @Go.AM.xY.eq_1))
 (And.intro (And.intro @Go.AM.xY.eq_2
 @Go.AM.xY.eq_3)
 (And.intro @Go.AM.xY.eq_4
 @Go.AM.xY.eq_5)))
 (And.intro (And.intro (And.intro @Go.AM.xY.eq_6
 @Go.AM.xY.eq_7)
 (And.intro @Go.AM.xY.eq_8
 @Go.AM.xY.eq_9))
 (And.intro (And.intro @Go.AM.xY.eq_10
 @Go.AM.xY.eq_11)
 (And.intro @Go.AM.xY.eq_12
 @Go.AM.xY.eq_13))))
 (And.intro (And.intro (And.intro (And.intro @Go.AM.xY.eq_14
 @Go.AM.xY.eq_15)
 (And.intro @Go.AM.xY.eq_16
 @Go.AM.xY.eq_17))
 (And.intro (And.intro @Go.AM.xY.eq_18
 @Go.AM.zP.eq_1)
 (And.intro @Go.AM.zP.eq_2
 @Go.AM.zP.eq_3)))
 (And.intro (And.intro (And.intro @Go.AM.zM.eq_1
 @Go.AM.zM.eq_2)
 (And.intro @Go.AM.zM.eq_3
 @Go.AM.zO.eq_1))
 (And.intro (And.intro @Go.AM.zO.eq_2
 @Go.AM.killL.eq_1)
 (And.intro @Go.AM.killL.eq_2
 @Go.AM.kill.eq_1))))))
 (And.intro (And.intro (And.intro (And.intro (And.intro @Go.AM.kill.eq_2
 (And.intro @Go.AM.kill.eq_3
 @Go.AM.kill.eq_4))
 (And.intro (And.intro @Go.AM.kill.eq_5
 @Go.AM.kill.eq_6)
 (And.intro @Go.AM.kill.eq_7
 @Go.AM.kill.eq_8)))
 (And.intro (And.intro (And.intro @Go.AM.xV.eq_1
 @Go.AM.xV.eq_2)
 (And.intro @Go.AM.xW.eq_1
 @Go.AM.xW.eq_2))
 (And.intro (And.intro @Go.AM.upd.eq_1
 @Go.AM.upd.eq_2)
 (And.intro @Go.AM.cells?.eq_1
 @Go.AM.cells?.eq_2))))
 (And.intro (And.intro (And.intro (And.intro @Go.AM.cells?.eq_3
 @Go.AM.cells?.eq_4)
 (And.intro @Go.AM.cells?.eq_5
 @Go.AM.retag.eq_1))
 (And.intro (And.intro @Go.AM.retag.eq_2
 @Go.AM.retag.eq_3)
 (And.intro @Go.AM.retag.eq_4
 @Go.AM.retag.eq_5)))
 (And.intro (And.intro (And.intro @Go.AM.retag.eq_6
 @Go.AM.retag.eq_7)
 (And.intro @Go.AM.xU.eq_1
 @Go.AM.xU.eq_2))
 (And.intro (And.intro @Go.AM.putIn.eq_1
 @Go.AM.putIn.eq_2)
 (And.intro @Go.AM.refFree.eq_1
 @Go.AM.refFree.eq_2)))))
 (And.intro (And.intro (And.intro (And.intro (And.intro @Go.AM.refFree.eq_3
 @Go.AM.refFree.eq_4)
 (And.intro @Go.AM.refFree.eq_5
 @Go.AM.refFree.eq_6))
 (And.intro (And.intro @Go.AM.refFree.eq_7
 @Go.AM.refFree.eq_8)
 (And.intro @Go.AM.xS.eq_1
 @Go.AM.xS.eq_2)))
 (And.intro (And.intro (And.intro @Go.AM.isNew.eq_1
 @Go.AM.isNew.eq_2)
 (And.intro @Go.AM.isNew.eq_3
 @Go.AM.isNew.eq_4))
 (And.intro (And.intro @Go.AM.isNew.eq_5
 @Go.AM.isNew.eq_6)
 (And.intro @Go.AM.isNew.eq_7
 @Go.AM.xT.eq_1))))
 (And.intro (And.intro (And.intro (And.intro @Go.AM.xT.eq_2
 @Go.AM.Ty.isAgg.eq_1)
 (And.intro @Go.AM.Ty.isAgg.eq_2
 @Go.AM.Ty.isAgg.eq_3))
 (And.intro (And.intro @Go.AM.idsL.eq_1
 @Go.AM.idsL.eq_2)
 (And.intro @Go.AM.ids.eq_1
 @Go.AM.ids.eq_2)))
 (And.intro (And.intro (And.intro @Go.AM.ids.eq_3
 @Go.AM.ids.eq_4)
 (And.intro @Go.AM.ids.eq_5
 @Go.AM.ids.eq_6))
 (And.intro (And.intro @Go.AM.ids.eq_7
 @Go.AM.ids.eq_8)
 (And.intro @Go.AM.idsLL.eq_1
 @Go.AM.idsLL.eq_2)))))))
 (And.intro (And.intro (And.intro (And.intro (And.intro (And.intro @Go.AM.reach.eq_1
 (And.intro @Go.AM.reach.eq_2
 @Go.AM.St.dropL.eq_1))
 (And.intro (And.intro @Go.AM.St.dropL.eq_2
 @Go.AM.resultV.eq_1)
 (And.intro @Go.AM.resultV.eq_2
 @Go.AM.zW.eq_1)))
 (And.intro (And.intro (And.intro @Go.AM.zW.eq_2
 @Go.AM.zX.eq_1)
 (And.intro @Go.AM.zX.eq_2
 @Go.AM.Eff.ap.eq_1))
 (And.intro (And.intro @Go.AM.Eff.ap.eq_2
 @Go.AM.Eff.ap.eq_3)
 (And.intro @Go.AM.xX.eq_1
 @Go.AM.xX.eq_2))))
 (And.intro (And.intro (And.intro (And.intro @Go.AM.onto.eq_1
 @Go.AM.onto.eq_2)
 (And.intro @Go.AM.onto.eq_3
 @Go.AM.onto.eq_4))
 (And.intro (And.intro @Go.AM.dropO.eq_1
 @Go.AM.dropO.eq_2)
 (And.intro @Go.AM.xB.eq_1
 @Go.AM.xB.eq_2)))
 (And.intro (And.intro (And.intro @Go.AM.xB.eq_3
 @Go.AM.xB.eq_4)
 (And.intro @Go.AM.xB.eq_5
 @Go.AM.xB.eq_6))
 (And.intro (And.intro @Go.AM.sized.eq_1
 @Go.AM.sized.eq_2)
 (And.intro @Go.AM.zQ.eq_1
 @Go.AM.zQ.eq_2)))))
 (And.intro (And.intro (And.intro (And.intro (And.intro @Go.AM.zQ.eq_3
 @Go.AM.eqT.eq_1)
 (And.intro @Go.AM.eqT.eq_2
 @Go.AM.eqG.eq_1))
 (And.intro (And.intro @Go.AM.eqG.eq_2
 @Go.AM.minV.eq_1)
 (And.intro @Go.AM.minV.eq_2
 @Go.AM.minV.eq_3)))
 (And.intro (And.intro (And.intro @Go.AM.evUn.eq_1
 @Go.AM.evUn.eq_2)
 (And.intro @Go.AM.evUn.eq_3
 @Go.AM.evUn.eq_4))
 (And.intro (And.intro @Go.AM.zR.eq_1
 @Go.AM.zR.eq_2)
 (And.intro @Go.AM.zS.eq_1
 @Go.AM.zS.eq_2))))
 (And.intro (And.intro (And.intro (And.intro @Go.AM.zS.eq_3
 @Go.AM.zT.eq_1)
 (And.intro @Go.AM.zT.eq_2
 @Go.AM.upO.eq_1))
 (And.intro (And.intro @Go.AM.upO.eq_2
 @Go.AM.upO.eq_3)
 (And.intro @Go.AM.optInt.eq_1
 @Go.AM.optInt.eq_2)))
 (And.intro (And.intro (And.intro @Go.AM.xD.eq_1
 @Go.AM.xD.eq_2)
 (And.intro @Go.AM.xE.eq_1
 @Go.AM.xE.eq_2))
 (And.intro (And.intro @Go.AM.xE.eq_3
 @Go.AM.del.eq_1)
 (And.intro @Go.AM.del.eq_2
 @Go.AM.xC.eq_1))))))
 (And.intro (And.intro (And.intro (And.intro (And.intro @Go.AM.xC.eq_2
 (And.intro @Go.AM.plain.eq_1
 @Go.AM.plain.eq_2))
 (And.intro (And.intro @Go.AM.plain.eq_3
 @Go.AM.plain.eq_4)
 (And.intro @Go.AM.plain.eq_5
 @Go.AM.plain.eq_6)))
 (And.intro (And.intro (And.intro @Go.AM.plain.eq_7
 @Go.AM.plainL.eq_1)
 (And.intro @Go.AM.plainL.eq_2
 @Go.AM.zZ.eq_1))
 (And.intro (And.intro @Go.AM.zZ.eq_2
 @Go.AM.xA.eq_1)
 (And.intro @Go.AM.xA.eq_2
 @Go.AM.zU.eq_1))))
 (And.intro (And.intro (And.intro (And.intro @Go.AM.zU.eq_2
 @Go.AM.zV.eq_1)
 (And.intro @Go.AM.zV.eq_2
 @Go.AM.zY.eq_1))
 (And.intro (And.intro @Go.AM.zY.eq_2
 @Go.AM.xZ.eq_1)
 (And.intro @Go.AM.xZ.eq_2
 @Go.AM.xZ.eq_3)))
 (And.intro (And.intro (And.intro @Go.AM.xF.eq_1
 @Go.AM.xF.eq_2)
 (And.intro @Go.AM.xG.eq_1
 @Go.AM.xG.eq_2))
 (And.intro (And.intro @Go.AM.xH.eq_1
 @Go.AM.xH.eq_2)
 (And.intro @Go.AM.xI.eq_1
 @Go.AM.xI.eq_2)))))
 (And.intro (And.intro (And.intro (And.intro (And.intro @Go.AM.xI.eq_3
 @Go.AM.xI.eq_4)
 (And.intro @Go.AM.xJ.eq_1
 @Go.AM.xJ.eq_2))
 (And.intro (And.intro @Go.AM.xJ.eq_3
 @Go.AM.xJ.eq_4)
 (And.intro @Go.AM.xL.eq_1
 @Go.AM.xL.eq_2)))
 (And.intro (And.intro (And.intro @Go.AM.xM.eq_1
 @Go.AM.xM.eq_2)
 (And.intro @Go.AM.xN.eq_1
 @Go.AM.xN.eq_2))
 (And.intro (And.intro @Go.AM.xO.eq_1
 @Go.AM.xO.eq_2)
 (And.intro @Go.AM.xO.eq_3
 @Go.AM.xO.eq_4))))
 (And.intro (And.intro (And.intro (And.intro @Go.AM.xO.eq_5
 @Go.AM.xO.eq_6)
 (And.intro @Go.AM.xO.eq_7
 @Go.AM.xP.eq_1))
 (And.intro (And.intro @Go.AM.xP.eq_2
 @Go.AM.qO.eq_1)
 (And.intro @Go.AM.qO.eq_2
 @Go.AM.qN.eq_1)))
 (And.intro (And.intro (And.intro @Go.AM.qN.eq_2
 @Go.AM.qS.eq_1)
 (And.intro @Go.AM.qS.eq_2
 @Go.AM.qC.eq_1))
 (And.intro (And.intro @Go.AM.qC.eq_2
 @Go.AM.qT.eq_1)
 (And.intro @Go.AM.qT.eq_2
 @Go.AM.qT.eq_3)))))))) :=
(And.intro (And.intro (And.intro (And.intro (And.intro (And.intro (And.intro @List.replicate.eq_1.{0}
 (And.intro @List.replicate.eq_2.{0}
 @Go.AM.St.eval.eq_1))
 (And.intro (And.intro @Go.AM.St.eval.eq_2
 @Go.AM.St.eval.eq_3)
 (And.intro @Go.AM.St.eval.eq_4
 @Go.AM.St.put.eq_1)))
 (And.intro (And.intro (And.intro @Go.AM.St.put.eq_2
 @Go.AM.constV.eq_1)
 (And.intro @Go.AM.constV.eq_2
 @Go.AM.constV.eq_3))
 (And.intro (And.intro @Go.AM.constV.eq_4
 @Go.AM.constV.eq_5)
 (And.intro @Go.AM.constV.eq_6
 @Go.AM.constV.eq_7))))
 (And.intro (And.intro (And.intro (And.intro @Go.AM.constV.eq_8
 @Go.AM.constV.eq_9)
 (And.intro @List.set.eq_1.{0}
 @List.set.eq_2.{0}))
 (And.intro (And.intro @List.set.eq_3.{0}
 @Go.AM.lenV.eq_1)
 (And.intro @Go.AM.lenV.eq_2
 @Go.AM.lenV.eq_3)))
 (And.intro (And.intro (And.intro @Go.AM.lenV.eq_4
 @Go.AM.lenV.eq_5)
 (And.intro @Go.AM.xR.eq_1
 @Go.AM.xR.eq_2))
 (And.intro (And.intro @Go.AM.xR.eq_3
 @Go.AM.xR.eq_4)
 (And.intro @Go.AM.xR.eq_5
 @Go.AM.xR.eq_6)))))
 (And.intro (And.intro (And.intro (And.intro (And.intro @Go.AM.xR.eq_7
 @Go.AM.xQ.eq_1)
 (And.intro @Go.AM.xQ.eq_2
 @Go.AM.xY.eq_1))
 (And.intro (And.intro @Go.AM.xY.eq_2
 @Go.AM.xY.eq_3)
 (And.intro @Go.AM.xY.eq_4
 @Go.AM.xY.eq_5)))
 (And.intro (And.intro (And.intro @Go.AM.xY.eq_6
 @Go.AM.xY.eq_7)
 (And.intro @Go.AM.xY.eq_8
 @Go.AM.xY.eq_9))
 (And.intro (And.intro @Go.AM.xY.eq_10
 @Go.AM.xY.eq_11)
 (And.intro @Go.AM.xY.eq_12
 @Go.AM.xY.eq_13))))
 (And.intro (And.intro (And.intro (And.intro @Go.AM.xY.eq_14
 @Go.AM.xY.eq_15)
 (And.intro @Go.AM.xY.eq_16
 @Go.AM.xY.eq_17))
 (And.intro (And.intro @Go.AM.xY.eq_18
 @Go.AM.zP.eq_1)
 (And.intro @Go.AM.zP.eq_2
 @Go.AM.zP.eq_3)))
 (And.intro (And.intro (And.intro @Go.AM.zM.eq_1
 @Go.AM.zM.eq_2)
 (And.intro @Go.AM.zM.eq_3
 @Go.AM.zO.eq_1))
 (And.intro (And.intro @Go.AM.zO.eq_2
 @Go.AM.killL.eq_1)
 (And.intro @Go.AM.killL.eq_2
 @Go.AM.kill.eq_1))))))
 (And.intro (And.intro (And.intro (And.intro (And.intro @Go.AM.kill.eq_2
 (And.intro @Go.AM.kill.eq_3
 @Go.AM.kill.eq_4))
 (And.intro (And.intro @Go.AM.kill.eq_5
 @Go.AM.kill.eq_6)
 (And.intro @Go.AM.kill.eq_7
 @Go.AM.kill.eq_8)))
 (And.intro (And.intro (And.intro @Go.AM.xV.eq_1
 @Go.AM.xV.eq_2)
 (And.intro @Go.AM.xW.eq_1
 @Go.AM.xW.eq_2))
 (And.intro (And.intro @Go.AM.upd.eq_1
 @Go.AM.upd.eq_2)
 (And.intro @Go.AM.cells?.eq_1
 @Go.AM.cells?.eq_2))))
 (And.intro (And.intro (And.intro (And.intro @Go.AM.cells?.eq_3
 @Go.AM.cells?.eq_4)
 (And.intro @Go.AM.cells?.eq_5
 @Go.AM.retag.eq_1))
 (And.intro (And.intro @Go.AM.retag.eq_2
 @Go.AM.retag.eq_3)
 (And.intro @Go.AM.retag.eq_4
 @Go.AM.retag.eq_5)))
 (And.intro (And.intro (And.intro @Go.AM.retag.eq_6
 @Go.AM.retag.eq_7)
 (And.intro @Go.AM.xU.eq_1
 @Go.AM.xU.eq_2))
 (And.intro (And.intro @Go.AM.putIn.eq_1
 @Go.AM.putIn.eq_2)
 (And.intro @Go.AM.refFree.eq_1
 @Go.AM.refFree.eq_2)))))
 (And.intro (And.intro (And.intro (And.intro (And.intro @Go.AM.refFree.eq_3
 @Go.AM.refFree.eq_4)
 (And.intro @Go.AM.refFree.eq_5
 @Go.AM.refFree.eq_6))
 (And.intro (And.intro @Go.AM.refFree.eq_7
 @Go.AM.refFree.eq_8)
 (And.intro @Go.AM.xS.eq_1
 @Go.AM.xS.eq_2)))
 (And.intro (And.intro (And.intro @Go.AM.isNew.eq_1
 @Go.AM.isNew.eq_2)
 (And.intro @Go.AM.isNew.eq_3
 @Go.AM.isNew.eq_4))
 (And.intro (And.intro @Go.AM.isNew.eq_5
 @Go.AM.isNew.eq_6)
 (And.intro @Go.AM.isNew.eq_7
 @Go.AM.xT.eq_1))))
 (And.intro (And.intro (And.intro (And.intro @Go.AM.xT.eq_2
 @Go.AM.Ty.isAgg.eq_1)
 (And.intro @Go.AM.Ty.isAgg.eq_2
 @Go.AM.Ty.isAgg.eq_3))
 (And.intro (And.intro @Go.AM.idsL.eq_1
 @Go.AM.idsL.eq_2)
 (And.intro @Go.AM.ids.eq_1
 @Go.AM.ids.eq_2)))
 (And.intro (And.intro (And.intro @Go.AM.ids.eq_3
 @Go.AM.ids.eq_4)
 (And.intro @Go.AM.ids.eq_5
 @Go.AM.ids.eq_6))
 (And.intro (And.intro @Go.AM.ids.eq_7
 @Go.AM.ids.eq_8)
 (And.intro @Go.AM.idsLL.eq_1
 @Go.AM.idsLL.eq_2)))))))
 (And.intro (And.intro (And.intro (And.intro (And.intro (And.intro @Go.AM.reach.eq_1
 (And.intro @Go.AM.reach.eq_2
 @Go.AM.St.dropL.eq_1))
 (And.intro (And.intro @Go.AM.St.dropL.eq_2
 @Go.AM.resultV.eq_1)
 (And.intro @Go.AM.resultV.eq_2
 @Go.AM.zW.eq_1)))
 (And.intro (And.intro (And.intro @Go.AM.zW.eq_2
 @Go.AM.zX.eq_1)
 (And.intro @Go.AM.zX.eq_2
 @Go.AM.Eff.ap.eq_1))
 (And.intro (And.intro @Go.AM.Eff.ap.eq_2
 @Go.AM.Eff.ap.eq_3)
 (And.intro @Go.AM.xX.eq_1
 @Go.AM.xX.eq_2))))
 (And.intro (And.intro (And.intro (And.intro @Go.AM.onto.eq_1
 @Go.AM.onto.eq_2)
 (And.intro @Go.AM.onto.eq_3
 @Go.AM.onto.eq_4))
 (And.intro (And.intro @Go.AM.dropO.eq_1
 @Go.AM.dropO.eq_2)
 (And.intro @Go.AM.xB.eq_1
 @Go.AM.xB.eq_2)))
 (And.intro (And.intro (And.intro @Go.AM.xB.eq_3
 @Go.AM.xB.eq_4)
 (And.intro @Go.AM.xB.eq_5
 @Go.AM.xB.eq_6))
 (And.intro (And.intro @Go.AM.sized.eq_1
 @Go.AM.sized.eq_2)
 (And.intro @Go.AM.zQ.eq_1
 @Go.AM.zQ.eq_2)))))
 (And.intro (And.intro (And.intro (And.intro (And.intro @Go.AM.zQ.eq_3
 @Go.AM.eqT.eq_1)
 (And.intro @Go.AM.eqT.eq_2
 @Go.AM.eqG.eq_1))
 (And.intro (And.intro @Go.AM.eqG.eq_2
 @Go.AM.minV.eq_1)
 (And.intro @Go.AM.minV.eq_2
 @Go.AM.minV.eq_3)))
 (And.intro (And.intro (And.intro @Go.AM.evUn.eq_1
 @Go.AM.evUn.eq_2)
 (And.intro @Go.AM.evUn.eq_3
 @Go.AM.evUn.eq_4))
 (And.intro (And.intro @Go.AM.zR.eq_1
 @Go.AM.zR.eq_2)
 (And.intro @Go.AM.zS.eq_1
 @Go.AM.zS.eq_2))))
 (And.intro (And.intro (And.intro (And.intro @Go.AM.zS.eq_3
 @Go.AM.zT.eq_1)
 (And.intro @Go.AM.zT.eq_2
 @Go.AM.upO.eq_1))
 (And.intro (And.intro @Go.AM.upO.eq_2
 @Go.AM.upO.eq_3)
 (And.intro @Go.AM.optInt.eq_1
 @Go.AM.optInt.eq_2)))
 (And.intro (And.intro (And.intro @Go.AM.xD.eq_1
 @Go.AM.xD.eq_2)
 (And.intro @Go.AM.xE.eq_1
 @Go.AM.xE.eq_2))
 (And.intro (And.intro @Go.AM.xE.eq_3
 @Go.AM.del.eq_1)
 (And.intro @Go.AM.del.eq_2
 @Go.AM.xC.eq_1))))))
 (And.intro (And.intro (And.intro (And.intro (And.intro @Go.AM.xC.eq_2
 (And.intro @Go.AM.plain.eq_1
 @Go.AM.plain.eq_2))
 (And.intro (And.intro @Go.AM.plain.eq_3
 @Go.AM.plain.eq_4)
 (And.intro @Go.AM.plain.eq_5
 @Go.AM.plain.eq_6)))
 (And.intro (And.intro (And.intro @Go.AM.plain.eq_7
 @Go.AM.plainL.eq_1)
 (And.intro @Go.AM.plainL.eq_2
 @Go.AM.zZ.eq_1))
 (And.intro (And.intro @Go.AM.zZ.eq_2
 @Go.AM.xA.eq_1)
 (And.intro @Go.AM.xA.eq_2
 @Go.AM.zU.eq_1))))
 (And.intro (And.intro (And.intro (And.intro @Go.AM.zU.eq_2
 @Go.AM.zV.eq_1)
 (And.intro @Go.AM.zV.eq_2
 @Go.AM.zY.eq_1))
 (And.intro (And.intro @Go.AM.zY.eq_2
 @Go.AM.xZ.eq_1)
 (And.intro @Go.AM.xZ.eq_2
 @Go.AM.xZ.eq_3)))
 (And.intro (And.intro (And.intro @Go.AM.xF.eq_1
 @Go.AM.xF.eq_2)
 (And.intro @Go.AM.xG.eq_1
 @Go.AM.xG.eq_2))
 (And.intro (And.intro @Go.AM.xH.eq_1
 @Go.AM.xH.eq_2)
 (And.intro @Go.AM.xI.eq_1
 @Go.AM.xI.eq_2)))))
 (And.intro (And.intro (And.intro (And.intro (And.intro @Go.AM.xI.eq_3
 @Go.AM.xI.eq_4)
 (And.intro @Go.AM.xJ.eq_1
 @Go.AM.xJ.eq_2))
 (And.intro (And.intro @Go.AM.xJ.eq_3
 @Go.AM.xJ.eq_4)
 (And.intro @Go.AM.xL.eq_1
 @Go.AM.xL.eq_2)))
 (And.intro (And.intro (And.intro @Go.AM.xM.eq_1
 @Go.AM.xM.eq_2)
 (And.intro @Go.AM.xN.eq_1
 @Go.AM.xN.eq_2))
 (And.intro (And.intro @Go.AM.xO.eq_1
 @Go.AM.xO.eq_2)
 (And.intro @Go.AM.xO.eq_3
 @Go.AM.xO.eq_4))))
 (And.intro (And.intro (And.intro (And.intro @Go.AM.xO.eq_5
 @Go.AM.xO.eq_6)
 (And.intro @Go.AM.xO.eq_7
 @Go.AM.xP.eq_1))
 (And.intro (And.intro @Go.AM.xP.eq_2
 @Go.AM.qO.eq_1)
 (And.intro @Go.AM.qO.eq_2
 @Go.AM.qN.eq_1)))
 (And.intro (And.intro (And.intro @Go.AM.qN.eq_2
 @Go.AM.qS.eq_1)
 (And.intro @Go.AM.qS.eq_2
 @Go.AM.qC.eq_1))
 (And.intro (And.intro @Go.AM.qC.eq_2
 @Go.AM.qT.eq_1)
 (And.intro @Go.AM.qT.eq_2
 @Go.AM.qT.eq_3))))))))

end Go.AM
end

