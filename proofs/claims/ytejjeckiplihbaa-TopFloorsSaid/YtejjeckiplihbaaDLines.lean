/-
Strips and seams: the plain law.
-/
import Derived.Test.YtejjeckiplihbaaDGrid
set_option linter.unusedSimpArgs false
set_option maxRecDepth 20000

namespace Go.AM.D
open Go Go.AM

structure Strip where
  x : Int
  a : Int
  b : Int
def encStrip (s : Strip) : V := .agg [.int .i64 s.x, .int .i64 s.a, .int .i64 s.b]

/-- The first and the last place of these before n. -/
def scan (p : Nat → Bool) : Nat → Int × Int
  | 0 => (0, 0)
  | n + 1 => if p n = true then (if (scan p n).2 = 0 then (n : Int) else (scan p n).1, (n : Int) + 1) else scan p n
theorem scan_none {p : Nat → Bool} : ∀ {n : Nat}, (∀ y, y < n → p y = false) → scan p n = (0, 0)
  | 0, _ => rfl
  | n + 1, h => by
    unfold scan
    rw [if_neg (by rw [h n (by omega)]; decide)]
    exact scan_none fun y hy => h y (by omega)
theorem scan_in (p : Nat → Bool) : ∀ n : Nat, 0 ≤ (scan p n).1 ∧ (scan p n).1 ≤ (scan p n).2 ∧ (scan p n).2 ≤ n ∧ (0 < (scan p n).2 → (scan p n).1 < (scan p n).2)
  | 0 => by simp [scan]
  | n + 1 => by
    have h := scan_in p n
    unfold scan
    split
    · split <;> simp <;> omega
    · omega
theorem scan_get {p : Nat → Bool} : ∀ {n y : Nat}, y < n → p y = true → (scan p n).1 ≤ y ∧ (y : Int) < (scan p n).2
  | n + 1, y, hy, h => by
    have h1 := scan_in p n
    unfold scan
    by_cases he : y = n
    · subst he
      rw [if_pos h]
      split <;> simp <;> omega
    · have h2 := scan_get (p := p) (n := n) (y := y) (by omega) h
      split
      · rw [if_neg (by omega)]
        simp
        omega
      · exact h2
theorem scan_some {p : Nat → Bool} : ∀ {n : Nat}, 0 < (scan p n).2 → ∃ y, y < n ∧ p y = true
  | n + 1, h => by
    unfold scan at h
    split at h
    · exact ⟨n, by omega, by assumption⟩
    · obtain ⟨y, h1, h2⟩ := scan_some h
      exact ⟨y, by omega, h2⟩
theorem scan_congr {p q : Nat → Bool} : ∀ {n : Nat}, (∀ y, y < n → p y = q y) → scan p n = scan q n
  | 0, _ => rfl
  | n + 1, h => by
    unfold scan
    rw [h n (by omega), scan_congr (n := n) fun y hy => h y (by omega)]

def rowHas (f : Int → Int → Bool) (x w : Int) (y : Nat) : Bool := (List.range w.toNat).any fun (k : Nat) => f (x + k) y
theorem rowHas_iff {f : Int → Int → Bool} {x w : Int} {y : Nat} : rowHas f x w y = true ↔ ∃ c : Int, x ≤ c ∧ c < x + w ∧ f c y = true := by
  unfold rowHas
  simp only [List.any_eq_true, List.mem_range]
  constructor
  · rintro ⟨k, hk, h⟩; exact ⟨x + k, by omega, by omega, h⟩
  · rintro ⟨c, h1, h2, h⟩
    refine ⟨(c - x).toNat, by omega, ?_⟩
    have : x + ((c - x).toNat : Int) = c := by omega
    rw [this]; exact h
def stripM (f : Int → Int → Bool) (x w : Int) : Strip := ⟨x, (scan (rowHas f x w) 60).1, (scan (rowHas f x w) 60).2⟩

/-- The strips from x on. -/
def strF (f : Int → Int → Bool) (w : Int) : Nat → Int → List Strip
  | 0, _ => []
  | n + 1, x => if x < 60 then (if 0 < (stripM f x w).b then stripM f x w :: strF f w n (x + w) else strF f w n (x + w)) else []
def stripsM (f : Int → Int → Bool) (w o : Int) : List Strip := strF f w 82 (o - w)
def strG (f : Int → Int → Bool) (w : Int) : Nat → Int → List Strip
  | 0, _ => []
  | n + 1, x => if 0 < (stripM f x w).b then stripM f x w :: strG f w n (x + w) else strG f w n (x + w)

theorem strG_succ (f : Int → Int → Bool) (w : Int) (n : Nat) (x : Int) : strG f w (n + 1) x = if 0 < (stripM f x w).b then stripM f x w :: strG f w n (x + w) else strG f w n (x + w) := rfl

def Inside (f : Int → Int → Bool) : Prop := ∀ x y, f x y = true → 0 ≤ x ∧ x < 60 ∧ 0 ≤ y ∧ y < 60

theorem strip_none {f : Int → Int → Bool} {x w : Int} (h : ∀ c y, x ≤ c → c < x + w → f c y = false) : (stripM f x w).b = 0 := by
  unfold stripM
  rw [scan_none fun y _ => ?_]
  rw [Bool.eq_false_iff]
  intro hr
  obtain ⟨c, h1, h2, h3⟩ := rowHas_iff.1 hr
  rw [h c y h1 h2] at h3
  cases h3
theorem strip_right {f : Int → Int → Bool} (hf : Inside f) {x w : Int} (hx : 60 ≤ x) : (stripM f x w).b = 0 :=
  strip_none fun c y h1 _ => by
    rw [Bool.eq_false_iff]
    intro h
    have := hf c y h
    omega
theorem strG_right {f : Int → Int → Bool} (hf : Inside f) {w : Int} (hw : 0 ≤ w) : ∀ {n : Nat} {x : Int}, 60 ≤ x → strG f w n x = []
  | 0, _, _ => rfl
  | n + 1, x, hx => by
    unfold strG
    rw [strip_right hf hx, if_neg (by omega)]
    exact strG_right hf hw (by omega)
theorem strF_G {f : Int → Int → Bool} (hf : Inside f) {w : Int} (hw : 0 ≤ w) : ∀ (n : Nat) (x : Int), strF f w n x = strG f w n x
  | 0, _ => rfl
  | n + 1, x => by
    rcases Int.lt_or_le x 60 with h | h
    · unfold strF strG
      rw [if_pos h, strF_G hf hw n]
    · rw [strG_right hf hw h]
      unfold strF
      rw [if_neg (by omega)]
theorem strG_more {f : Int → Int → Bool} (hf : Inside f) {w : Int} (hw : 0 ≤ w) (m : Nat) : ∀ (n : Nat) (x : Int), 60 ≤ x + n * w → strG f w (n + m) x = strG f w n x
  | 0, x, h => by
    rw [strG_right hf hw (by simpa using h)]
    rfl
  | n + 1, x, h => by
    have e : n + 1 + m = (n + m) + 1 := by omega
    rw [e]
    unfold strG
    rw [strG_more hf hw m n (x + w) (by rw [Int.natCast_add, Int.add_mul] at h; omega)]
theorem strG_skip {f : Int → Int → Bool} {w : Int} : ∀ (q n : Nat) (x : Int), (∀ c y, c < x + q * w → f c y = false) → 0 ≤ w → strG f w (q + n) x = strG f w n (x + q * w)
  | 0, n, x, _, _ => by simp
  | q + 1, n, x, h, hw => by
    have e : q + 1 + n = (q + n) + 1 := by omega
    have e2 : x + ((q + 1 : Nat) : Int) * w = x + w + q * w := by rw [Int.natCast_add, Int.add_mul]; omega
    have hq : 0 ≤ (q : Int) * w := Int.mul_nonneg (by omega) hw
    rw [e2] at h ⊢
    rw [e, strG_succ, strip_none fun c y _ h2 => h c y (by omega), if_neg (by omega)]
    exact strG_skip q n (x + w) h hw
def Strip.move (s : Strip) (d : Int) : Strip := ⟨s.x + d, s.a, s.b⟩
theorem strip_move {f g : Int → Int → Bool} {d : Int} (h : ∀ c y, g (c + d) y = f c y) (x w : Int) : stripM g (x + d) w = (stripM f x w).move d := by
  have : ∀ y, rowHas g (x + d) w y = rowHas f x w y := fun y => by
    unfold rowHas
    congr 1
    funext k
    have : x + d + (k : Int) = x + k + d := by omega
    rw [this, h]
  unfold stripM Strip.move
  rw [scan_congr fun y _ => this y]
theorem strG_move {f g : Int → Int → Bool} {d : Int} (h : ∀ c y, g (c + d) y = f c y) (w : Int) : ∀ (n : Nat) (x : Int), strG g w n (x + d) = (strG f w n x).map (·.move d)
  | 0, _ => rfl
  | n + 1, x => by
    unfold strG
    rw [strip_move h]
    have e : x + d + w = x + w + d := by omega
    rw [e, strG_move h w n (x + w)]
    by_cases hb : 0 < (stripM f x w).b
    · rw [if_pos hb, if_pos (show 0 < ((stripM f x w).move d).b from hb)]; rfl
    · rw [if_neg hb, if_neg (show ¬ 0 < ((stripM f x w).move d).b from hb)]

/-- A room that is moved has its strips moved. -/
theorem strips_move {f g : Int → Int → Bool} (hf : Inside f) (hg : Inside g) {d w o : Int} (hd : 0 ≤ d) (hw : 1 ≤ w) (hw2 : w ≤ 20) (ho : 0 ≤ o) (ho2 : o < w) (h : ∀ c y, g (c + d) y = f c y) :
    stripsM g w ((o + d) % w) = (stripsM f w o).map (·.move d) := by
  have h0 := Int.emod_nonneg (o + d) (show w ≠ 0 by omega)
  have h1 := Int.emod_lt_of_pos (o + d) (show 0 < w by omega)
  have h2 := Int.emod_add_mul_ediv (o + d) w
  have hq : 0 ≤ (o + d) / w := Int.ediv_nonneg (by omega) (by omega)
  generalize (o + d) % w = r at *
  obtain ⟨q, hq2⟩ : ∃ q : Nat, (o + d) / w = q := ⟨((o + d) / w).toNat, by omega⟩
  rw [hq2] at h2
  unfold stripsM
  rw [strF_G hg (by omega), strF_G hf (by omega), ← strG_move h]
  have m1 : w * q = (q : Int) * w := Int.mul_comm _ _
  have m2 : (82 : Int) ≤ ((82 : Nat) : Int) * w := by omega
  rw [← strG_more hg (by omega) q 82 (r - w) (by omega), Nat.add_comm 82 q, strG_skip q 82 (r - w) (fun c y hc => ?_) (by omega)]
  · congr 1
    omega
  · rw [Bool.eq_false_iff]
    intro hh
    have := h (c - d) y
    rw [show c - d + d = c by omega, hh] at this
    have := hf _ _ this.symm
    omega

/-- A cell lies in a strip. -/
def lies (w x y : Int) (s : Strip) : Bool := decide (s.x ≤ x) && decide (x < s.x + w) && decide (s.a ≤ y) && decide (y < s.b)
theorem lies_strip {f : Int → Int → Bool} {w c : Int} {y : Nat} (hy : y < 60) (hc : f c y = true) (x : Int) : lies w c y (stripM f x w) = (decide (x ≤ c) && decide (c < x + w)) := by
  unfold lies
  by_cases h : x ≤ c ∧ c < x + w
  · have h1 : rowHas f x w y = true := rowHas_iff.2 ⟨c, h.1, h.2, hc⟩
    have h2 := scan_get (n := 60) hy h1
    have e1 : (stripM f x w).x = x := rfl
    have e2 : (stripM f x w).a ≤ y := h2.1
    have e3 : (y : Int) < (stripM f x w).b := h2.2
    simp [e1, e2, e3, h.1, h.2]
  · have e1 : (stripM f x w).x = x := rfl
    rw [e1]
    have : (decide (x ≤ c) && decide (c < x + w)) = false := by
      rw [Bool.and_eq_false_iff]
      by_cases h1 : x ≤ c
      · right; simp; omega
      · left; simp [h1]
    rw [this]
    rfl
theorem count_strG {f : Int → Int → Bool} {w c : Int} {y : Nat} (hy : y < 60) (hc : f c y = true) (hw : 1 ≤ w) : ∀ (n : Nat) (x : Int), (strG f w n x).countP (lies w c y) = if x ≤ c ∧ c < x + n * w then 1 else 0
  | 0, x => by
    rw [if_neg (by omega)]
    rfl
  | n + 1, x => by
    have ih := count_strG hy hc hw n (x + w)
    have hl := lies_strip (w := w) hy hc x
    have hn : 0 ≤ (n : Int) * w := Int.mul_nonneg (by omega) (by omega)
    have e : x + ((n + 1 : Nat) : Int) * w = x + w + n * w := by rw [Int.natCast_add, Int.add_mul]; omega
    rw [e, strG_succ]
    by_cases hin : x ≤ c ∧ c < x + w
    · have h1 : rowHas f x w y = true := rowHas_iff.2 ⟨c, hin.1, hin.2, hc⟩
      have h2 := scan_get (n := 60) hy h1
      have e3 : 0 < (stripM f x w).b := by show 0 < (scan (rowHas f x w) 60).2; omega
      have e4 : (decide (x ≤ c) && decide (c < x + w)) = true := by simp [hin.1, hin.2]
      have e5 : ¬ (x + w ≤ c ∧ c < x + w + n * w) := by omega
      have e6 : x ≤ c ∧ c < x + w + n * w := by omega
      rw [if_pos e3, List.countP_cons, ih, hl, e4, if_pos rfl, if_neg e5, if_pos e6]
    · have hz : (decide (x ≤ c) && decide (c < x + w)) = false := by
        rw [Bool.and_eq_false_iff]
        by_cases h1 : x ≤ c
        · right; simp; omega
        · left; simp [h1]
      rw [hz] at hl
      have : (if 0 < (stripM f x w).b then stripM f x w :: strG f w n (x + w) else strG f w n (x + w)).countP (lies w c y) = (strG f w n (x + w)).countP (lies w c y) := by
        split
        · rw [List.countP_cons, hl]; simp
        · rfl
      rw [this, ih]
      by_cases h1 : x + w ≤ c ∧ c < x + w + n * w
      · rw [if_pos h1, if_pos (by omega)]
      · rw [if_neg h1, if_neg (by omega)]

def coversM (f : Int → Int → Bool) (w : Int) (l : List Strip) : Bool := (List.range 60).all fun (x : Nat) => (List.range 60).all fun (y : Nat) => !f x y || decide (l.countP (lies w x y) = 1)
/-- The strips of a room cover it. -/
theorem covers_strips {f : Int → Int → Bool} (hf : Inside f) {w o : Int} (hw : 1 ≤ w) (hw2 : w ≤ 20) (ho : 0 ≤ o) (ho2 : o < w) : coversM f w (stripsM f w o) = true := by
  unfold coversM
  simp only [List.all_eq_true, List.mem_range]
  intro x hx y hy
  cases hc : f x y with
  | false => rfl
  | true =>
    unfold stripsM
    rw [strF_G hf (by omega), count_strG hy hc hw, if_pos (by omega)]
    rfl

/-- The seams from x on. -/
def joinsM (f : Int → Int → Bool) (x y : Int) : Bool := f (x - 1) y && f x y
def seamAt (f : Int → Int → Bool) (x : Int) : Bool := (List.range 60).any fun (y : Nat) => joinsM f x y
def seamF (f : Int → Int → Bool) (w : Int) : Nat → Int → List Int
  | 0, _ => []
  | n + 1, x => if x < 60 then (if seamAt f x = true then x :: seamF f w n (x + w) else seamF f w n (x + w)) else []
def seamsM (f : Int → Int → Bool) (w o : Int) : List Int := seamF f w 62 o
def doorHit (f : Int → Int → Bool) (x : Int) (d : Door) : Bool := decide (d.x1 < x) && decide (x < d.x2) && (joinsM f x d.y || joinsM f x (d.y - 1))
def inDoorM (f : Int → Int → Bool) (ds : List Door) (w o : Int) : Bool := (seamsM f w o).any fun x => ds.any (doorHit f x)
def lenM (l : List Strip) : Int := (l.map fun s => s.b - s.a).sum
/-- The best offset of those before k. -/
def bestTo (f : Int → Int → Bool) (ds : List Door) (w : Int) : Nat → Int × Int × Bool
  | 0 => (0, 0, false)
  | k + 1 => if inDoorM f ds w k = true then bestTo f ds w k
    else if (bestTo f ds w k).2.2 = false ∨ lenM (stripsM f w k) < (bestTo f ds w k).2.1 then ((k : Int), lenM (stripsM f w k), true) else bestTo f ds w k
end Go.AM.D
