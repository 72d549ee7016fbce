/-
Rooms: the plain law of their cells.
-/
import Derived.Test.YtejjeckiplihbaaAmNat
set_option linter.unusedSimpArgs false
set_option maxRecDepth 20000

namespace Go.AM.D
open Go Go.AM

structure Rect where
  x : Int
  y : Int
  w : Int
  h : Int
structure Door where
  x1 : Int
  x2 : Int
  y : Int
structure Room where
  rects : List Rect
  doors : List Door
def encRect (r : Rect) : V := .agg [.int .i64 r.x, .int .i64 r.y, .int .i64 r.w, .int .i64 r.h]
def encDoor (d : Door) : V := .agg [.int .i64 d.x1, .int .i64 d.x2, .int .i64 d.y]
def encRoom (r : Room) : V := .agg [.sl false (r.rects.map encRect), .sl false (r.doors.map encDoor)]

def inR (r : Rect) (x y : Int) : Bool := decide (r.x ≤ x) && decide (r.y ≤ y) && decide (x < r.x + r.w) && decide (y < r.y + r.h)
theorem inR_iff {r : Rect} {x y : Int} : inR r x y = true ↔ r.x ≤ x ∧ r.y ≤ y ∧ x < r.x + r.w ∧ y < r.y + r.h := by
  unfold inR; simp only [Bool.and_eq_true, decide_eq_true_eq, and_assoc]

/-- The cells of an array of arrays. -/
def grid (f : Nat → Nat → Bool) : List V := (List.range 3600).map fun i => .bool (f (i / 60) (i % 60))
theorem grid_len (f : Nat → Nat → Bool) : (grid f).length = 3600 := by simp [grid]
theorem grid_get (f : Nat → Nat → Bool) {x y : Nat} (hx : x < 60) (hy : y < 60) : (grid f)[x * 60 + y]? = some (.bool (f x y)) := by
  unfold grid
  rw [List.getElem?_map, List.getElem?_range (by omega)]
  have h1 : (x * 60 + y) / 60 = x := by omega
  have h2 : (x * 60 + y) % 60 = y := by omega
  simp [h1, h2]
theorem grid_congr {f g : Nat → Nat → Bool} (h : ∀ x y, x < 60 → y < 60 → f x y = g x y) : grid f = grid g := by
  unfold grid
  refine List.map_congr_left fun i hi => ?_
  have := List.mem_range.1 hi
  rw [h _ _ (by omega) (by omega)]
def mark (f : Nat → Nat → Bool) (x y : Nat) : Nat → Nat → Bool := fun a b => f a b || (decide (a = x) && decide (b = y))
theorem grid_set (f : Nat → Nat → Bool) {x y : Nat} (hx : x < 60) (hy : y < 60) : splice (grid f) (x * 60 + y) [.bool true] = grid (mark f x y) := by
  have e : splice (grid f) (x * 60 + y) [.bool true] = (grid f).set (x * 60 + y) (.bool true) := by
    unfold splice
    rw [List.set_eq_take_append_cons_drop, if_pos (by rw [grid_len]; omega)]
    simp
  rw [e]
  refine List.ext_getElem? fun i => ?_
  rw [List.getElem?_set]
  split
  · rename_i h
    subst h
    rw [if_pos (by rw [grid_len]; omega), grid_get _ hx hy]
    simp [mark]
  · rename_i h
    unfold grid
    rw [List.getElem?_map, List.getElem?_map]
    by_cases hi : i < 3600
    · rw [List.getElem?_range hi]
      simp only [Option.map_some, mark, Option.some.injEq, V.bool.injEq]
      have : (decide (i / 60 = x) && decide (i % 60 = y)) = false := by
        rw [Bool.and_eq_false_iff]
        by_cases h1 : i / 60 = x
        · right; simp; omega
        · left; simp [h1]
      rw [this, Bool.or_false]
    · rw [List.getElem?_eq_none (by simp; omega)]
      rfl
theorem grid_zero : grid (fun _ _ => false) = List.replicate 3600 (.bool false) := by
  unfold grid
  rw [List.map_const', List.length_range]

/-- The cells of rectangles. -/
def cellM (rs : List Rect) (x y : Int) : Bool := rs.any fun r => inR r x y
def cover (rs : List Rect) (x y : Int) : Nat := rs.countP fun r => inR r x y
theorem cell_cover (rs : List Rect) (x y : Int) : cellM rs x y = decide (0 < cover rs x y) := by
  unfold cellM cover
  rw [Bool.eq_iff_iff]
  simp [List.countP_pos_iff]
def overM (rs : List Rect) : Bool := (List.range 60).any fun (x : Nat) => (List.range 60).any fun (y : Nat) => decide (1 < cover rs x y)
theorem overM_iff {rs : List Rect} : overM rs = true ↔ ∃ x y : Nat, x < 60 ∧ y < 60 ∧ 1 < cover rs x y := by
  unfold overM
  simp only [List.any_eq_true, List.mem_range, decide_eq_true_eq]
  constructor
  · rintro ⟨x, hx, y, hy, h⟩; exact ⟨x, y, hx, hy, h⟩
  · rintro ⟨x, y, hx, hy, h⟩; exact ⟨x, hx, y, hy, h⟩
theorem cover_snoc (rs : List Rect) (r : Rect) (x y : Int) : cover (rs ++ [r]) x y = cover rs x y + if inR r x y = true then 1 else 0 := by
  unfold cover; rw [List.countP_append]; simp [List.countP_cons]
theorem cover_app (rs ps : List Rect) (x y : Int) : cover (rs ++ ps) x y = cover rs x y + cover ps x y := by
  unfold cover; rw [List.countP_append]

def inB (n lo hi : Int) : Bool := decide (lo ≤ n) && decide (n ≤ hi)
theorem inB_iff {n lo hi : Int} : inB n lo hi = true ↔ lo ≤ n ∧ n ≤ hi := by unfold inB; simp

def rectOk (r : Rect) : Bool := inB r.x 0 60 && inB r.y 0 60 && inB r.w 1 (60 - r.x) && inB r.h 1 (60 - r.y)
theorem rectOk_iff {r : Rect} : rectOk r = true ↔ (0 ≤ r.x ∧ r.x ≤ 60) ∧ (0 ≤ r.y ∧ r.y ≤ 60) ∧ (1 ≤ r.w ∧ r.w ≤ 60 - r.x) ∧ (1 ≤ r.h ∧ r.h ≤ 60 - r.y) := by
  unfold rectOk; simp only [Bool.and_eq_true, inB_iff, and_assoc]
def doorOk (d : Door) : Bool := decide (0 ≤ d.x1) && decide (d.x1 < d.x2) && decide (d.x2 ≤ 60) && inB d.y 0 60
theorem doorOk_iff {d : Door} : doorOk d = true ↔ 0 ≤ d.x1 ∧ d.x1 < d.x2 ∧ d.x2 ≤ 60 ∧ 0 ≤ d.y ∧ d.y ≤ 60 := by
  unfold doorOk; simp only [Bool.and_eq_true, inB_iff, decide_eq_true_eq, and_assoc]
def roomE (r : Room) : Int :=
  if inB r.rects.length 1 8 = false then 1 else if r.rects.all rectOk = false then 1 else if overM r.rects = true then 10
  else if 4 < r.doors.length then 4 else if r.doors.all doorOk = false then 1 else 0
theorem roomE_zero {r : Room} (h : roomE r = 0) : (1 ≤ r.rects.length ∧ r.rects.length ≤ 8) ∧ (∀ a ∈ r.rects, rectOk a = true) ∧ overM r.rects = false ∧ r.doors.length ≤ 4 ∧ ∀ d ∈ r.doors, doorOk d = true := by
  unfold roomE at h
  split at h
  · cases h
  split at h
  · cases h
  split at h
  · cases h
  split at h
  · cases h
  split at h
  · cases h
  rename_i h1 h2 h3 h4 h5
  simp only [Bool.not_eq_false] at h1 h2 h5
  have := inB_iff.1 h1
  exact ⟨by omega, List.all_eq_true.1 h2, by simpa using h3, by omega, List.all_eq_true.1 h5⟩
theorem cell_in {rs : List Rect} (h : ∀ a ∈ rs, rectOk a = true) {x y : Int} (hc : cellM rs x y = true) : 0 ≤ x ∧ x < 60 ∧ 0 ≤ y ∧ y < 60 := by
  unfold cellM at hc
  obtain ⟨a, ha, h1⟩ := List.any_eq_true.1 hc
  have h2 := rectOk_iff.1 (h a ha)
  have h3 := inR_iff.1 h1
  omega
end Go.AM.D
