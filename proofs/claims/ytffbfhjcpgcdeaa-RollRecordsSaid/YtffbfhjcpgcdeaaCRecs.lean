/-
The rolls of a cutting.
-/
import Derived.Test.YtffbfhjcpgcdeaaCTopP
import Derived.Test.YtffbfhjcpgcdeaaAmBad
set_option linter.unusedVariables false
set_option linter.unusedSimpArgs false
set_option maxRecDepth 20000

namespace Go.AM.C
open Go Go.Proofs

def pieceL (ms : List Mk) (l : List Art) (p : Int × Int) : List Run := rle ((ms.take (p.1 + lenAt l p.2).toNat).drop p.1.toNat)
def encRec (ms : List Mk) (l : List Art) (ph rp : Int) (p : Int × Int) : V := .agg [.int .i64 p.2, .int .i64 ((ph + p.1).tmod rp), .sl true ((pieceL ms l p).map encRun)]
def badPh (ph rp : Int) : Bool := decide (rp < 1) || (decide (144 < rp) || (decide (ph < 0) || decide (rp ≤ ph)))
def recsV (xs : List Run) (l : List Art) (ps : List (Int × Int)) (ph rp : Int) : V :=
  if accE xs l ps = 0 then (if badPh ph rp = true then .tup [.sl true [], .int .i64 1] else .tup [.sl true (ps.map (encRec (expand xs) l ph rp)), .int .i64 0]) else .tup [.sl true [], .int .i64 (accE xs l ps)]

theorem sized_recs (ms : List Mk) (l : List Art) (ph rp : Int) (ps : List (Int × Int)) : sized 3 (ps.map (encRec ms l ph rp)) = true := sized_map (fun p => ⟨[.int .i64 p.2, .int .i64 ((ph + p.1).tmod rp), .sl true ((pieceL ms l p).map encRun)], rfl, rfl⟩) ps

theorem rec_slice {xs : List Run} {l : List Art} (he : errM xs l = 0) {p : Int × Int} (hf : fitsM (expand xs) l p.1 p.2 = true) : spanM xs p.1 (p.1 + lenAt l p.2) = true ∧ sliceM xs p.1 (p.1 + lenAt l p.2) = (pieceL (expand xs) l p, 0) := by
  obtain ⟨e1, e2, e3⟩ := errM_zero he
  obtain ⟨a, f1, f2, f3, f4, f5, f6, f7, _⟩ := fits_in hf
  have al := ((validA_len e3).2 a (List.mem_of_getElem? f1)).1
  have hs : spanM xs p.1 (p.1 + lenAt l p.2) = true := (span_of e1).2 (by omega)
  exact ⟨hs, slice_rle e1 hs⟩

end Go.AM.C

