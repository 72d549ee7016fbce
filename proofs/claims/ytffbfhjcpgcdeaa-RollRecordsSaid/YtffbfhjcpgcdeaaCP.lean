/- A part of the proof: the texts CEnv, CSeq, CBand, CBandB, CBandC, CBandD, one after another. No condition. -/
import Derived.Test.YtffbfhjcpgcdeaaAmR
import Derived.Test.YtffbfhjcpgcdeaaAmSetC
import Derived.Test.YtffbfhjcpgcdeaaProg
import Derived.IntWalk
set_option linter.unusedVariables false
set_option linter.unusedSimpArgs false
set_option maxRecDepth 20000

section
namespace Go.AM.C
open Go Go.Proofs
def ti1 : TI := { ty := .other, size := 1, bytes := 8, zero := .lit .nilFunc }
def ti2 : TI := { ty := .int .i64, size := 1, bytes := 8, zero := .int .i64 0 }
def ti3 : TI := { ty := .int .i64, size := 1, bytes := 8, zero := .int .i64 0 }
def ti4 : TI := { ty := .bool, size := 1, bytes := 1, zero := .bool false }
def ti5 : TI := { ty := .int .u8, size := 1, bytes := 1, zero := .int .u8 0 }
def ti9 : TI := { ty := .str, size := 1, bytes := 16, zero := .lit (.string ByteArray.empty) }
def ti22 : TI := { ty := .slice 73, size := 1, bytes := 24, zero := .emp }
def ti23 : TI := { ty := .slice 86, size := 1, bytes := 24, zero := .emp }
def ti25 : TI := { ty := .struct [(0, 3), (1, 3)], size := 2, bytes := 16, zero := .agg [.int .i64 0, .int .i64 0], eq := true }
def ti28 : TI := { ty := .int .i64, size := 1, bytes := 8, zero := .int .i64 0 }
def ti36 : TI := { ty := .slice 3, size := 1, bytes := 24, zero := .emp }
def ti42 : TI := { ty := .slice 25, size := 1, bytes := 24, zero := .emp }
def ti50 : TI := { ty := .slice 54, size := 1, bytes := 24, zero := .emp }
def ti54 : TI := { ty := .struct [(0, 3), (1, 3)], size := 2, bytes := 16, zero := .agg [.int .i64 0, .int .i64 0], eq := true }
def ti59 : TI := { ty := .struct [(0, 42), (1, 3), (2, 3)], size := 3, bytes := 40, zero := .agg [.emp, .int .i64 0, .int .i64 0] }
def ti60 : TI := { ty := .slice 67, size := 1, bytes := 24, zero := .emp }
def ti63 : TI := { ty := .slice 68, size := 1, bytes := 24, zero := .emp }
def ti67 : TI := { ty := .struct [(0, 3), (1, 3), (2, 22)], size := 3, bytes := 40, zero := .agg [.int .i64 0, .int .i64 0, .emp] }
def ti68 : TI := { ty := .struct [(0, 3), (1, 3), (2, 22)], size := 3, bytes := 40, zero := .agg [.int .i64 0, .int .i64 0, .emp] }
def ti71 : TI := { ty := .struct [(0, 3), (1, 3), (2, 3)], size := 3, bytes := 24, zero := .agg [.int .i64 0, .int .i64 0, .int .i64 0], eq := true }
def ti73 : TI := { ty := .struct [(0, 3), (1, 71)], size := 4, bytes := 32, zero := .agg [.int .i64 0, .int .i64 0, .int .i64 0, .int .i64 0], eq := true }
def ti76 : TI := { ty := .struct [(0, 36), (1, 42)], size := 2, bytes := 48, zero := .agg [.emp, .emp] }
def ti84 : TI := { ty := .struct [(0, 3), (1, 3), (2, 3), (3, 3)], size := 4, bytes := 32, zero := .agg [.int .i64 0, .int .i64 0, .int .i64 0, .int .i64 0], eq := true }
def ti86 : TI := { ty := .struct [(0, 3), (1, 84), (5, 3)], size := 6, bytes := 48, zero := .agg [.int .i64 0, .int .i64 0, .int .i64 0, .int .i64 0, .int .i64 0, .int .i64 0], eq := true }
def ti87 : TI := { ty := .slice 100, size := 1, bytes := 24, zero := .emp }
def ti89 : TI := { ty := .struct [(0, 22), (1, 3), (2, 87)], size := 3, bytes := 56, zero := .agg [.emp, .int .i64 0, .emp] }
def ti93 : TI := { ty := .slice 71, size := 1, bytes := 24, zero := .emp }
def ti98 : TI := { ty := .slice 4, size := 1, bytes := 24, zero := .emp }
def ti100 : TI := { ty := .struct [(0, 86), (6, 3), (7, 98)], size := 8, bytes := 80, zero := .agg [.int .i64 0, .int .i64 0, .int .i64 0, .int .i64 0, .int .i64 0, .int .i64 0, .int .i64 0, .emp] }
def ti112 : TI := { ty := .other, size := 1, bytes := 8, zero := .lit .nilFunc }
def ti115 : TI := { ty := .other, size := 1, bytes := 8, zero := .lit .nilFunc }
def ti121 : TI := { ty := .other, size := 1, bytes := 8, zero := .lit .nilFunc }
def ti122 : TI := { ty := .other, size := 1, bytes := 8, zero := .lit .nilFunc }
def ti126 : TI := { ty := .int .u64, size := 1, bytes := 8, zero := .int .u64 0 }
def ti128 : TI := { ty := .other, size := 1, bytes := 8, zero := .lit .nilFunc }
def ti129 : TI := { ty := .other, size := 1, bytes := 8, zero := .lit .nilFunc }
def ti132 : TI := { ty := .other, size := 1, bytes := 8, zero := .lit .nilFunc }
def ti133 : TI := { ty := .other, size := 1, bytes := 8, zero := .lit .nilFunc }
def ti134 : TI := { ty := .other, size := 1, bytes := 8, zero := .lit .nilFunc }
def ti136 : TI := { ty := .int .i64, size := 1, bytes := 8, zero := .int .i64 0 }
def ti144 : TI := { ty := .int .u32, size := 1, bytes := 4, zero := .int .u32 0 }
def ti146 : TI := { ty := .int .u64, size := 1, bytes := 8, zero := .int .u64 0 }
def ti148 : TI := { ty := .int .u64, size := 1, bytes := 8, zero := .int .u64 0 }
def ti152 : TI := { ty := .other, size := 1, bytes := 8, zero := .lit (.pointer none) }
def ti154 : TI := { ty := .other, size := 1, bytes := 8, zero := .lit (.pointer none) }
def tys : List (Nat × TI) := [(1, ti1), (2, ti2), (3, ti3), (4, ti4), (5, ti5), (9, ti9), (22, ti22), (23, ti23), (25, ti25), (28, ti28), (36, ti36), (42, ti42), (50, ti50), (54, ti54), (59, ti59), (60, ti60), (63, ti63), (67, ti67), (68, ti68), (71, ti71), (73, ti73), (76, ti76), (84, ti84), (86, ti86), (87, ti87), (89, ti89), (93, ti93), (98, ti98), (100, ti100), (112, ti112), (115, ti115), (121, ti121), (122, ti122), (126, ti126), (128, ti128), (129, ti129), (132, ti132), (133, ti133), (134, ti134), (136, ti136), (144, ti144), (146, ti146), (148, ti148), (152, ti152), (154, ti154)]
def fc10 : FC := { live := [(8, [7, 9, 11])] }
def fc12 : FC := { live := [(9, [0, 7, 8, 10, 12]), (14, [0, 7, 8, 10, 12, 13])], alias := [(22, 7)], lax := true, cold := [22] }
def fc14 : FC := { live := [(8, [0, 1, 5, 6, 7, 9])] }
def fc15 : FC := { live := [(33, [0, 19, 21, 22, 24, 25, 26, 27]), (51, [0, 11, 22, 24, 25, 26, 32, 33, 34])] }
def fc17 : FC := { alias := [(8, 1), (14, 3)] }
def fc20 : FC := { live := [(4, [8, 9, 10])] }
def fc21 : FC := { live := [(4, [0, 3])] }
def fc22 : FC := { live := [(6, [7, 9, 22, 23, 24])] }
def fc23 : FC := { live := [(6, [1, 7, 9, 10])] }
def fc24 : FC := { live := [(8, [10, 35, 36, 37])], alias := [(46, 10)], born := [10] }
def fc25 : FC := { live := [(8, [1, 2, 8, 10, 11])], alias := [(44, 10)], born := [10] }
def fc26 : FC := { live := [(4, [0, 1, 5])] }
def fc28 : FC := { live := [(6, [1, 6, 8, 9]), (10, [1, 6, 8, 9, 10, 11])], alias := [(22, 8), (80, 8)] }
def fc29 : FC := { live := [(7, [7, 9, 10, 11, 12])], alias := [(57, 11)], born := [11] }
def fc30 : FC := { live := [(6, [1, 2, 9, 10])] }
def fc31 : FC := { live := [(7, [2, 8, 29, 30, 31]), (10, [2, 8, 11, 29, 30, 31, 36, 37, 38])] }
def fc32 : FC := { live := [(7, [1, 2, 8, 10]), (12, [1, 2, 8, 11]), (15, [1, 2, 8, 11, 12])] }
def fc33 : FC := { live := [(6, [8, 10, 23, 24, 25])] }
def fc37 : FC := { live := [(7, [8, 10, 11, 24, 25, 26])], alias := [(40, 10), (63, 10)], born := [10] }
def fc38 : FC := { live := [(9, [1, 2, 8, 11, 12]), (12, [1, 2, 8, 11, 12, 13]), (17, [8, 11, 14, 15])], alias := [(35, 11), (101, 14)], born := [14] }
def fc41 : FC := { live := [(8, [0, 3, 4, 12, 14, 44, 45, 46])], alias := [(80, 14)], born := [14], thaw := [(65, 0, 4)], lax := true, bar := true, lead := true, keep := [79, 80], fam := [(65, 14, 9000)] }
def fc42 : FC := { live := [(8, [0, 1, 2, 3, 4, 13, 14])], alias := [(75, 13)], born := [13], bar := true }
def fc43 : FC := { live := [(4, [0, 1, 5])] }
def fc44 : FC := { live := [(9, [6, 8, 9, 10])], alias := [(24, 8), (51, 9)], born := [9], bar := true }
def fc45 : FC := { live := [(6, [1, 6, 8, 9]), (9, [1, 6, 8, 9, 10, 11])], alias := [(64, 8)], born := [8] }
def fc47 : FC := { live := [(6, [0, 5, 13, 14])], alias := [(27, 5)], born := [5] }
def fc48 : FC := { alias := [(9, 4)], born := [4] }
def fc49 : FC := { live := [(2, [0, 1, 5, 6, 7, 8])] }
def fc50 : FC := { live := [(10, [0, 4, 6, 8, 41, 42, 43]), (15, [0, 4, 6, 8, 10, 11, 41, 42, 43, 61, 62, 63]), (18, [0, 4, 6, 8, 10, 11, 15, 16, 41, 42, 43, 61, 62, 63])] }
def fc52 : FC := { live := [(11, [0, 9, 10]), (14, [0, 9, 10, 11])], alias := [(49, 9)], born := [9] }
def fc53 : FC := { live := [(4, [0, 1, 5, 7])] }
def fc55 : FC := { live := [(4, [1, 2, 3, 4]), (8, [1, 2, 3, 4, 36, 37, 38])], alias := [(11, 2), (15, 3)] }
def fc56 : FC := { live := [(1, [0, 2, 3])], lax := true }
def fc59 : FC := { live := [(3, [0, 1, 2, 7, 8])] }
def fc60 : FC := { live := [(4, [0, 9, 10, 11])] }
def fc61 : FC := { live := [(3, [3, 6, 7, 8])] }
def fc68 : FC := { live := [(2, [0, 1, 7, 8])] }
def fc73 : FC := { live := [(2, [0, 3])] }
def fc74 : FC := { live := [(3, [2, 5, 8, 9, 10])] }
def fc78 : FC := { live := [(5, [0, 3, 4])] }
def fc81 : FC := { live := [(4, [0, 1, 2, 7, 8, 9])], alias := [(49, 7)], born := [7] }
def fc82 : FC := { live := [(2, [0, 1, 2, 3, 4, 10, 11])], lax := true }
def fc85 : FC := { live := [(3, [1, 2, 7, 11, 12, 13])], alias := [(46, 7)], born := [7] }
def fc88 : FC := { live := [(3, [0, 3, 4])] }
def fc90 : FC := { live := [(3, [1, 2, 7, 11, 12, 13])], alias := [(46, 7)], born := [7] }
def fc93 : FC := { live := [(2, [0, 3, 6, 7, 8])] }
def fc95 : FC := { live := [(3, [0, 3, 4])], alias := [(56, 3)], born := [3] }
def fc96 : FC := { live := [(1, [0, 1, 2, 3, 8]), (4, [0, 1, 2, 3, 8, 9])], lax := true }
def fc97 : FC := { live := [(4, [0, 3, 8, 9, 10, 11]), (8, [0, 3, 8, 9, 12])] }
def fc98 : FC := { live := [(5, [0, 1, 8, 9, 10, 11])] }
def fc100 : FC := { live := [(2, [0, 8, 9])] }
def fc101 : FC := { live := [(3, [0, 1, 2, 3, 9, 10]), (5, [0, 1, 2, 3, 9, 10]), (14, [0, 1, 2, 3, 9, 10, 11]), (20, [0, 1, 2, 3, 9, 10, 12])] }
def fc102 : FC := { live := [(3, [0, 1, 4, 11, 12]), (5, [0, 1, 4, 11, 12])] }
def fc103 : FC := { live := [(3, [0, 1, 4, 12, 13]), (5, [0, 1, 4, 12, 13]), (13, [0, 1, 4, 12, 13]), (15, [0, 1, 4, 12, 13])] }
def fc107 : FC := { live := [(1, [0, 2, 3, 4, 10])] }
def fcs : List (Nat × FC) := [(10, fc10), (12, fc12), (14, fc14), (15, fc15), (17, fc17), (20, fc20), (21, fc21), (22, fc22), (23, fc23), (24, fc24), (25, fc25), (26, fc26), (28, fc28), (29, fc29), (30, fc30), (31, fc31), (32, fc32), (33, fc33), (37, fc37), (38, fc38), (41, fc41), (42, fc42), (43, fc43), (44, fc44), (45, fc45), (47, fc47), (48, fc48), (49, fc49), (50, fc50), (52, fc52), (53, fc53), (55, fc55), (56, fc56), (59, fc59), (60, fc60), (61, fc61), (68, fc68), (73, fc73), (74, fc74), (78, fc78), (81, fc81), (82, fc82), (85, fc85), (88, fc88), (90, fc90), (93, fc93), (95, fc95), (96, fc96), (97, fc97), (98, fc98), (100, fc100), (101, fc101), (102, fc102), (103, fc103), (107, fc107)]
def inls : List Nat := [56, 66, 82, 96, 41]
def seqs : Nat → List V → Option (Nat × List (List V)) := eachSeq 93
noncomputable def E : Env := mkEnv Try.prog tys fcs inls seqs
noncomputable def E0 : Env := mkEnv Try.prog tys fcs inls
theorem E0_ok : EnvOk Try.prog E0 := mkEnv_ok (fun _ _ _ _ h => by cases h) (by decide +kernel) (by decide +kernel)
theorem E0ty (t : Nat) : E0.ty t = E.ty t := rfl
theorem mixed : Try.prog.follows .mixedOrders = true := by decide +kernel
theorem einl (g : Nat) : E.inl g = inls.contains g := rfl
theorem ty3 : E.ty 3 = some ti3 := rfl
theorem ty22 : E.ty 22 = some ti22 := rfl
theorem ty23 : E.ty 23 = some ti23 := rfl
theorem ty25 : E.ty 25 = some ti25 := rfl
theorem ty42 : E.ty 42 = some ti42 := rfl
theorem ty59 : E.ty 59 = some ti59 := rfl
theorem ty71 : E.ty 71 = some ti71 := rfl
theorem ty73 : E.ty 73 = some ti73 := rfl
theorem ty84 : E.ty 84 = some ti84 := rfl
theorem ty86 : E.ty 86 = some ti86 := rfl
theorem te : E.ty 1 = some { ty := .other, size := 1, bytes := 8, zero := .lit .nilFunc } ∧ E.ty 2 = some { ty := .int .i64, size := 1, bytes := 8, zero := .int .i64 0 } ∧ E.ty 3 = some { ty := .int .i64, size := 1, bytes := 8, zero := .int .i64 0 } ∧ E.ty 4 = some { ty := .bool, size := 1, bytes := 1, zero := .bool false } ∧ E.ty 5 = some { ty := .int .u8, size := 1, bytes := 1, zero := .int .u8 0 } ∧ E.ty 9 = some { ty := .str, size := 1, bytes := 16, zero := .lit (.string ByteArray.empty) } ∧ E.ty 22 = some { ty := .slice 73, size := 1, bytes := 24, zero := .emp } ∧ E.ty 23 = some { ty := .slice 86, size := 1, bytes := 24, zero := .emp } ∧ E.ty 25 = some { ty := .struct [(0, 3), (1, 3)], size := 2, bytes := 16, zero := .agg [.int .i64 0, .int .i64 0], eq := true } ∧ E.ty 28 = some { ty := .int .i64, size := 1, bytes := 8, zero := .int .i64 0 } ∧ E.ty 36 = some { ty := .slice 3, size := 1, bytes := 24, zero := .emp } ∧ E.ty 42 = some { ty := .slice 25, size := 1, bytes := 24, zero := .emp } ∧ E.ty 50 = some { ty := .slice 54, size := 1, bytes := 24, zero := .emp } ∧ E.ty 54 = some { ty := .struct [(0, 3), (1, 3)], size := 2, bytes := 16, zero := .agg [.int .i64 0, .int .i64 0], eq := true } ∧ E.ty 59 = some { ty := .struct [(0, 42), (1, 3), (2, 3)], size := 3, bytes := 40, zero := .agg [.emp, .int .i64 0, .int .i64 0] } ∧ E.ty 60 = some { ty := .slice 67, size := 1, bytes := 24, zero := .emp } ∧ E.ty 63 = some { ty := .slice 68, size := 1, bytes := 24, zero := .emp } ∧ E.ty 67 = some { ty := .struct [(0, 3), (1, 3), (2, 22)], size := 3, bytes := 40, zero := .agg [.int .i64 0, .int .i64 0, .emp] } ∧ E.ty 68 = some { ty := .struct [(0, 3), (1, 3), (2, 22)], size := 3, bytes := 40, zero := .agg [.int .i64 0, .int .i64 0, .emp] } ∧ E.ty 71 = some { ty := .struct [(0, 3), (1, 3), (2, 3)], size := 3, bytes := 24, zero := .agg [.int .i64 0, .int .i64 0, .int .i64 0], eq := true } ∧ E.ty 73 = some { ty := .struct [(0, 3), (1, 71)], size := 4, bytes := 32, zero := .agg [.int .i64 0, .int .i64 0, .int .i64 0, .int .i64 0], eq := true } ∧ E.ty 76 = some { ty := .struct [(0, 36), (1, 42)], size := 2, bytes := 48, zero := .agg [.emp, .emp] } ∧ E.ty 84 = some { ty := .struct [(0, 3), (1, 3), (2, 3), (3, 3)], size := 4, bytes := 32, zero := .agg [.int .i64 0, .int .i64 0, .int .i64 0, .int .i64 0], eq := true } ∧ E.ty 86 = some { ty := .struct [(0, 3), (1, 84), (5, 3)], size := 6, bytes := 48, zero := .agg [.int .i64 0, .int .i64 0, .int .i64 0, .int .i64 0, .int .i64 0, .int .i64 0], eq := true } ∧ E.ty 87 = some { ty := .slice 100, size := 1, bytes := 24, zero := .emp } ∧ E.ty 89 = some { ty := .struct [(0, 22), (1, 3), (2, 87)], size := 3, bytes := 56, zero := .agg [.emp, .int .i64 0, .emp] } ∧ E.ty 93 = some { ty := .slice 71, size := 1, bytes := 24, zero := .emp } ∧ E.ty 98 = some { ty := .slice 4, size := 1, bytes := 24, zero := .emp } ∧ E.ty 100 = some { ty := .struct [(0, 86), (6, 3), (7, 98)], size := 8, bytes := 80, zero := .agg [.int .i64 0, .int .i64 0, .int .i64 0, .int .i64 0, .int .i64 0, .int .i64 0, .int .i64 0, .emp] } ∧ E.ty 112 = some { ty := .other, size := 1, bytes := 8, zero := .lit .nilFunc } ∧ E.ty 115 = some { ty := .other, size := 1, bytes := 8, zero := .lit .nilFunc } ∧ E.ty 121 = some { ty := .other, size := 1, bytes := 8, zero := .lit .nilFunc } ∧ E.ty 122 = some { ty := .other, size := 1, bytes := 8, zero := .lit .nilFunc } ∧ E.ty 126 = some { ty := .int .u64, size := 1, bytes := 8, zero := .int .u64 0 } ∧ E.ty 128 = some { ty := .other, size := 1, bytes := 8, zero := .lit .nilFunc } ∧ E.ty 129 = some { ty := .other, size := 1, bytes := 8, zero := .lit .nilFunc } ∧ E.ty 132 = some { ty := .other, size := 1, bytes := 8, zero := .lit .nilFunc } ∧ E.ty 133 = some { ty := .other, size := 1, bytes := 8, zero := .lit .nilFunc } ∧ E.ty 134 = some { ty := .other, size := 1, bytes := 8, zero := .lit .nilFunc } ∧ E.ty 136 = some { ty := .int .i64, size := 1, bytes := 8, zero := .int .i64 0 } ∧ E.ty 144 = some { ty := .int .u32, size := 1, bytes := 4, zero := .int .u32 0 } ∧ E.ty 146 = some { ty := .int .u64, size := 1, bytes := 8, zero := .int .u64 0 } ∧ E.ty 148 = some { ty := .int .u64, size := 1, bytes := 8, zero := .int .u64 0 } ∧ E.ty 152 = some { ty := .other, size := 1, bytes := 8, zero := .lit (.pointer none) } ∧ E.ty 154 = some { ty := .other, size := 1, bytes := 8, zero := .lit (.pointer none) } := ⟨rfl, rfl, rfl, rfl, rfl, rfl, rfl, rfl, rfl, rfl, rfl, rfl, rfl, rfl, rfl, rfl, rfl, rfl, rfl, rfl, rfl, rfl, rfl, rfl, rfl, rfl, rfl, rfl, rfl, rfl, rfl, rfl, rfl, rfl, rfl, rfl, rfl, rfl, rfl, rfl, rfl, rfl, rfl, rfl, rfl⟩
theorem fn3 : E.fn 3 = some Try.f3 := Try.func3
theorem efc3 : E.fc 3 = {} := rfl
theorem fn4 : E.fn 4 = some Try.f4 := Try.func4
theorem efc4 : E.fc 4 = {} := rfl
theorem fn5 : E.fn 5 = some Try.f5 := Try.func5
theorem efc5 : E.fc 5 = {} := rfl
theorem fn6 : E.fn 6 = some Try.f6 := Try.func6
theorem efc6 : E.fc 6 = {} := rfl
theorem fn7 : E.fn 7 = some Try.f7 := Try.func7
theorem efc7 : E.fc 7 = {} := rfl
theorem fn12 : E.fn 12 = some Try.f12 := Try.func12
theorem efc12 : E.fc 12 = fc12 := rfl
theorem fn16 : E.fn 16 = some Try.f16 := Try.func16
theorem efc16 : E.fc 16 = {} := rfl
theorem fn18 : E.fn 18 = some Try.f18 := Try.func18
theorem efc18 : E.fc 18 = {} := rfl
theorem fn19 : E.fn 19 = some Try.f19 := Try.func19
theorem efc19 : E.fc 19 = {} := rfl
theorem fn20 : E.fn 20 = some Try.f20 := Try.func20
theorem efc20 : E.fc 20 = fc20 := rfl
theorem fn21 : E.fn 21 = some Try.f21 := Try.func21
theorem efc21 : E.fc 21 = fc21 := rfl
theorem fn22 : E.fn 22 = some Try.f22 := Try.func22
theorem efc22 : E.fc 22 = fc22 := rfl
theorem fn23 : E.fn 23 = some Try.f23 := Try.func23
theorem efc23 : E.fc 23 = fc23 := rfl
theorem fn24 : E.fn 24 = some Try.f24 := Try.func24
theorem efc24 : E.fc 24 = fc24 := rfl
theorem fn25 : E.fn 25 = some Try.f25 := Try.func25
theorem efc25 : E.fc 25 = fc25 := rfl
theorem fn26 : E.fn 26 = some Try.f26 := Try.func26
theorem efc26 : E.fc 26 = fc26 := rfl
theorem fn27 : E.fn 27 = some Try.f27 := Try.func27
theorem efc27 : E.fc 27 = {} := rfl
theorem fn28 : E.fn 28 = some Try.f28 := Try.func28
theorem efc28 : E.fc 28 = fc28 := rfl
theorem fn29 : E.fn 29 = some Try.f29 := Try.func29
theorem efc29 : E.fc 29 = fc29 := rfl
theorem fn30 : E.fn 30 = some Try.f30 := Try.func30
theorem efc30 : E.fc 30 = fc30 := rfl
theorem fn31 : E.fn 31 = some Try.f31 := Try.func31
theorem efc31 : E.fc 31 = fc31 := rfl
theorem fn32 : E.fn 32 = some Try.f32 := Try.func32
theorem efc32 : E.fc 32 = fc32 := rfl
theorem fn35 : E.fn 35 = some Try.f35 := Try.func35
theorem efc35 : E.fc 35 = {} := rfl
theorem fn39 : E.fn 39 = some Try.f39 := Try.func39
theorem efc39 : E.fc 39 = {} := rfl
theorem fn40 : E.fn 40 = some Try.f40 := Try.func40
theorem efc40 : E.fc 40 = {} := rfl
theorem fn41 : E.fn 41 = some Try.f41 := Try.func41
theorem efc41 : E.fc 41 = fc41 := rfl
theorem fn42 : E.fn 42 = some Try.f42 := Try.func42
theorem efc42 : E.fc 42 = fc42 := rfl
theorem fn43 : E.fn 43 = some Try.f43 := Try.func43
theorem efc43 : E.fc 43 = fc43 := rfl
theorem fn46 : E.fn 46 = some Try.f46 := Try.func46
theorem efc46 : E.fc 46 = {} := rfl
theorem fn50 : E.fn 50 = some Try.f50 := Try.func50
theorem efc50 : E.fc 50 = fc50 := rfl
theorem fn51 : E.fn 51 = some Try.f51 := Try.func51
theorem efc51 : E.fc 51 = {} := rfl
theorem fn52 : E.fn 52 = some Try.f52 := Try.func52
theorem efc52 : E.fc 52 = fc52 := rfl
theorem fn53 : E.fn 53 = some Try.f53 := Try.func53
theorem efc53 : E.fc 53 = fc53 := rfl
theorem fn54 : E.fn 54 = some Try.f54 := Try.func54
theorem efc54 : E.fc 54 = {} := rfl
theorem fn55 : E.fn 55 = some Try.f55 := Try.func55
theorem efc55 : E.fc 55 = fc55 := rfl
theorem fn56 : E.fn 56 = some Try.f56 := Try.func56
theorem efc56 : E.fc 56 = fc56 := rfl
theorem fn57 : E.fn 57 = some Try.f57 := Try.func57
theorem efc57 : E.fc 57 = {} := rfl
theorem fn58 : E.fn 58 = some Try.f58 := Try.func58
theorem efc58 : E.fc 58 = {} := rfl
theorem fn59 : E.fn 59 = some Try.f59 := Try.func59
theorem efc59 : E.fc 59 = fc59 := rfl
theorem fn60 : E.fn 60 = some Try.f60 := Try.func60
theorem efc60 : E.fc 60 = fc60 := rfl
theorem fn61 : E.fn 61 = some Try.f61 := Try.func61
theorem efc61 : E.fc 61 = fc61 := rfl
theorem fn62 : E.fn 62 = some Try.f62 := Try.func62
theorem efc62 : E.fc 62 = {} := rfl
theorem fn63 : E.fn 63 = some Try.f63 := Try.func63
theorem efc63 : E.fc 63 = {} := rfl
theorem fn64 : E.fn 64 = some Try.f64 := Try.func64
theorem efc64 : E.fc 64 = {} := rfl
theorem fn65 : E.fn 65 = some Try.f65 := Try.func65
theorem efc65 : E.fc 65 = {} := rfl
theorem fn70 : E.fn 70 = some Try.f70 := Try.func70
theorem efc70 : E.fc 70 = {} := rfl
theorem fn71 : E.fn 71 = some Try.f71 := Try.func71
theorem efc71 : E.fc 71 = {} := rfl
theorem fn72 : E.fn 72 = some Try.f72 := Try.func72
theorem efc72 : E.fc 72 = {} := rfl
theorem fn73 : E.fn 73 = some Try.f73 := Try.func73
theorem efc73 : E.fc 73 = fc73 := rfl
theorem fn74 : E.fn 74 = some Try.f74 := Try.func74
theorem efc74 : E.fc 74 = fc74 := rfl
theorem fn75 : E.fn 75 = some Try.f75 := Try.func75
theorem efc75 : E.fc 75 = {} := rfl
theorem fn76 : E.fn 76 = some Try.f76 := Try.func76
theorem efc76 : E.fc 76 = {} := rfl
theorem fn77 : E.fn 77 = some Try.f77 := Try.func77
theorem efc77 : E.fc 77 = {} := rfl
theorem fn78 : E.fn 78 = some Try.f78 := Try.func78
theorem efc78 : E.fc 78 = fc78 := rfl
theorem fn79 : E.fn 79 = some Try.f79 := Try.func79
theorem efc79 : E.fc 79 = {} := rfl
theorem fn80 : E.fn 80 = some Try.f80 := Try.func80
theorem efc80 : E.fc 80 = {} := rfl
theorem fn81 : E.fn 81 = some Try.f81 := Try.func81
theorem efc81 : E.fc 81 = fc81 := rfl
theorem fn84 : E.fn 84 = some Try.f84 := Try.func84
theorem efc84 : E.fc 84 = {} := rfl
theorem fn85 : E.fn 85 = some Try.f85 := Try.func85
theorem efc85 : E.fc 85 = fc85 := rfl
theorem fn86 : E.fn 86 = some Try.f86 := Try.func86
theorem efc86 : E.fc 86 = {} := rfl
theorem fn87 : E.fn 87 = some Try.f87 := Try.func87
theorem efc87 : E.fc 87 = {} := rfl
theorem fn88 : E.fn 88 = some Try.f88 := Try.func88
theorem efc88 : E.fc 88 = fc88 := rfl
theorem fn89 : E.fn 89 = some Try.f89 := Try.func89
theorem efc89 : E.fc 89 = {} := rfl
theorem fn90 : E.fn 90 = some Try.f90 := Try.func90
theorem efc90 : E.fc 90 = fc90 := rfl
theorem fn91 : E.fn 91 = some Try.f91 := Try.func91
theorem efc91 : E.fc 91 = {} := rfl
theorem fn92 : E.fn 92 = some Try.f92 := Try.func92
theorem efc92 : E.fc 92 = {} := rfl
theorem fn94 : E.fn 94 = some Try.f94 := Try.func94
theorem efc94 : E.fc 94 = {} := rfl
theorem fn95 : E.fn 95 = some Try.f95 := Try.func95
theorem efc95 : E.fc 95 = fc95 := rfl
theorem fn106 : E.fn 106 = some Try.f106 := Try.func106
theorem efc106 : E.fc 106 = {} := rfl
theorem efr : (E.fc 56).frame = false ∧ (E.fc 56).fresh = false ∧ (E.fc 66).frame = false ∧ (E.fc 66).fresh = false ∧ (E.fc 82).frame = false ∧ (E.fc 82).fresh = false ∧ (E.fc 96).frame = false ∧ (E.fc 96).fresh = false ∧ (E.fc 41).frame = false ∧ (E.fc 41).fresh = false := ⟨rfl, rfl, rfl, rfl, rfl, rfl, rfl, rfl, rfl, rfl⟩
end Go.AM.C
end

section
namespace Go.AM.C
open Go Go.RowKit Go.Proofs

def X0 : Ext := { call := fun _ _ => none, inl := fun _ _ _ _ => none }
theorem X0_ok : ExtOk Try.prog X0 := ⟨(fun _ _ _ h => by cases h), (fun _ _ _ _ _ _ h => by cases h)⟩

section
variable (l : Nat) (q : List (Int × List Int)) (sv : Value) (n : Nat)

def placeAt (i : Nat) : V := match q[i]? with
  | some p => .int .i64 p.1
  | none => .junk

def headV (x : V) (i : Nat) : List V :=
  [.lit (.func (.yield l) #[] #[]), .junk, .junk, placeAt q i, .junk, .junk, x, .int .i64 n, .int .i64 i, .junk, .junk, .junk, .junk, .junk, .junk, .junk, .junk, .junk, .junk, .junk, .junk, .junk]
end

theorem headV_plain (l : Nat) (q : List (Int × List Int)) (sv : Value) (n i : Nat) : plainL (headV l q n (.lit sv) i) = true := by
  simp only [headV, plainL, plain, Bool.true_and, Bool.and_true]
  unfold placeAt
  split <;> rfl

theorem headV_set {C C' : Cx} {w w' : World} {σ σ' : Places} {l : Nat} {q : List (Int × List Int)} {sv : Value} {n i : Nat} {x : V} {ds : List Value} (h : RepL C w σ none (headV l q n (.lit sv) i) ds) (hx : Rep C' w' σ' none x sv) :
    RepL C' w' σ' none (headV l q n x i) ds := by
  obtain ⟨d, hd, hs⟩ := RepL.get 6 h rfl
  simp only [Rep] at hs
  obtain ⟨rfl, _⟩ := hs
  have h1 : RepL C' w' σ' none (headV l q n (.lit d) i) ds := RepL.plain _ (headV_plain l q d n i) h
  have h2 := RepL.set 6 h1 hx
  obtain ⟨hlt, he⟩ := List.getElem?_eq_some_iff.1 hd
  have : ds.set 6 d = ds := by rw [← he]; simp
  rw [this] at h2
  exact h2

theorem sl_one {C : Cx} {w : World} {σ : Places} {mo : Option Bool} {t : Bool} {vs : List V} {c : Value} (h : Rep C w σ mo (.sl t vs) c) : c.oneCell' = true := by
  obtain ⟨_, a, cap, rfl, _⟩ := h
  rfl

theorem each_ok : SeqsOk Try.prog E := by
  intro f vals k xss h
  replace h : eachSeq 93 f vals = some (k, xss) := h
  unfold eachSeq at h
  split at h
  case isFalse => cases h
  rename_i hf
  subst hf
  split at h
  case h_2 => cases h
  rename_i t t' vs
  split at h
  case isFalse => cases h
  rename_i hn
  split at h
  case h_2 => cases h
  rename_i q hq
  simp only [Option.some.injEq, Prod.mk.injEq] at h
  obtain ⟨rfl, rfl⟩ := h
  obtain ⟨hql, hqg⟩ := spansOf_get hq
  obtain ⟨hq0, hqn⟩ := spansOf_next hq
  refine ⟨⟨Try.f93, Try.func93, rfl, by decide +kernel⟩, fun xs hxs => ?_, fun m w Fo cargs hFo hrep => ⟨q.map yieldC, by simp, ?_, ?_⟩⟩
  · obtain ⟨p, _, rfl⟩ := List.mem_map.1 hxs
    exact yield_plain p
  · intro i xs ys h1 h2
    rw [List.getElem?_map] at h1 h2
    obtain ⟨p, h3, rfl⟩ := Option.map_eq_some_iff.1 h1
    rw [h3] at h2
    cases h2
    exact yield_rep p
  intro l J Jx Wd hbW hR hJ
  obtain ⟨cv, r, rfl, hcv, hr⟩ := hrep
  simp only [RepL] at hr
  subst hr
  have hE := E0_ok
  refine callsIn_of_wp_marks Try.func93 rfl trivial ?_
  have hno : ∀ b, ¬ Held (fun _ => none) b := fun b ⟨_, _, hi, _⟩ => by cases hi
  have hsim : ∀ (F : Nat → Prop) (w1 : World) (slots : List V) (a : Act), RepL ⟨F, w1.heap.size, w1, fun _ => False, true, fun _ => False⟩ w1 (fun _ => none) none slots a.tmps.toList → a.defers = [] → (∀ b, F b → b < w1.heap.size) →
      Sim ⟨F, w1.heap.size, w1, fun _ => False, true, fun _ => False⟩ [] [] { slots := slots, outer := [], objs := [] } a w1 (fun _ => none) := fun F w1 slots a hr ha hF =>
    ⟨hr, rfl, (fun id ob h => by simp [look] at h), fun _ _ => rfl, (fun i j li lj b h => by cases h), fun b hb => absurd hb (hno b), Below.refl _ _, Nat.le_refl _, hF, by rw [ha]; exact Still.refl (fun b hb => hb.elim) fun b hb => hb.elim⟩
  have hFW : ∀ b, Fo b → b < Wd.heap.size := fun b hb => Nat.lt_of_lt_of_le (hFo b hb) hbW.size
  have h0 := hsim Fo Wd ([.lit (.func (.yield l) #[] #[]), .fp t [.sl t' vs] 0] ++ List.replicate 20 .und)
    { tmps := (#[.func (.yield l) #[] #[]] ++ [cv].toArray) ++ Array.replicate (Try.f93.ntmps - (#[Value.func (.yield l) #[] #[]] ++ [cv].toArray).size) undef, defers := [] }
    (by
      have h1 : RepL ⟨Fo, Wd.heap.size, Wd, fun _ => False, true, fun _ => False⟩ Wd (fun _ => none) none [.lit (.func (.yield l) #[] #[]), .fp t [.sl t' vs] 0] [.func (.yield l) #[] #[], cv] :=
        ⟨_, _, rfl, ⟨rfl, rfl⟩, _, _, rfl, hcv.later hbW.size (fun b hb => hbW.block b (hFo b hb)), rfl⟩
      simpa [Try.ntmps93] using RepL.app h1 (RepL.undefs 20)) rfl hFW
  refine wpIn_seq (region_vals (fc := {}) hE.ty h0 (by simp only [evVals, E0ty, so, sd, den_cond, evOps, zH, qG, zF, zG, wantedV, St.get, qE, qF, qB, onBool_true, onBool_false, zC, norm, look, zE, qA, qI, St.alloc, St.drop, zA, part, zB, depth, qD, ↓reduceIte, Nat.reduceBEq, Nat.reduceAdd, Nat.reduceSub, Nat.reduceMul, Nat.reduceEqDiff, Nat.reduceLeDiff, Nat.reduceLT, evRegion_still, evE, qJ, qK, qL, qM, qN, qO, evCall, qP, evAppend, qQ, qR, zI, qS, qC, qT, evSlice0, qV, qW, qX, qY, qZ, zJ, zK, zL, wit, Option.isSome_some, qH, xJ, evPre, evLitX, evAppX, evCold, nameT, te, einl, inls, efr]; exact rfl) fun a1 hd1 hs1 => ?_)
  refine wpIn_seq (region_vals (fc := {}) hE.ty hs1 (by simp only [evVals, E0ty, so, sd, den_cond, evOps, zH, qG, zF, zG, wantedV, St.get, qE, qF, qB, onBool_true, onBool_false, zC, norm, look, zE, qA, qI, St.alloc, St.drop, zA, part, zB, depth, qD, ↓reduceIte, Nat.reduceBEq, Nat.reduceAdd, Nat.reduceSub, Nat.reduceMul, Nat.reduceEqDiff, Nat.reduceLeDiff, Nat.reduceLT, evRegion_still, evE, qJ, qK, qL, qM, qN, qO, evCall, qP, evAppend, qQ, qR, zI, qS, qC, qT, evSlice0, qV, qW, qX, qY, qZ, zJ, zK, zL, wit, Option.isSome_some, qH, xJ, evPre, evLitX, evAppX, evCold, nameT, te, einl, inls, efr]; exact rfl) fun a2 hd2 hs2 => ?_)
  replace hd2 : a2.defers = [] := hd2.trans hd1
  clear hs1 hd1 h0
  obtain ⟨sv, hsv1, hsv, hslots⟩ := hs2.slots.relit 6 rfl (fun d hd => sl_one hd)
  have hsvf : Rep ⟨Fo, Wd.heap.size, Wd, fun _ => False, true, fun _ => False⟩ Wd (fun _ => none) none (.sl false vs) sv := sl_later (spansOf_plain hq) hsv (fun b hb => by
    refine ⟨hno b, hb.2.1, .inr ⟨rfl, ?_⟩, fun e => by cases e⟩
    rcases hb.2.2.1 with h1 | h1
    · have h2 : Wd.heap.size ≤ b := h1.1
      have := hb.2.1
      omega
    · exact h1.2) (fun b _ => rfl)
  have hh0 : RepL ⟨Fo, Wd.heap.size, Wd, fun _ => False, true, fun _ => False⟩ Wd (fun _ => none) none (headV l q vs.length (.lit sv) 0) a2.tmps.toList := by
    unfold headV placeAt
    cases hq1 : q[0]? with
    | none => exact mask_ok [0, 6, 7, 8] 0 _ _ hslots
    | some p =>
      dsimp only
      rw [hq0 p hq1]
      exact mask_ok [0, 3, 6, 7, 8] 0 _ _ hslots
  have ends : ∀ (i : Nat) (a : Act) (w4 : World), a.defers = [] → ((∃ K, J q.length K w4) ∨ Jx w4) →
      LeavesInM (W none) m Try.prog Try.f93 a.tmps (fun e W' => (∃ v, e = .returned v) ∧ ((∃ K, J (q.map yieldC).length K W') ∨ Jx W')) a.defers .returning w4 := fun i a w4 hd hj => by
    rw [hd]
    exact ⟨_, results_none rfl _ _ _, ⟨_, rfl⟩, by rw [List.length_map]; exact hj⟩
  refine wpIn_block (wpIn_loop_upto vs.length (fun i a wr => a.defers = [] ∧ ∃ K sv, J i K wr ∧ (∀ b, K b → b < wr.heap.size) ∧ Rep ⟨K, wr.heap.size, wr, fun _ => False, true, fun _ => False⟩ wr (fun _ => none) none (.sl false vs) sv ∧
      RepL ⟨K, wr.heap.size, wr, fun _ => False, true, fun _ => False⟩ wr (fun _ => none) none (headV l q vs.length (.lit sv) i) a.tmps.toList) ⟨hd2, Fo, sv, hJ, hFW, hsvf, hh0⟩ ?_)
  rintro i a wr hin ⟨hd, K, sv, hj, hF, hrs, hr⟩
  have hs := hsim K wr _ a (headV_set hr hrs) hd hF
  refine wpIn_seq (region_vals (fc := {}) hE.ty hs (by simp only [evVals, headV, E0ty, so, sd, den_cond, evOps, zH, qG, zF, zG, wantedV, St.get, qE, qF, qB, onBool_true, onBool_false, zC, norm, look, zE, qA, qI, St.alloc, St.drop, zA, part, zB, depth, qD, ↓reduceIte, Nat.reduceBEq, Nat.reduceAdd, Nat.reduceSub, Nat.reduceMul, Nat.reduceEqDiff, Nat.reduceLeDiff, Nat.reduceLT, evRegion_still, evE, qJ, qK, qL, qM, qN, qO, evCall, qP, evAppend, qQ, qR, zI, qS, qC, qT, evSlice0, qV, qW, qX, qY, qZ, zJ, zK, zL, wit, Option.isSome_some, qH, xJ, evPre, evLitX, evAppX, evCold, nameT, te, einl, inls, efr]; exact rfl) fun a3 hd3 hs3 => ?_)
  replace hd3 : a3.defers = [] := hd3.trans hd
  have h9 := hs3.eval (.tmp 9)
  simp only [so, sd, den_cond, evOps, zH, qG, zF, zG, wantedV, St.get, qE, qF, qB, onBool_true, onBool_false, zC, norm, look, zE, qA, qI, St.alloc, St.drop, zA, part, zB, depth, qD, ↓reduceIte, Nat.reduceBEq, Nat.reduceAdd, Nat.reduceSub, Nat.reduceMul, Nat.reduceEqDiff, Nat.reduceLeDiff, Nat.reduceLT, evRegion_still, evE, qJ, qK, qL, qM, qN, qO, evCall, qP, evAppend, qQ, qR, zI, qS, qC, qT, evSlice0, qV, qW, qX, qY, qZ, zJ, zK, zL, wit, Option.isSome_some, qH, xJ, evPre, evLitX, evAppX, evCold, nameT, te, einl, inls, efr, Rep] at h9
  rcases Nat.lt_or_ge i vs.length with hlt | hge
  · have hlt' : (i : Int) < vs.length := by omega
    obtain ⟨p, hp⟩ : ∃ p, q[i]? = some p := ⟨_, List.getElem?_eq_getElem (by omega)⟩
    obtain ⟨hget, ln, x, y, z, hp2⟩ := hqg i p hp
    rw [hp2] at hget
    simp only [List.map_cons, List.map_nil] at hget
    rw [decide_eq_true hlt'] at h9
    refine wpIn_seq (wpIn_cond_true h9 (wpIn_skip ?_))
    refine wpIn_seq (wpIn_block (wpIn_seq ?_))
    refine piece_ok (fc := {}) (base := 0) hE X0_ok mixed rfl hs3 hd3 hno (by simp only [E0ty, hlt', hget, Int.natCast_nonneg, Int.toNat_natCast, so, sd, den_cond, evOps, zH, qG, zF, zG, wantedV, St.get, qE, qF, qB, onBool_true, onBool_false, zC, norm, look, zE, qA, qI, St.alloc, St.drop, zA, part, zB, depth, qD, ↓reduceIte, Nat.reduceBEq, Nat.reduceAdd, Nat.reduceSub, Nat.reduceMul, Nat.reduceEqDiff, Nat.reduceLeDiff, Nat.reduceLT, evRegion_still, evE, qJ, qK, qL, qM, qN, qO, evCall, qP, evAppend, qQ, qR, zI, qS, qC, qT, evSlice0, qV, qW, qX, qY, qZ, zJ, zK, zL, wit, Option.isSome_some, qH, xJ, evPre, evLitX, evAppX, evCold, nameT, te, einl, inls, efr]; exact rfl) fun a4 w4 σ4 hd4 hs4 hb4 => ?_
    have hj4 := hR.grow i K wr w4 hj hb4
    have hz4 : wr.heap.size ≤ w4.heap.size := hb4.size
    refine wpIn_seq (wpIn_seq (wpIn_region ?_))
    refine vals_pre (fc := {}) hE.ty 3 [3, 4] rfl hs4 (by simp only [List.take_succ_cons, List.take_zero, evVals, E0ty, so, sd, den_cond, evOps, zH, qG, zF, zG, wantedV, St.get, qE, qF, qB, onBool_true, onBool_false, zC, norm, look, zE, qA, qI, St.alloc, St.drop, zA, part, zB, depth, qD, ↓reduceIte, Nat.reduceBEq, Nat.reduceAdd, Nat.reduceSub, Nat.reduceMul, Nat.reduceEqDiff, Nat.reduceLeDiff, Nat.reduceLT, evRegion_still, evE, qJ, qK, qL, qM, qN, qO, evCall, qP, evAppend, qQ, qR, zI, qS, qC, qT, evSlice0, qV, qW, qX, qY, qZ, zJ, zK, zL, wit, Option.isSome_some, qH, xJ, evPre, evLitX, evAppX, evCold, nameT, te, einl, inls, efr]; exact rfl) fun a5 hd5 hs5 => ?_
    replace hd5 : a5.defers = [] := hd5.trans hd4
    have h12 := hs5.eval (.tmp 12)
    have h13 := hs5.eval (.tmp 13)
    have h14 := hs5.eval (.tmp 14)
    simp only [so, sd, den_cond, evOps, zH, qG, zF, zG, wantedV, St.get, qE, qF, qB, onBool_true, onBool_false, zC, norm, look, zE, qA, qI, St.alloc, St.drop, zA, part, zB, depth, qD, ↓reduceIte, Nat.reduceBEq, Nat.reduceAdd, Nat.reduceSub, Nat.reduceMul, Nat.reduceEqDiff, Nat.reduceLeDiff, Nat.reduceLT, evRegion_still, evE, qJ, qK, qL, qM, qN, qO, evCall, qP, evAppend, qQ, qR, zI, qS, qC, qT, evSlice0, qV, qW, qX, qY, qZ, zJ, zK, zL, wit, Option.isSome_some, qH, xJ, evPre, evLitX, evAppX, evCold, nameT, te, einl, inls, efr, placeAt, hp, Rep] at h12 h13
    simp only [so, sd, den_cond, evOps, zH, qG, zF, zG, wantedV, St.get, qE, qF, qB, onBool_true, onBool_false, zC, norm, look, zE, qA, qI, St.alloc, St.drop, zA, part, zB, depth, qD, ↓reduceIte, Nat.reduceBEq, Nat.reduceAdd, Nat.reduceSub, Nat.reduceMul, Nat.reduceEqDiff, Nat.reduceLeDiff, Nat.reduceLT, evRegion_still, evE, qJ, qK, qL, qM, qN, qO, evCall, qP, evAppend, qQ, qR, zI, qS, qC, qT, evSlice0, qV, qW, qX, qY, qZ, zJ, zK, zL, wit, Option.isSome_some, qH, xJ, evPre, evLitX, evAppX, evCold, nameT, te, einl, inls, efr] at h14
    obtain ⟨h12, _⟩ := h12
    replace h14 := rep_ints_eq (l := [ln, x, y, z]) h14
    obtain ⟨sv2, _, hsv2, hslots5⟩ := hs5.slots.relit 6 rfl (fun d hd => sl_one hd)
    replace hs5 : Sim _ [] [] { slots := _, outer := _, objs := _ } a5 w4 σ4 := { hs5 with slots := hslots5 }
    simp only [wpOpsIn, List.getElem?_toArray, List.getElem?_cons_succ, List.getElem?_cons_zero]
    rw [if_pos (by rfl)]
    refine yieldOp_ok (l := l) rfl rfl h12 (by simp [h13, h14, yieldC, hp2]) (hR.yield i (yieldC p) _ w4 hj4 (by rw [List.getElem?_map, hp]; rfl)) fun e w5 he => ?_
    rcases he with ⟨rfl, hj5, hz5, hk5⟩ | ⟨rfl, hjx⟩
    · refine ⟨_, rfl, ?_⟩
      have hk := hs5.kept hd5 hz5 (fun b hb => hk5 b (hb.elim .inl .inr))
      have h6 := hk.put (dst := some 15) (v := .bool true) (c := .bool true) rfl
      rw [if_pos (by rfl)]
      refine val_ok (fc := {}) hE.ty h6 (by simp only [E0ty, so, sd, den_cond, evOps, zH, qG, zF, zG, wantedV, St.get, qE, qF, qB, onBool_true, onBool_false, zC, norm, look, zE, qA, qI, St.alloc, St.drop, zA, part, zB, depth, qD, ↓reduceIte, Nat.reduceBEq, Nat.reduceAdd, Nat.reduceSub, Nat.reduceMul, Nat.reduceEqDiff, Nat.reduceLeDiff, Nat.reduceLT, evRegion_still, evE, qJ, qK, qL, qM, qN, qO, evCall, qP, evAppend, qQ, qR, zI, qS, qC, qT, evSlice0, qV, qW, qX, qY, qZ, zJ, zK, zL, wit, Option.isSome_some, qH, xJ, evPre, evLitX, evAppX, evCold, nameT, te, einl, inls, efr]; exact rfl) fun a7 hd7 hs7 => ?_
      have h16 := hs7.eval (.tmp 16)
      simp only [so, sd, den_cond, evOps, zH, qG, zF, zG, wantedV, St.get, qE, qF, qB, onBool_true, onBool_false, zC, norm, look, zE, qA, qI, St.alloc, St.drop, zA, part, zB, depth, qD, ↓reduceIte, Nat.reduceBEq, Nat.reduceAdd, Nat.reduceSub, Nat.reduceMul, Nat.reduceEqDiff, Nat.reduceLeDiff, Nat.reduceLT, evRegion_still, evE, qJ, qK, qL, qM, qN, qO, evCall, qP, evAppend, qQ, qR, zI, qS, qC, qT, evSlice0, qV, qW, qX, qY, qZ, zJ, zK, zL, wit, Option.isSome_some, qH, xJ, evPre, evLitX, evAppX, evCold, nameT, te, einl, inls, efr, Rep] at h16
      refine wpIn_cond_false h16 (wpIn_skip ?_)
      refine region_vals (fc := {}) hE.ty hs7 (by simp only [evVals, placeAt, hp, E0ty, so, sd, den_cond, evOps, zH, qG, zF, zG, wantedV, St.get, qE, qF, qB, onBool_true, onBool_false, zC, norm, look, zE, qA, qI, St.alloc, St.drop, zA, part, zB, depth, qD, ↓reduceIte, Nat.reduceBEq, Nat.reduceAdd, Nat.reduceSub, Nat.reduceMul, Nat.reduceEqDiff, Nat.reduceLeDiff, Nat.reduceLT, evRegion_still, evE, qJ, qK, qL, qM, qN, qO, evCall, qP, evAppend, qQ, qR, zI, qS, qC, qT, evSlice0, qV, qW, qX, qY, qZ, zJ, zK, zL, wit, Option.isSome_some, qH, xJ, evPre, evLitX, evAppX, evCold, nameT, te, einl, inls, efr]; exact rfl) fun a8 hd8 hs8 => ?_
      refine region_vals (fc := {}) hE.ty hs8 (by simp only [evVals, E0ty, so, sd, den_cond, evOps, zH, qG, zF, zG, wantedV, St.get, qE, qF, qB, onBool_true, onBool_false, zC, norm, look, zE, qA, qI, St.alloc, St.drop, zA, part, zB, depth, qD, ↓reduceIte, Nat.reduceBEq, Nat.reduceAdd, Nat.reduceSub, Nat.reduceMul, Nat.reduceEqDiff, Nat.reduceLeDiff, Nat.reduceLT, evRegion_still, evE, qJ, qK, qL, qM, qN, qO, evCall, qP, evAppend, qQ, qR, zI, qS, qC, qT, evSlice0, qV, qW, qX, qY, qZ, zJ, zK, zL, wit, Option.isSome_some, qH, xJ, evPre, evLitX, evAppX, evCold, nameT, te, einl, inls, efr]; exact rfl) fun a9 hd9 hs9 => ?_
      refine ⟨hlt, by rw [hd9, hd8, hd7]; exact hd5, _, sv2, hj5, fun b hb => ?_, sl_later (spansOf_plain hq) hsv2 (fun b hb => ?_) (fun b hb => ?_), ?_⟩
      · rcases hb with hb | hb
        · have := hF b hb; omega
        · omega
      · refine ⟨hno b, by have := hb.2.1; omega, .inr ⟨rfl, ?_⟩, fun e => by cases e⟩
        rcases hb.2.2.1 with h1 | h1
        · exact .inr ⟨h1.1, hb.2.1⟩
        · exact .inl h1.2
      · rcases hb.2.2.1 with h1 | h1
        · exact hk5 b (.inr ⟨h1.1, hb.2.1⟩)
        · exact hk5 b (.inl h1.2)
      · have hw8 : IntKind.i64.wrap ((i : Int) + 1) = ((i + 1 : Nat) : Int) := by rw [IntWalk.i64_in _ (by omega)]; simp
        have hm := hs9.slots
        unfold headV
        unfold placeAt
        cases hq1 : q[i + 1]? with
        | none =>
          have := mask_ok [0, 6, 7, 8] 0 _ _ hm
          simp only [so, sd, den_cond, evOps, zH, qG, zF, zG, wantedV, St.get, qE, qF, qB, onBool_true, onBool_false, zC, norm, look, zE, qA, qI, St.alloc, St.drop, zA, part, zB, depth, qD, ↓reduceIte, Nat.reduceBEq, Nat.reduceAdd, Nat.reduceSub, Nat.reduceMul, Nat.reduceEqDiff, Nat.reduceLeDiff, Nat.reduceLT, evRegion_still, evE, qJ, qK, qL, qM, qN, qO, evCall, qP, evAppend, qQ, qR, zI, qS, qC, qT, evSlice0, qV, qW, qX, qY, qZ, zJ, zK, zL, wit, Option.isSome_some, qH, xJ, evPre, evLitX, evAppX, evCold, nameT, te, einl, inls, efr, hw8] at this
          exact RepL.plain _ rfl this
        | some p' =>
          dsimp only
          have hn1 := hqn i p p' hp hq1
          rw [hp2] at hn1
          rw [hn1]
          have := mask_ok [0, 3, 6, 7, 8] 0 _ _ hm
          simp only [so, sd, den_cond, evOps, zH, qG, zF, zG, wantedV, St.get, qE, qF, qB, onBool_true, onBool_false, zC, norm, look, zE, qA, qI, St.alloc, St.drop, zA, part, zB, depth, qD, ↓reduceIte, Nat.reduceBEq, Nat.reduceAdd, Nat.reduceSub, Nat.reduceMul, Nat.reduceEqDiff, Nat.reduceLeDiff, Nat.reduceLT, evRegion_still, evE, qJ, qK, qL, qM, qN, qO, evCall, qP, evAppend, qQ, qR, zI, qS, qC, qT, evSlice0, qV, qW, qX, qY, qZ, zJ, zK, zL, wit, Option.isSome_some, qH, xJ, evPre, evLitX, evAppX, evCold, nameT, te, einl, inls, efr, hw8] at this
          exact RepL.plain _ rfl this
    · refine ⟨_, rfl, ?_⟩
      have h15 := RepL.set 15 hs5.slots (v := .bool false) (d := .bool false) rfl
      have h15 := mask_ok [15] 0 _ _ h15
      simp only [so, sd, den_cond, evOps, zH, qG, zF, zG, wantedV, St.get, qE, qF, qB, onBool_true, onBool_false, zC, norm, look, zE, qA, qI, St.alloc, St.drop, zA, part, zB, depth, qD, ↓reduceIte, Nat.reduceBEq, Nat.reduceAdd, Nat.reduceSub, Nat.reduceMul, Nat.reduceEqDiff, Nat.reduceLeDiff, Nat.reduceLT, evRegion_still, evE, qJ, qK, qL, qM, qN, qO, evCall, qP, evAppend, qQ, qR, zI, qS, qC, qT, evSlice0, qV, qW, qX, qY, qZ, zJ, zK, zL, wit, Option.isSome_some, qH, xJ, evPre, evLitX, evAppX, evCold, nameT, te, einl, inls, efr] at h15
      have hsx := hsim (fun _ => False) w5 _ (a5.put (some 15) (.bool false)) (by
        have := RepL.plain (C' := ⟨fun _ => False, w5.heap.size, w5, fun _ => False, true, fun _ => False⟩) (w' := w5) (σ' := fun _ => none) (m' := none) _ rfl h15
        simpa [Act.put] using this) hd5 (fun b hb => hb.elim)
      rw [if_pos (by rfl)]
      refine val_ok (fc := {}) hE.ty hsx (by simp only [E0ty, so, sd, den_cond, evOps, zH, qG, zF, zG, wantedV, St.get, qE, qF, qB, onBool_true, onBool_false, zC, norm, look, zE, qA, qI, St.alloc, St.drop, zA, part, zB, depth, qD, ↓reduceIte, Nat.reduceBEq, Nat.reduceAdd, Nat.reduceSub, Nat.reduceMul, Nat.reduceEqDiff, Nat.reduceLeDiff, Nat.reduceLT, evRegion_still, evE, qJ, qK, qL, qM, qN, qO, evCall, qP, evAppend, qQ, qR, zI, qS, qC, qT, evSlice0, qV, qW, qX, qY, qZ, zJ, zK, zL, wit, Option.isSome_some, qH, xJ, evPre, evLitX, evAppX, evCold, nameT, te, einl, inls, efr]; exact rfl) fun a7 hd7 hs7 => ?_
      have h16 := hs7.eval (.tmp 16)
      simp only [so, sd, den_cond, evOps, zH, qG, zF, zG, wantedV, St.get, qE, qF, qB, onBool_true, onBool_false, zC, norm, look, zE, qA, qI, St.alloc, St.drop, zA, part, zB, depth, qD, ↓reduceIte, Nat.reduceBEq, Nat.reduceAdd, Nat.reduceSub, Nat.reduceMul, Nat.reduceEqDiff, Nat.reduceLeDiff, Nat.reduceLT, evRegion_still, evE, qJ, qK, qL, qM, qN, qO, evCall, qP, evAppend, qQ, qR, zI, qS, qC, qT, evSlice0, qV, qW, qX, qY, qZ, zJ, zK, zL, wit, Option.isSome_some, qH, xJ, evPre, evLitX, evAppX, evCold, nameT, te, einl, inls, efr, Rep] at h16
      refine wpIn_cond_true h16 (wpIn_ret ?_)
      exact ends 0 a7 w5 (hd7.trans hd5) (.inr hjx)
  · obtain rfl : i = vs.length := by omega
    rw [decide_eq_false (by omega)] at h9
    refine wpIn_seq (wpIn_cond_false h9 (wpIn_exit ?_))
    exact ends 0 a3 wr hd3 (.inl ⟨K, by rw [hql]; exact hj⟩)

theorem E_ok : EnvOk Try.prog E := mkEnv_ok each_ok (by decide +kernel) (by decide +kernel)

end Go.AM.C
end

section
namespace Go.AM.C
open Go Go.Proofs


structure Run where
  len : Int
  thick : Int
  shade : Int
  flaw : Int
  deriving DecidableEq

def I (n : Int) : V := .int .i64 n
def encRun (r : Run) : V := .agg [.int .i64 r.len, .int .i64 r.thick, .int .i64 r.shade, .int .i64 r.flaw]

def inB (x lo hi : Int) : Bool := decide (lo ≤ x) && decide (x ≤ hi)

theorem c75 (x lo hi : Int) : (orcω E X0).call 75 [.int .i64 x, .int .i64 lo, .int .i64 hi] = some (.bool (inB x lo hi)) := by
  refine call_of rfl fn75 rfl ?_
  by_cases h : lo ≤ x
  · simp only [Try.ntmps75, Try.results75, efc75, h, inB, so, sd, den_cond, evOps, zH, qG, zF, zG, wantedV, St.get, qE, qF, qB, onBool_true, onBool_false, zC, norm, look, zE, qA, qI, St.alloc, St.drop, zA, part, zB, depth, qD, ↓reduceIte, Nat.reduceBEq, Nat.reduceAdd, Nat.reduceSub, Nat.reduceMul, Nat.reduceEqDiff, Nat.reduceLeDiff, Nat.reduceLT, evRegion_still, evE, qJ, qK, qL, qM, qN, qO, evCall, qP, evAppend, qQ, qR, zI, qS, qC, qT, evSlice0, qV, qW, qX, qY, qZ, zJ, zK, zL, wit, Option.isSome_some, qH, xJ, evPre, evLitX, evAppX, evCold, nameT, te, einl, inls, efr]
  · simp only [Try.ntmps75, Try.results75, efc75, h, inB, so, sd, den_cond, evOps, zH, qG, zF, zG, wantedV, St.get, qE, qF, qB, onBool_true, onBool_false, zC, norm, look, zE, qA, qI, St.alloc, St.drop, zA, part, zB, depth, qD, ↓reduceIte, Nat.reduceBEq, Nat.reduceAdd, Nat.reduceSub, Nat.reduceMul, Nat.reduceEqDiff, Nat.reduceLeDiff, Nat.reduceLT, evRegion_still, evE, qJ, qK, qL, qM, qN, qO, evCall, qP, evAppend, qQ, qR, zI, qS, qC, qT, evSlice0, qV, qW, qX, qY, qZ, zJ, zK, zL, wit, Option.isSome_some, qH, xJ, evPre, evLitX, evAppX, evCold, nameT, te, einl, inls, efr]

theorem c94 (x lo hi : Int) : (orcω E X0).call 94 [.int .i64 x, .int .i64 lo, .int .i64 hi] = some (.bool (inB x lo hi)) := by
  refine call_of rfl fn94 rfl ?_
  by_cases h : lo ≤ x
  · simp only [Try.ntmps94, Try.results94, efc94, h, inB, so, sd, den_cond, evOps, zH, qG, zF, zG, wantedV, St.get, qE, qF, qB, onBool_true, onBool_false, zC, norm, look, zE, qA, qI, St.alloc, St.drop, zA, part, zB, depth, qD, ↓reduceIte, Nat.reduceBEq, Nat.reduceAdd, Nat.reduceSub, Nat.reduceMul, Nat.reduceEqDiff, Nat.reduceLeDiff, Nat.reduceLT, evRegion_still, evE, qJ, qK, qL, qM, qN, qO, evCall, qP, evAppend, qQ, qR, zI, qS, qC, qT, evSlice0, qV, qW, qX, qY, qZ, zJ, zK, zL, wit, Option.isSome_some, qH, xJ, evPre, evLitX, evAppX, evCold, nameT, te, einl, inls, efr]
  · simp only [Try.ntmps94, Try.results94, efc94, h, inB, so, sd, den_cond, evOps, zH, qG, zF, zG, wantedV, St.get, qE, qF, qB, onBool_true, onBool_false, zC, norm, look, zE, qA, qI, St.alloc, St.drop, zA, part, zB, depth, qD, ↓reduceIte, Nat.reduceBEq, Nat.reduceAdd, Nat.reduceSub, Nat.reduceMul, Nat.reduceEqDiff, Nat.reduceLeDiff, Nat.reduceLT, evRegion_still, evE, qJ, qK, qL, qM, qN, qO, evCall, qP, evAppend, qQ, qR, zI, qS, qC, qT, evSlice0, qV, qW, qX, qY, qZ, zJ, zK, zL, wit, Option.isSome_some, qH, xJ, evPre, evLitX, evAppX, evCold, nameT, te, einl, inls, efr]

def wellB (r : Run) : Bool := inB r.len 1 1000000 && inB r.thick 1 1000 && inB r.shade 0 99 && inB r.flaw 0 15

def ln (rs : List Run) : Int := rs.foldl (fun a r => IntKind.i64.wrap (a + r.len)) 0

theorem c61 (t : Bool) (rs : List Run) (hn : rs.length ≤ 1000000000) : (orcω E X0).call 61 [.sl t (rs.map encRun)] = some (.int .i64 (ln rs)) := by
  refine call_of rfl fn61 rfl ?_
  simp only [Try.ntmps61, Try.results61, efc61, fc61, so, sd, den_cond, evOps, zH, qG, zF, zG, wantedV, St.get, qE, qF, qB, onBool_true, onBool_false, zC, norm, look, zE, qA, qI, St.alloc, St.drop, zA, part, zB, depth, qD, ↓reduceIte, Nat.reduceBEq, Nat.reduceAdd, Nat.reduceSub, Nat.reduceMul, Nat.reduceEqDiff, Nat.reduceLeDiff, Nat.reduceLT, evRegion_still, evE, qJ, qK, qL, qM, qN, qO, evCall, qP, evAppend, qQ, qR, zI, qS, qC, qT, evSlice0, qV, qW, qX, qY, qZ, zJ, zK, zL, wit, Option.isSome_some, qH, xJ, evPre, evLitX, evAppX, evCold, nameT, te, einl, inls, efr]
  generalize hr : den E X0 _ 0 (Code.loop _) _ = r
  refine den_loop_post (K := fun x => outOfCall (atEnd E _ (andThen (atBlock 0 x) _)) = some _) hr (α := { p : List Run × List Run // rs = p.1 ++ p.2 })
    (fun a => { slots := [.junk, .junk, .junk, .int .i64 (ln a.1.1), .junk, .junk, .sl t (rs.map encRun), .int .i64 rs.length, .int .i64 a.1.1.length, .junk, .junk, .junk, .junk, .junk, .junk, .junk, .junk, .junk], outer := [], objs := [] })
    (fun a => a.1.2.length) ⟨([], rs), rfl⟩ ?_ ?_ <;> clear hr
  · simp only [so, sd, den_cond, evOps, zH, qG, zF, zG, wantedV, St.get, qE, qF, qB, onBool_true, onBool_false, zC, norm, look, zE, qA, qI, St.alloc, St.drop, zA, part, zB, depth, qD, ↓reduceIte, Nat.reduceBEq, Nat.reduceAdd, Nat.reduceSub, Nat.reduceMul, Nat.reduceEqDiff, Nat.reduceLeDiff, Nat.reduceLT, evRegion_still, evE, qJ, qK, qL, qM, qN, qO, evCall, qP, evAppend, qQ, qR, zI, qS, qC, qT, evSlice0, qV, qW, qX, qY, qZ, zJ, zK, zL, wit, Option.isSome_some, qH, xJ, evPre, evLitX, evAppX, evCold, nameT, te, einl, inls, efr, ln, List.foldl_nil, Int.natCast_zero]
  · rintro ⟨⟨pre, post⟩, hp⟩
    cases post with
    | nil =>
      obtain rfl : rs = pre := by simpa using hp
      simp only [Try.results61, Int.lt_irrefl, so, sd, den_cond, evOps, zH, qG, zF, zG, wantedV, St.get, qE, qF, qB, onBool_true, onBool_false, zC, norm, look, zE, qA, qI, St.alloc, St.drop, zA, part, zB, depth, qD, ↓reduceIte, Nat.reduceBEq, Nat.reduceAdd, Nat.reduceSub, Nat.reduceMul, Nat.reduceEqDiff, Nat.reduceLeDiff, Nat.reduceLT, evRegion_still, evE, qJ, qK, qL, qM, qN, qO, evCall, qP, evAppend, qQ, qR, zI, qS, qC, qT, evSlice0, qV, qW, qX, qY, qZ, zJ, zK, zL, wit, Option.isSome_some, qH, xJ, evPre, evLitX, evAppX, evCold, nameT, te, einl, inls, efr]
    | cons r post =>
      have hlt : ((pre.length : Int) < rs.length) := by subst hp; simp; omega
      have hget : rs[pre.length]? = some r := by subst hp; simp
      have hw : IntKind.i64.wrap ((pre.length : Int) + 1) = ((pre ++ [r]).length : Int) := by rw [IntWalk.i64_in _ (by omega)]; simp
      simp only [Try.results61, hlt, Int.natCast_nonneg, Int.toNat_natCast, List.getElem?_map, hget, encRun, so, sd, den_cond, evOps, zH, qG, zF, zG, wantedV, St.get, qE, qF, qB, onBool_true, onBool_false, zC, norm, look, zE, qA, qI, St.alloc, St.drop, zA, part, zB, depth, qD, ↓reduceIte, Nat.reduceBEq, Nat.reduceAdd, Nat.reduceSub, Nat.reduceMul, Nat.reduceEqDiff, Nat.reduceLeDiff, Nat.reduceLT, evRegion_still, evE, qJ, qK, qL, qM, qN, qO, evCall, qP, evAppend, qQ, qR, zI, qS, qC, qT, evSlice0, qV, qW, qX, qY, qZ, zJ, zK, zL, wit, Option.isSome_some, qH, xJ, evPre, evLitX, evAppX, evCold, nameT, te, einl, inls, efr]
      exact ⟨⟨(pre ++ [r], post), by simpa using hp⟩, by simp only [hw, ln, List.foldl_append, List.foldl_cons, List.foldl_nil], Nat.lt_succ_self _⟩

theorem c88 (t : Bool) (rs : List Run) (hn : rs.length ≤ 1000000000) : (orcω E X0).call 88 [.sl t (rs.map encRun)] = some (.int .i64 (ln rs)) := by
  refine call_of rfl fn88 rfl ?_
  simp only [Try.ntmps88, Try.results88, efc88, fc88, so, sd, den_cond, evOps, zH, qG, zF, zG, wantedV, St.get, qE, qF, qB, onBool_true, onBool_false, zC, norm, look, zE, qA, qI, St.alloc, St.drop, zA, part, zB, depth, qD, ↓reduceIte, Nat.reduceBEq, Nat.reduceAdd, Nat.reduceSub, Nat.reduceMul, Nat.reduceEqDiff, Nat.reduceLeDiff, Nat.reduceLT, evRegion_still, evE, qJ, qK, qL, qM, qN, qO, evCall, qP, evAppend, qQ, qR, zI, qS, qC, qT, evSlice0, qV, qW, qX, qY, qZ, zJ, zK, zL, wit, Option.isSome_some, qH, xJ, evPre, evLitX, evAppX, evCold, nameT, te, einl, inls, efr]
  generalize hr : den E X0 _ 0 (Code.loop _) _ = r
  refine den_loop_post (K := fun x => outOfCall (atEnd E _ (andThen (atBlock 0 x) _)) = some _) hr (α := { p : List Run × List Run // rs = p.1 ++ p.2 })
    (fun a => { slots := [.sl t (rs.map encRun), .junk, .junk, .int .i64 (ln a.1.1), .int .i64 a.1.1.length, .junk, .junk, .junk, .junk, .junk, .junk, .junk, .junk, .junk, .junk, .junk, .junk, .junk, .junk], outer := [], objs := [] })
    (fun a => a.1.2.length) ⟨([], rs), rfl⟩ ?_ ?_ <;> clear hr
  · simp only [so, sd, den_cond, evOps, zH, qG, zF, zG, wantedV, St.get, qE, qF, qB, onBool_true, onBool_false, zC, norm, look, zE, qA, qI, St.alloc, St.drop, zA, part, zB, depth, qD, ↓reduceIte, Nat.reduceBEq, Nat.reduceAdd, Nat.reduceSub, Nat.reduceMul, Nat.reduceEqDiff, Nat.reduceLeDiff, Nat.reduceLT, evRegion_still, evE, qJ, qK, qL, qM, qN, qO, evCall, qP, evAppend, qQ, qR, zI, qS, qC, qT, evSlice0, qV, qW, qX, qY, qZ, zJ, zK, zL, wit, Option.isSome_some, qH, xJ, evPre, evLitX, evAppX, evCold, nameT, te, einl, inls, efr, ln, List.foldl_nil, Int.natCast_zero]
  · rintro ⟨⟨pre, post⟩, hp⟩
    cases post with
    | nil =>
      obtain rfl : rs = pre := by simpa using hp
      simp only [Try.results88, Int.lt_irrefl, so, sd, den_cond, evOps, zH, qG, zF, zG, wantedV, St.get, qE, qF, qB, onBool_true, onBool_false, zC, norm, look, zE, qA, qI, St.alloc, St.drop, zA, part, zB, depth, qD, ↓reduceIte, Nat.reduceBEq, Nat.reduceAdd, Nat.reduceSub, Nat.reduceMul, Nat.reduceEqDiff, Nat.reduceLeDiff, Nat.reduceLT, evRegion_still, evE, qJ, qK, qL, qM, qN, qO, evCall, qP, evAppend, qQ, qR, zI, qS, qC, qT, evSlice0, qV, qW, qX, qY, qZ, zJ, zK, zL, wit, Option.isSome_some, qH, xJ, evPre, evLitX, evAppX, evCold, nameT, te, einl, inls, efr]
    | cons r post =>
      have hlt : ((pre.length : Int) < rs.length) := by subst hp; simp; omega
      have hget : rs[pre.length]? = some r := by subst hp; simp
      have hw : IntKind.i64.wrap ((pre.length : Int) + 1) = ((pre ++ [r]).length : Int) := by rw [IntWalk.i64_in _ (by omega)]; simp
      simp only [Try.results88, hlt, Int.natCast_nonneg, Int.toNat_natCast, List.getElem?_map, hget, encRun, so, sd, den_cond, evOps, zH, qG, zF, zG, wantedV, St.get, qE, qF, qB, onBool_true, onBool_false, zC, norm, look, zE, qA, qI, St.alloc, St.drop, zA, part, zB, depth, qD, ↓reduceIte, Nat.reduceBEq, Nat.reduceAdd, Nat.reduceSub, Nat.reduceMul, Nat.reduceEqDiff, Nat.reduceLeDiff, Nat.reduceLT, evRegion_still, evE, qJ, qK, qL, qM, qN, qO, evCall, qP, evAppend, qQ, qR, zI, qS, qC, qT, evSlice0, qV, qW, qX, qY, qZ, zJ, zK, zL, wit, Option.isSome_some, qH, xJ, evPre, evLitX, evAppX, evCold, nameT, te, einl, inls, efr]
      exact ⟨⟨(pre ++ [r], post), by simpa using hp⟩, by simp only [hw, ln, List.foldl_append, List.foldl_cons, List.foldl_nil], Nat.lt_succ_self _⟩

def validate (rs : List Run) : Int := if 40 < rs.length then 4 else if rs.all wellB = true then (if 1000000 < ln rs then 4 else 0) else 1

theorem c60 (t : Bool) (rs : List Run) (hn : rs.length ≤ 1000000000) : (orcω E X0).call 60 [.sl t (rs.map encRun)] = some (.int .i64 (validate rs)) := by
  refine call_of rfl fn60 rfl ?_
  by_cases h40 : (40 : Int) < rs.length
  · have hv : validate rs = 4 := by unfold validate; rw [if_pos (by omega)]
    simp only [Try.ntmps60, Try.results60, efc60, fc60, h40, hv, so, sd, den_cond, evOps, zH, qG, zF, zG, wantedV, St.get, qE, qF, qB, onBool_true, onBool_false, zC, norm, look, zE, qA, qI, St.alloc, St.drop, zA, part, zB, depth, qD, ↓reduceIte, Nat.reduceBEq, Nat.reduceAdd, Nat.reduceSub, Nat.reduceMul, Nat.reduceEqDiff, Nat.reduceLeDiff, Nat.reduceLT, evRegion_still, evE, qJ, qK, qL, qM, qN, qO, evCall, qP, evAppend, qQ, qR, zI, qS, qC, qT, evSlice0, qV, qW, qX, qY, qZ, zJ, zK, zL, wit, Option.isSome_some, qH, xJ, evPre, evLitX, evAppX, evCold, nameT, te, einl, inls, efr]
  simp only [Try.ntmps60, Try.results60, efc60, fc60, h40, so, sd, den_cond, evOps, zH, qG, zF, zG, wantedV, St.get, qE, qF, qB, onBool_true, onBool_false, zC, norm, look, zE, qA, qI, St.alloc, St.drop, zA, part, zB, depth, qD, ↓reduceIte, Nat.reduceBEq, Nat.reduceAdd, Nat.reduceSub, Nat.reduceMul, Nat.reduceEqDiff, Nat.reduceLeDiff, Nat.reduceLT, evRegion_still, evE, qJ, qK, qL, qM, qN, qO, evCall, qP, evAppend, qQ, qR, zI, qS, qC, qT, evSlice0, qV, qW, qX, qY, qZ, zJ, zK, zL, wit, Option.isSome_some, qH, xJ, evPre, evLitX, evAppX, evCold, nameT, te, einl, inls, efr]
  generalize hr : den E X0 _ 0 (Code.loop _) _ = r
  refine den_loop_post (K := fun x => outOfCall (atEnd E _ (andThen (atBlock 0 x) _)) = some _) hr (α := { p : List Run × List Run // rs = p.1 ++ p.2 ∧ p.1.all wellB = true })
    (fun a => { slots := [.sl t (rs.map encRun), .junk, .junk, .junk, .junk, .junk, .junk, .junk, .junk, .sl t (rs.map encRun), .int .i64 rs.length, .int .i64 a.1.1.length] ++ List.replicate 31 .junk, outer := [], objs := [] })
    (fun a => a.1.2.length) ⟨([], rs), rfl, rfl⟩ ?_ ?_ <;> clear hr
  · simp only [so, sd, den_cond, evOps, zH, qG, zF, zG, wantedV, St.get, qE, qF, qB, onBool_true, onBool_false, zC, norm, look, zE, qA, qI, St.alloc, St.drop, zA, part, zB, depth, qD, ↓reduceIte, Nat.reduceBEq, Nat.reduceAdd, Nat.reduceSub, Nat.reduceMul, Nat.reduceEqDiff, Nat.reduceLeDiff, Nat.reduceLT, evRegion_still, evE, qJ, qK, qL, qM, qN, qO, evCall, qP, evAppend, qQ, qR, zI, qS, qC, qT, evSlice0, qV, qW, qX, qY, qZ, zJ, zK, zL, wit, Option.isSome_some, qH, xJ, evPre, evLitX, evAppX, evCold, nameT, te, einl, inls, efr, Int.natCast_zero]
  · rintro ⟨⟨pre, post⟩, hp, hpre⟩
    cases post with
    | nil =>
      obtain rfl : rs = pre := by simpa using hp
      have hc := c61 false rs hn
      by_cases hl : 1000000 < ln rs
      · have hv : validate rs = 4 := by unfold validate; rw [if_neg (by omega), if_pos hpre, if_pos hl]
        simp only [Try.results60, Int.lt_irrefl, hc, hl, hv, so, sd, den_cond, evOps, zH, qG, zF, zG, wantedV, St.get, qE, qF, qB, onBool_true, onBool_false, zC, norm, look, zE, qA, qI, St.alloc, St.drop, zA, part, zB, depth, qD, ↓reduceIte, Nat.reduceBEq, Nat.reduceAdd, Nat.reduceSub, Nat.reduceMul, Nat.reduceEqDiff, Nat.reduceLeDiff, Nat.reduceLT, evRegion_still, evE, qJ, qK, qL, qM, qN, qO, evCall, qP, evAppend, qQ, qR, zI, qS, qC, qT, evSlice0, qV, qW, qX, qY, qZ, zJ, zK, zL, wit, Option.isSome_some, qH, xJ, evPre, evLitX, evAppX, evCold, nameT, te, einl, inls, efr]
      · have hv : validate rs = 0 := by unfold validate; rw [if_neg (by omega), if_pos hpre, if_neg hl]
        simp only [Try.results60, Int.lt_irrefl, hc, hl, hv, so, sd, den_cond, evOps, zH, qG, zF, zG, wantedV, St.get, qE, qF, qB, onBool_true, onBool_false, zC, norm, look, zE, qA, qI, St.alloc, St.drop, zA, part, zB, depth, qD, ↓reduceIte, Nat.reduceBEq, Nat.reduceAdd, Nat.reduceSub, Nat.reduceMul, Nat.reduceEqDiff, Nat.reduceLeDiff, Nat.reduceLT, evRegion_still, evE, qJ, qK, qL, qM, qN, qO, evCall, qP, evAppend, qQ, qR, zI, qS, qC, qT, evSlice0, qV, qW, qX, qY, qZ, zJ, zK, zL, wit, Option.isSome_some, qH, xJ, evPre, evLitX, evAppX, evCold, nameT, te, einl, inls, efr]
    | cons r post =>
      have hlt : ((pre.length : Int) < rs.length) := by subst hp; simp; omega
      have hget : rs[pre.length]? = some r := by subst hp; simp
      have hw : IntKind.i64.wrap ((pre.length : Int) + 1) = ((pre ++ [r]).length : Int) := by rw [IntWalk.i64_in _ (by omega)]; simp
      have hbad : wellB r = false → validate rs = 1 := fun hb => by
        unfold validate; rw [if_neg (by omega), if_neg]; subst hp; simp [hb]
      cases h1 : inB r.len 1 1000000 with
      | false =>
        have hv := hbad (by simp [wellB, h1])
        simp only [Try.results60, hlt, Int.natCast_nonneg, Int.toNat_natCast, List.getElem?_map, hget, encRun, c75, h1, hv, so, sd, den_cond, evOps, zH, qG, zF, zG, wantedV, St.get, qE, qF, qB, onBool_true, onBool_false, zC, norm, look, zE, qA, qI, St.alloc, St.drop, zA, part, zB, depth, qD, ↓reduceIte, Nat.reduceBEq, Nat.reduceAdd, Nat.reduceSub, Nat.reduceMul, Nat.reduceEqDiff, Nat.reduceLeDiff, Nat.reduceLT, evRegion_still, evE, qJ, qK, qL, qM, qN, qO, evCall, qP, evAppend, qQ, qR, zI, qS, qC, qT, evSlice0, qV, qW, qX, qY, qZ, zJ, zK, zL, wit, Option.isSome_some, qH, xJ, evPre, evLitX, evAppX, evCold, nameT, te, einl, inls, efr]
      | true =>
      cases h2 : inB r.thick 1 1000 with
      | false =>
        have hv := hbad (by simp [wellB, h2])
        simp only [Try.results60, hlt, Int.natCast_nonneg, Int.toNat_natCast, List.getElem?_map, hget, encRun, c75, h1, h2, hv, so, sd, den_cond, evOps, zH, qG, zF, zG, wantedV, St.get, qE, qF, qB, onBool_true, onBool_false, zC, norm, look, zE, qA, qI, St.alloc, St.drop, zA, part, zB, depth, qD, ↓reduceIte, Nat.reduceBEq, Nat.reduceAdd, Nat.reduceSub, Nat.reduceMul, Nat.reduceEqDiff, Nat.reduceLeDiff, Nat.reduceLT, evRegion_still, evE, qJ, qK, qL, qM, qN, qO, evCall, qP, evAppend, qQ, qR, zI, qS, qC, qT, evSlice0, qV, qW, qX, qY, qZ, zJ, zK, zL, wit, Option.isSome_some, qH, xJ, evPre, evLitX, evAppX, evCold, nameT, te, einl, inls, efr]
      | true =>
      cases h3 : inB r.shade 0 99 with
      | false =>
        have hv := hbad (by simp [wellB, h3])
        simp only [Try.results60, hlt, Int.natCast_nonneg, Int.toNat_natCast, List.getElem?_map, hget, encRun, c75, h1, h2, h3, hv, so, sd, den_cond, evOps, zH, qG, zF, zG, wantedV, St.get, qE, qF, qB, onBool_true, onBool_false, zC, norm, look, zE, qA, qI, St.alloc, St.drop, zA, part, zB, depth, qD, ↓reduceIte, Nat.reduceBEq, Nat.reduceAdd, Nat.reduceSub, Nat.reduceMul, Nat.reduceEqDiff, Nat.reduceLeDiff, Nat.reduceLT, evRegion_still, evE, qJ, qK, qL, qM, qN, qO, evCall, qP, evAppend, qQ, qR, zI, qS, qC, qT, evSlice0, qV, qW, qX, qY, qZ, zJ, zK, zL, wit, Option.isSome_some, qH, xJ, evPre, evLitX, evAppX, evCold, nameT, te, einl, inls, efr]
      | true =>
      cases h4 : inB r.flaw 0 15 with
      | false =>
        have hv := hbad (by simp [wellB, h4])
        simp only [Try.results60, hlt, Int.natCast_nonneg, Int.toNat_natCast, List.getElem?_map, hget, encRun, c75, h1, h2, h3, h4, hv, so, sd, den_cond, evOps, zH, qG, zF, zG, wantedV, St.get, qE, qF, qB, onBool_true, onBool_false, zC, norm, look, zE, qA, qI, St.alloc, St.drop, zA, part, zB, depth, qD, ↓reduceIte, Nat.reduceBEq, Nat.reduceAdd, Nat.reduceSub, Nat.reduceMul, Nat.reduceEqDiff, Nat.reduceLeDiff, Nat.reduceLT, evRegion_still, evE, qJ, qK, qL, qM, qN, qO, evCall, qP, evAppend, qQ, qR, zI, qS, qC, qT, evSlice0, qV, qW, qX, qY, qZ, zJ, zK, zL, wit, Option.isSome_some, qH, xJ, evPre, evLitX, evAppX, evCold, nameT, te, einl, inls, efr]
      | true =>
        simp only [Try.results60, hlt, Int.natCast_nonneg, Int.toNat_natCast, List.getElem?_map, hget, encRun, c75, h1, h2, h3, h4, so, sd, den_cond, evOps, zH, qG, zF, zG, wantedV, St.get, qE, qF, qB, onBool_true, onBool_false, zC, norm, look, zE, qA, qI, St.alloc, St.drop, zA, part, zB, depth, qD, ↓reduceIte, Nat.reduceBEq, Nat.reduceAdd, Nat.reduceSub, Nat.reduceMul, Nat.reduceEqDiff, Nat.reduceLeDiff, Nat.reduceLT, evRegion_still, evE, qJ, qK, qL, qM, qN, qO, evCall, qP, evAppend, qQ, qR, zI, qS, qC, qT, evSlice0, qV, qW, qX, qY, qZ, zJ, zK, zL, wit, Option.isSome_some, qH, xJ, evPre, evLitX, evAppX, evCold, nameT, te, einl, inls, efr]
        exact ⟨⟨(pre ++ [r], post), by simpa using hp, by simp [hpre, wellB, h1, h2, h3, h4]⟩, by simp only [hw, so, sd, den_cond, evOps, zH, qG, zF, zG, wantedV, St.get, qE, qF, qB, onBool_true, onBool_false, zC, norm, look, zE, qA, qI, St.alloc, St.drop, zA, part, zB, depth, qD, ↓reduceIte, Nat.reduceBEq, Nat.reduceAdd, Nat.reduceSub, Nat.reduceMul, Nat.reduceEqDiff, Nat.reduceLeDiff, Nat.reduceLT, evRegion_still, evE, qJ, qK, qL, qM, qN, qO, evCall, qP, evAppend, qQ, qR, zI, qS, qC, qT, evSlice0, qV, qW, qX, qY, qZ, zJ, zK, zL, wit, Option.isSome_some, qH, xJ, evPre, evLitX, evAppX, evCold, nameT, te, einl, inls, efr], Nat.lt_succ_self _⟩

end Go.AM.C
end

section
namespace Go.AM.C
open Go Go.Proofs

theorem c78 (t : Bool) (rs : List Run) (hn : rs.length ≤ 1000000000) : (orcω E X0).call 78 [.sl t (rs.map encRun)] = some (.int .i64 (validate rs)) := by
  refine call_of rfl fn78 rfl ?_
  by_cases h40 : (40 : Int) < rs.length
  · have hv : validate rs = 4 := by unfold validate; rw [if_pos (by omega)]
    simp only [Try.ntmps78, Try.results78, efc78, fc78, h40, hv, so, sd, den_cond, evOps, zH, qG, zF, zG, wantedV, St.get, qE, qF, qB, onBool_true, onBool_false, zC, norm, look, zE, qA, qI, St.alloc, St.drop, zA, part, zB, depth, qD, ↓reduceIte, Nat.reduceBEq, Nat.reduceAdd, Nat.reduceSub, Nat.reduceMul, Nat.reduceEqDiff, Nat.reduceLeDiff, Nat.reduceLT, evRegion_still, evE, qJ, qK, qL, qM, qN, qO, evCall, qP, evAppend, qQ, qR, zI, qS, qC, qT, evSlice0, qV, qW, qX, qY, qZ, zJ, zK, zL, wit, Option.isSome_some, qH, xJ, evPre, evLitX, evAppX, evCold, nameT, te, einl, inls, efr]
  simp only [Try.ntmps78, Try.results78, efc78, fc78, h40, so, sd, den_cond, evOps, zH, qG, zF, zG, wantedV, St.get, qE, qF, qB, onBool_true, onBool_false, zC, norm, look, zE, qA, qI, St.alloc, St.drop, zA, part, zB, depth, qD, ↓reduceIte, Nat.reduceBEq, Nat.reduceAdd, Nat.reduceSub, Nat.reduceMul, Nat.reduceEqDiff, Nat.reduceLeDiff, Nat.reduceLT, evRegion_still, evE, qJ, qK, qL, qM, qN, qO, evCall, qP, evAppend, qQ, qR, zI, qS, qC, qT, evSlice0, qV, qW, qX, qY, qZ, zJ, zK, zL, wit, Option.isSome_some, qH, xJ, evPre, evLitX, evAppX, evCold, nameT, te, einl, inls, efr]
  generalize hr : den E X0 _ 0 (Code.loop _) _ = r
  refine den_loop_post (K := fun x => outOfCall (atEnd E _ (andThen (atBlock 0 x) _)) = some _) hr (α := { p : List Run × List Run // rs = p.1 ++ p.2 ∧ p.1.all wellB = true })
    (fun a => { slots := [.sl t (rs.map encRun), .junk, .junk, .int .i64 (ln a.1.1), .int .i64 a.1.1.length] ++ List.replicate 49 .junk, outer := [], objs := [] })
    (fun a => a.1.2.length) ⟨([], rs), rfl, rfl⟩ ?_ ?_ <;> clear hr
  · simp only [ln, List.foldl_nil, so, sd, den_cond, evOps, zH, qG, zF, zG, wantedV, St.get, qE, qF, qB, onBool_true, onBool_false, zC, norm, look, zE, qA, qI, St.alloc, St.drop, zA, part, zB, depth, qD, ↓reduceIte, Nat.reduceBEq, Nat.reduceAdd, Nat.reduceSub, Nat.reduceMul, Nat.reduceEqDiff, Nat.reduceLeDiff, Nat.reduceLT, evRegion_still, evE, qJ, qK, qL, qM, qN, qO, evCall, qP, evAppend, qQ, qR, zI, qS, qC, qT, evSlice0, qV, qW, qX, qY, qZ, zJ, zK, zL, wit, Option.isSome_some, qH, xJ, evPre, evLitX, evAppX, evCold, nameT, te, einl, inls, efr, Int.natCast_zero]
  · rintro ⟨⟨pre, post⟩, hp, hpre⟩
    cases post with
    | nil =>
      obtain rfl : rs = pre := by simpa using hp
      by_cases hl : 1000000 < ln rs
      · have hv : validate rs = 4 := by unfold validate; rw [if_neg (by omega), if_pos hpre, if_pos hl]
        simp only [Try.results78, Int.lt_irrefl, hl, hv, so, sd, den_cond, evOps, zH, qG, zF, zG, wantedV, St.get, qE, qF, qB, onBool_true, onBool_false, zC, norm, look, zE, qA, qI, St.alloc, St.drop, zA, part, zB, depth, qD, ↓reduceIte, Nat.reduceBEq, Nat.reduceAdd, Nat.reduceSub, Nat.reduceMul, Nat.reduceEqDiff, Nat.reduceLeDiff, Nat.reduceLT, evRegion_still, evE, qJ, qK, qL, qM, qN, qO, evCall, qP, evAppend, qQ, qR, zI, qS, qC, qT, evSlice0, qV, qW, qX, qY, qZ, zJ, zK, zL, wit, Option.isSome_some, qH, xJ, evPre, evLitX, evAppX, evCold, nameT, te, einl, inls, efr]
      · have hv : validate rs = 0 := by unfold validate; rw [if_neg (by omega), if_pos hpre, if_neg hl]
        simp only [Try.results78, Int.lt_irrefl, hl, hv, so, sd, den_cond, evOps, zH, qG, zF, zG, wantedV, St.get, qE, qF, qB, onBool_true, onBool_false, zC, norm, look, zE, qA, qI, St.alloc, St.drop, zA, part, zB, depth, qD, ↓reduceIte, Nat.reduceBEq, Nat.reduceAdd, Nat.reduceSub, Nat.reduceMul, Nat.reduceEqDiff, Nat.reduceLeDiff, Nat.reduceLT, evRegion_still, evE, qJ, qK, qL, qM, qN, qO, evCall, qP, evAppend, qQ, qR, zI, qS, qC, qT, evSlice0, qV, qW, qX, qY, qZ, zJ, zK, zL, wit, Option.isSome_some, qH, xJ, evPre, evLitX, evAppX, evCold, nameT, te, einl, inls, efr]
    | cons r post =>
      have hlt : ((pre.length : Int) < rs.length) := by subst hp; simp; omega
      have hget : rs[pre.length]? = some r := by subst hp; simp
      have hw : IntKind.i64.wrap ((pre.length : Int) + 1) = ((pre ++ [r]).length : Int) := by rw [IntWalk.i64_in _ (by omega)]; simp
      have hbad : wellB r = false → validate rs = 1 := fun hb => by
        unfold validate; rw [if_neg (by omega), if_neg]; subst hp; simp [hb]
      cases h1 : inB r.len 1 1000000 with
      | false =>
        have hv := hbad (by simp [wellB, h1])
        simp only [Try.results78, hlt, Int.natCast_nonneg, Int.toNat_natCast, List.getElem?_map, hget, encRun, c94, h1, hv, so, sd, den_cond, evOps, zH, qG, zF, zG, wantedV, St.get, qE, qF, qB, onBool_true, onBool_false, zC, norm, look, zE, qA, qI, St.alloc, St.drop, zA, part, zB, depth, qD, ↓reduceIte, Nat.reduceBEq, Nat.reduceAdd, Nat.reduceSub, Nat.reduceMul, Nat.reduceEqDiff, Nat.reduceLeDiff, Nat.reduceLT, evRegion_still, evE, qJ, qK, qL, qM, qN, qO, evCall, qP, evAppend, qQ, qR, zI, qS, qC, qT, evSlice0, qV, qW, qX, qY, qZ, zJ, zK, zL, wit, Option.isSome_some, qH, xJ, evPre, evLitX, evAppX, evCold, nameT, te, einl, inls, efr]
      | true =>
      cases h2 : inB r.thick 1 1000 with
      | false =>
        have hv := hbad (by simp [wellB, h2])
        simp only [Try.results78, hlt, Int.natCast_nonneg, Int.toNat_natCast, List.getElem?_map, hget, encRun, c94, h1, h2, hv, so, sd, den_cond, evOps, zH, qG, zF, zG, wantedV, St.get, qE, qF, qB, onBool_true, onBool_false, zC, norm, look, zE, qA, qI, St.alloc, St.drop, zA, part, zB, depth, qD, ↓reduceIte, Nat.reduceBEq, Nat.reduceAdd, Nat.reduceSub, Nat.reduceMul, Nat.reduceEqDiff, Nat.reduceLeDiff, Nat.reduceLT, evRegion_still, evE, qJ, qK, qL, qM, qN, qO, evCall, qP, evAppend, qQ, qR, zI, qS, qC, qT, evSlice0, qV, qW, qX, qY, qZ, zJ, zK, zL, wit, Option.isSome_some, qH, xJ, evPre, evLitX, evAppX, evCold, nameT, te, einl, inls, efr]
      | true =>
      cases h3 : inB r.shade 0 99 with
      | false =>
        have hv := hbad (by simp [wellB, h3])
        simp only [Try.results78, hlt, Int.natCast_nonneg, Int.toNat_natCast, List.getElem?_map, hget, encRun, c94, h1, h2, h3, hv, so, sd, den_cond, evOps, zH, qG, zF, zG, wantedV, St.get, qE, qF, qB, onBool_true, onBool_false, zC, norm, look, zE, qA, qI, St.alloc, St.drop, zA, part, zB, depth, qD, ↓reduceIte, Nat.reduceBEq, Nat.reduceAdd, Nat.reduceSub, Nat.reduceMul, Nat.reduceEqDiff, Nat.reduceLeDiff, Nat.reduceLT, evRegion_still, evE, qJ, qK, qL, qM, qN, qO, evCall, qP, evAppend, qQ, qR, zI, qS, qC, qT, evSlice0, qV, qW, qX, qY, qZ, zJ, zK, zL, wit, Option.isSome_some, qH, xJ, evPre, evLitX, evAppX, evCold, nameT, te, einl, inls, efr]
      | true =>
      cases h4 : inB r.flaw 0 15 with
      | false =>
        have hv := hbad (by simp [wellB, h4])
        simp only [Try.results78, hlt, Int.natCast_nonneg, Int.toNat_natCast, List.getElem?_map, hget, encRun, c94, h1, h2, h3, h4, hv, so, sd, den_cond, evOps, zH, qG, zF, zG, wantedV, St.get, qE, qF, qB, onBool_true, onBool_false, zC, norm, look, zE, qA, qI, St.alloc, St.drop, zA, part, zB, depth, qD, ↓reduceIte, Nat.reduceBEq, Nat.reduceAdd, Nat.reduceSub, Nat.reduceMul, Nat.reduceEqDiff, Nat.reduceLeDiff, Nat.reduceLT, evRegion_still, evE, qJ, qK, qL, qM, qN, qO, evCall, qP, evAppend, qQ, qR, zI, qS, qC, qT, evSlice0, qV, qW, qX, qY, qZ, zJ, zK, zL, wit, Option.isSome_some, qH, xJ, evPre, evLitX, evAppX, evCold, nameT, te, einl, inls, efr]
      | true =>
        simp only [Try.results78, hlt, Int.natCast_nonneg, Int.toNat_natCast, List.getElem?_map, hget, encRun, c94, h1, h2, h3, h4, so, sd, den_cond, evOps, zH, qG, zF, zG, wantedV, St.get, qE, qF, qB, onBool_true, onBool_false, zC, norm, look, zE, qA, qI, St.alloc, St.drop, zA, part, zB, depth, qD, ↓reduceIte, Nat.reduceBEq, Nat.reduceAdd, Nat.reduceSub, Nat.reduceMul, Nat.reduceEqDiff, Nat.reduceLeDiff, Nat.reduceLT, evRegion_still, evE, qJ, qK, qL, qM, qN, qO, evCall, qP, evAppend, qQ, qR, zI, qS, qC, qT, evSlice0, qV, qW, qX, qY, qZ, zJ, zK, zL, wit, Option.isSome_some, qH, xJ, evPre, evLitX, evAppX, evCold, nameT, te, einl, inls, efr]
        exact ⟨⟨(pre ++ [r], post), by simpa using hp, by simp [hpre, wellB, h1, h2, h3, h4]⟩, by simp only [hw, ln, List.foldl_append, List.foldl_cons, List.foldl_nil, so, sd, den_cond, evOps, zH, qG, zF, zG, wantedV, St.get, qE, qF, qB, onBool_true, onBool_false, zC, norm, look, zE, qA, qI, St.alloc, St.drop, zA, part, zB, depth, qD, ↓reduceIte, Nat.reduceBEq, Nat.reduceAdd, Nat.reduceSub, Nat.reduceMul, Nat.reduceEqDiff, Nat.reduceLeDiff, Nat.reduceLT, evRegion_still, evE, qJ, qK, qL, qM, qN, qO, evCall, qP, evAppend, qQ, qR, zI, qS, qC, qT, evSlice0, qV, qW, qX, qY, qZ, zJ, zK, zL, wit, Option.isSome_some, qH, xJ, evPre, evLitX, evAppX, evCold, nameT, te, einl, inls, efr], Nat.lt_succ_self _⟩

def same (r s : Run) : Bool := r.thick == s.thick && (r.shade == s.shade && (r.flaw == s.flaw && true))

theorem c91 (r s : Run) : (orcω E X0).call 91 [encRun r, encRun s] = some (.bool (same r s)) := by
  refine call_of rfl fn91 rfl ?_
  simp only [Try.ntmps91, Try.results91, efc91, encRun, same, so, sd, den_cond, evOps, zH, qG, zF, zG, wantedV, St.get, qE, qF, qB, onBool_true, onBool_false, zC, norm, look, zE, qA, qI, St.alloc, St.drop, zA, part, zB, depth, qD, ↓reduceIte, Nat.reduceBEq, Nat.reduceAdd, Nat.reduceSub, Nat.reduceMul, Nat.reduceEqDiff, Nat.reduceLeDiff, Nat.reduceLT, evRegion_still, evE, qJ, qK, qL, qM, qN, qO, evCall, qP, evAppend, qQ, qR, zI, qS, qC, qT, evSlice0, qV, qW, qX, qY, qZ, zJ, zK, zL, wit, Option.isSome_some, qH, xJ, evPre, evLitX, evAppX, evCold, nameT, te, einl, inls, efr]

def merge (r s : Run) : Run := { r with len := IntKind.i64.wrap (r.len + s.len) }

theorem c92 (r s : Run) : (orcω E X0).call 92 [encRun r, encRun s] = some (encRun (merge r s)) := by
  refine call_of rfl fn92 rfl ?_
  simp only [Try.ntmps92, Try.results92, efc92, encRun, merge, so, sd, den_cond, evOps, zH, qG, zF, zG, wantedV, St.get, qE, qF, qB, onBool_true, onBool_false, zC, norm, look, zE, qA, qI, St.alloc, St.drop, zA, part, zB, depth, qD, ↓reduceIte, Nat.reduceBEq, Nat.reduceAdd, Nat.reduceSub, Nat.reduceMul, Nat.reduceEqDiff, Nat.reduceLeDiff, Nat.reduceLT, evRegion_still, evE, qJ, qK, qL, qM, qN, qO, evCall, qP, evAppend, qQ, qR, zI, qS, qC, qT, evSlice0, qV, qW, qX, qY, qZ, zJ, zK, zL, wit, Option.isSome_some, qH, xJ, evPre, evLitX, evAppX, evCold, nameT, te, einl, inls, efr]

end Go.AM.C
end

section
namespace Go.AM.C
open Go Go.Proofs

def push (acc : List Run) (r : Run) : List Run := match acc.getLast? with
  | some s => if same s r = true then acc.set (acc.length - 1) (merge s r) else acc ++ [r]
  | none => acc ++ [r]

def joinedL (rs : List Run) : List Run := rs.foldl push []

theorem push_le (acc : List Run) (r : Run) : (push acc r).length ≤ acc.length + 1 := by
  unfold push
  split
  · split <;> simp
  · simp

theorem push_cases (acc : List Run) : acc = [] ∨ ∃ n s, acc.length = n + 1 ∧ acc[n]? = some s ∧ acc.getLast? = some s := by
  rcases List.eq_nil_or_concat acc with rfl | ⟨l, s, rfl⟩
  · exact .inl rfl
  · refine .inr ⟨l.length, s, by simp, by simp, by simp⟩

theorem take_map (acc : List Run) : (acc.map encRun).take acc.length = acc.map encRun := List.take_of_length_le (by simp)

theorem c90 (t : Bool) (rs : List Run) (hn : rs.length ≤ 1000000000) : (orcω E X0).call 90 [.sl t (rs.map encRun), .clo 91 [] [], .clo 92 [] []] = some (.sl true ((joinedL rs).map encRun)) := by
  refine call_of rfl fn90 rfl ?_
  have hok : okCode (Try.f90.body.getD .skip) = true := by decide +kernel
  simp only [Try.f90, Option.getD_some, okCode, Bool.and_eq_true, Bool.and_true, Bool.true_and] at hok
  simp only [Try.ntmps90, Try.results90, efc90, fc90, so, sd, den_cond, evOps, zH, qG, zF, zG, wantedV, St.get, qE, qF, qB, onBool_true, onBool_false, zC, norm, look, zE, qA, qI, St.alloc, St.drop, zA, part, zB, depth, qD, ↓reduceIte, Nat.reduceBEq, Nat.reduceAdd, Nat.reduceSub, Nat.reduceMul, Nat.reduceEqDiff, Nat.reduceLeDiff, Nat.reduceLT, evRegion_still, evE, qJ, qK, qL, qM, qN, qO, evCall, qP, evAppend, qQ, qR, zI, qS, qC, qT, evSlice0, qV, qW, qX, qY, qZ, zJ, zK, zL, wit, Option.isSome_some, qH, xJ, evPre, evLitX, evAppX, evCold, nameT, te, einl, inls, efr]
  generalize hr : den E X0 _ 0 (Code.loop _) _ = r
  refine den_loop_post (K := fun x => outOfCall (atEnd E _ (andThen (atBlock 0 x) _)) = some _) hr (α := { p : (List Run × List Run) × List Run // rs = p.1.1 ++ p.1.2 ∧ p.2 = joinedL p.1.1 ∧ p.2.length ≤ p.1.1.length })
    (fun a => { slots := [.junk, .clo 91 [] [], .clo 92 [] [], .junk, .junk, .junk, .junk, .own 7 0 a.1.2.length, .junk, .junk, .junk, .sl t (rs.map encRun), .int .i64 rs.length, .int .i64 a.1.1.1.length] ++ List.replicate 35 .junk, outer := [], objs := [(7, { es := 4, flat := true, t := true, app := true, elems := a.1.2.map encRun })] })
    (fun a => a.1.1.2.length) ⟨(([], rs), []), rfl, rfl, Nat.le_refl _⟩ ?_ ?_ <;> clear hr
  · simp only [so, sd, den_cond, evOps, zH, qG, zF, zG, wantedV, St.get, qE, qF, qB, onBool_true, onBool_false, zC, norm, look, zE, qA, qI, St.alloc, St.drop, zA, part, zB, depth, qD, ↓reduceIte, Nat.reduceBEq, Nat.reduceAdd, Nat.reduceSub, Nat.reduceMul, Nat.reduceEqDiff, Nat.reduceLeDiff, Nat.reduceLT, evRegion_still, evE, qJ, qK, qL, qM, qN, qO, evCall, qP, evAppend, qQ, qR, zI, qS, qC, qT, evSlice0, qV, qW, qX, qY, qZ, zJ, zK, zL, wit, Option.isSome_some, qH, xJ, evPre, evLitX, evAppX, evCold, nameT, te, einl, inls, efr, Int.natCast_zero]
    trace_state
  · rintro ⟨⟨⟨pre, post⟩, acc⟩, hp, hacc, hle⟩
    dsimp only at hp hacc hle
    cases post with
    | nil =>
      obtain rfl : rs = pre := by simpa using hp
      subst hacc
      simp only [Try.results90, Int.lt_irrefl, take_map, so, sd, den_cond, evOps, zH, qG, zF, zG, wantedV, St.get, qE, qF, qB, onBool_true, onBool_false, zC, norm, look, zE, qA, qI, St.alloc, St.drop, zA, part, zB, depth, qD, ↓reduceIte, Nat.reduceBEq, Nat.reduceAdd, Nat.reduceSub, Nat.reduceMul, Nat.reduceEqDiff, Nat.reduceLeDiff, Nat.reduceLT, evRegion_still, evE, qJ, qK, qL, qM, qN, qO, evCall, qP, evAppend, qQ, qR, zI, qS, qC, qT, evSlice0, qV, qW, qX, qY, qZ, zJ, zK, zL, wit, Option.isSome_some, qH, xJ, evPre, evLitX, evAppX, evCold, nameT, te, einl, inls, efr]
    | cons r post =>
      have hlt : ((pre.length : Int) < rs.length) := by subst hp; simp; omega
      have hget : rs[pre.length]? = some r := by subst hp; simp
      have hw : IntKind.i64.wrap ((pre.length : Int) + 1) = ((pre ++ [r]).length : Int) := by rw [IntWalk.i64_in _ (by omega)]; simp
      have hlt' : pre.length < rs.length := by omega
      have hroom : roomy (acc.length + 1) 32 = true := by simp [roomy]; omega
      have hbig : acc.length + 1 ≤ 4294967296 := by omega
      have hacc' : push acc r = joinedL (pre ++ [r]) := by rw [hacc]; simp [joinedL]
      have hple := push_le acc r
      have fin : ∀ (s : St), s = { slots := [.junk, .clo 91 [] [], .clo 92 [] [], .junk, .junk, .junk, .junk, .own 7 0 (push acc r).length, .junk, .junk, .junk, .sl t (rs.map encRun), .int .i64 rs.length, .int .i64 ((pre ++ [r]).length : Nat)] ++ List.replicate 35 .junk, outer := [], objs := [(7, { es := 4, flat := true, t := true, app := true, elems := (push acc r).map encRun })] } →
          ∃ a' : { p : (List Run × List Run) × List Run // rs = p.1.1 ++ p.1.2 ∧ p.2 = joinedL p.1.1 ∧ p.2.length ≤ p.1.1.length }, s = { slots := [.junk, .clo 91 [] [], .clo 92 [] [], .junk, .junk, .junk, .junk, .own 7 0 a'.1.2.length, .junk, .junk, .junk, .sl t (rs.map encRun), .int .i64 rs.length, .int .i64 a'.1.1.1.length] ++ List.replicate 35 .junk, outer := [], objs := [(7, { es := 4, flat := true, t := true, app := true, elems := a'.1.2.map encRun })] } ∧ a'.1.1.2.length < (r :: post).length := fun s hs =>
        ⟨⟨((pre ++ [r], post), push acc r), by simpa using hp, hacc', by simp; omega⟩, hs, Nat.lt_succ_self _⟩
      rcases push_cases acc with h0 | ⟨n, s, hn1, hn2, hn3⟩
      · subst h0
        have hroom1 : roomy 1 32 = true := by simp [roomy]
        simp only [hroom1, hok, evRegion_static, hlt, Int.natCast_nonneg, Int.toNat_natCast, List.getElem?_map, hget, encRun, Int.natCast_zero, Int.lt_irrefl, hroom, hbig, so, sd, den_cond, evOps, zH, qG, zF, zG, wantedV, St.get, qE, qF, qB, onBool_true, onBool_false, zC, norm, look, zE, qA, qI, St.alloc, St.drop, zA, part, zB, depth, qD, ↓reduceIte, Nat.reduceBEq, Nat.reduceAdd, Nat.reduceSub, Nat.reduceMul, Nat.reduceEqDiff, Nat.reduceLeDiff, Nat.reduceLT, evRegion_still, evE, qJ, qK, qL, qM, qN, qO, evCall, qP, evAppend, qQ, qR, zI, qS, qC, qT, evSlice0, qV, qW, qX, qY, qZ, zJ, zK, zL, wit, Option.isSome_some, qH, xJ, evPre, evLitX, evAppX, evCold, nameT, te, einl, inls, efr]
        refine fin _ ?_
        simp [push, hw, encRun]
      · cases hs : same s r with
        | false =>
          have hpos : (0 : Int) < acc.length := by omega
          have hsub : IntKind.i64.wrap ((acc.length : Int) - 1) = (n : Int) := by rw [IntWalk.i64_in _ (by omega)]; omega
          have hlt2 : (n : Int) < acc.length := by omega
          have hc := c91 s r
          rw [hs] at hc
          simp only [encRun] at hc
          simp only [hok, evRegion_static, hlt, Int.natCast_nonneg, Int.toNat_natCast, List.getElem?_map, hget, encRun, hpos, hsub, hlt2, hn2, hc, hroom, hbig, so, sd, den_cond, evOps, zH, qG, zF, zG, wantedV, St.get, qE, qF, qB, onBool_true, onBool_false, zC, norm, look, zE, qA, qI, St.alloc, St.drop, zA, part, zB, depth, qD, ↓reduceIte, Nat.reduceBEq, Nat.reduceAdd, Nat.reduceSub, Nat.reduceMul, Nat.reduceEqDiff, Nat.reduceLeDiff, Nat.reduceLT, evRegion_still, evE, qJ, qK, qL, qM, qN, qO, evCall, qP, evAppend, qQ, qR, zI, qS, qC, qT, evSlice0, qV, qW, qX, qY, qZ, zJ, zK, zL, wit, Option.isSome_some, qH, xJ, evPre, evLitX, evAppX, evCold, nameT, te, einl, inls, efr]
          refine fin _ ?_
          simp [push, hn3, hs, hw, encRun]
        | true =>
          have hpos : (0 : Int) < acc.length := by omega
          have hsub : IntKind.i64.wrap ((acc.length : Int) - 1) = (n : Int) := by rw [IntWalk.i64_in _ (by omega)]; omega
          have hlt2 : (n : Int) < acc.length := by omega
          have hc := c91 s r
          rw [hs] at hc
          simp only [encRun] at hc
          have hc2 := c92 s r
          simp only [encRun] at hc2
          simp only [hok, evRegion_static, hlt, Int.natCast_nonneg, Int.toNat_natCast, List.getElem?_map, hget, encRun, hpos, hsub, hlt2, hn2, hc, hc2, hroom, hbig, so, sd, den_cond, evOps, zH, qG, zF, zG, wantedV, St.get, qE, qF, qB, onBool_true, onBool_false, zC, norm, look, zE, qA, qI, St.alloc, St.drop, zA, part, zB, depth, qD, ↓reduceIte, Nat.reduceBEq, Nat.reduceAdd, Nat.reduceSub, Nat.reduceMul, Nat.reduceEqDiff, Nat.reduceLeDiff, Nat.reduceLT, evRegion_still, evE, qJ, qK, qL, qM, qN, qO, evCall, qP, evAppend, qQ, qR, zI, qS, qC, qT, evSlice0, qV, qW, qX, qY, qZ, zJ, zK, zL, wit, Option.isSome_some, qH, xJ, evPre, evLitX, evAppX, evCold, nameT, te, einl, inls, efr]
          refine fin _ ?_
          simp [push, hn3, hs, hw, hn1, encRun]

end Go.AM.C
end

section
namespace Go.AM.C
open Go Go.Proofs

theorem joined_le (rs : List Run) : (joinedL rs).length ≤ rs.length := by
  have : ∀ (rs acc : List Run), (rs.foldl push acc).length ≤ acc.length + rs.length := by
    intro rs
    induction rs with
    | nil => intro acc; simp
    | cons r rs ih =>
      intro acc
      have h1 := ih (push acc r)
      have h2 := push_le acc r
      simp only [List.foldl_cons, List.length_cons]
      omega
  simpa [joinedL] using this rs []

theorem c76 (t : Bool) (rs : List Run) (hn : rs.length ≤ 1000000000) : (orcω E X0).call 76 [.sl t (rs.map encRun)] = some (.sl true ((joinedL rs).map encRun)) := by
  refine call_of rfl fn76 rfl ?_
  have hc := c90 false rs hn
  simp only [Try.ntmps76, Try.results76, efc76, hc, so, sd, den_cond, evOps, zH, qG, zF, zG, wantedV, St.get, qE, qF, qB, onBool_true, onBool_false, zC, norm, look, zE, qA, qI, St.alloc, St.drop, zA, part, zB, depth, qD, ↓reduceIte, Nat.reduceBEq, Nat.reduceAdd, Nat.reduceSub, Nat.reduceMul, Nat.reduceEqDiff, Nat.reduceLeDiff, Nat.reduceLT, evRegion_still, evE, qJ, qK, qL, qM, qN, qO, evCall, qP, evAppend, qQ, qR, zI, qS, qC, qT, evSlice0, qV, qW, qX, qY, qZ, zJ, zK, zL, wit, Option.isSome_some, qH, xJ, evPre, evLitX, evAppX, evCold, nameT, te, einl, inls, efr]

def encRes (out : List Run × Int) : V := .tup [.sl true (out.1.map encRun), .int .i64 out.2]

def finished (js : List Run) : List Run × Int := if 40 < js.length ∨ 1000000 < ln js then ([], 4) else (js, 0)

theorem c63 (t : Bool) (rs : List Run) (hn : rs.length ≤ 1000000000) : (orcω E X0).call 63 [.sl t (rs.map encRun)] = some (encRes (finished (joinedL rs))) := by
  refine call_of rfl fn63 rfl ?_
  have hc := c76 false rs hn
  have hj := joined_le rs
  have hl := c61 false (joinedL rs) (by omega)
  by_cases h1 : (40 : Int) < (joinedL rs).length
  · have hf : finished (joinedL rs) = ([], 4) := by unfold finished; rw [if_pos (.inl (by omega))]
    simp only [Try.ntmps63, Try.results63, efc63, hc, h1, hf, encRes, so, sd, den_cond, evOps, zH, qG, zF, zG, wantedV, St.get, qE, qF, qB, onBool_true, onBool_false, zC, norm, look, zE, qA, qI, St.alloc, St.drop, zA, part, zB, depth, qD, ↓reduceIte, Nat.reduceBEq, Nat.reduceAdd, Nat.reduceSub, Nat.reduceMul, Nat.reduceEqDiff, Nat.reduceLeDiff, Nat.reduceLT, evRegion_still, evE, qJ, qK, qL, qM, qN, qO, evCall, qP, evAppend, qQ, qR, zI, qS, qC, qT, evSlice0, qV, qW, qX, qY, qZ, zJ, zK, zL, wit, Option.isSome_some, qH, xJ, evPre, evLitX, evAppX, evCold, nameT, te, einl, inls, efr]
  · by_cases h2 : 1000000 < ln (joinedL rs)
    · have hf : finished (joinedL rs) = ([], 4) := by unfold finished; rw [if_pos (.inr h2)]
      simp only [Try.ntmps63, Try.results63, efc63, hc, h1, hl, h2, hf, encRes, so, sd, den_cond, evOps, zH, qG, zF, zG, wantedV, St.get, qE, qF, qB, onBool_true, onBool_false, zC, norm, look, zE, qA, qI, St.alloc, St.drop, zA, part, zB, depth, qD, ↓reduceIte, Nat.reduceBEq, Nat.reduceAdd, Nat.reduceSub, Nat.reduceMul, Nat.reduceEqDiff, Nat.reduceLeDiff, Nat.reduceLT, evRegion_still, evE, qJ, qK, qL, qM, qN, qO, evCall, qP, evAppend, qQ, qR, zI, qS, qC, qT, evSlice0, qV, qW, qX, qY, qZ, zJ, zK, zL, wit, Option.isSome_some, qH, xJ, evPre, evLitX, evAppX, evCold, nameT, te, einl, inls, efr]
    · have hf : finished (joinedL rs) = (joinedL rs, 0) := by unfold finished; rw [if_neg (by omega)]
      simp only [Try.ntmps63, Try.results63, efc63, hc, h1, hl, h2, hf, encRes, so, sd, den_cond, evOps, zH, qG, zF, zG, wantedV, St.get, qE, qF, qB, onBool_true, onBool_false, zC, norm, look, zE, qA, qI, St.alloc, St.drop, zA, part, zB, depth, qD, ↓reduceIte, Nat.reduceBEq, Nat.reduceAdd, Nat.reduceSub, Nat.reduceMul, Nat.reduceEqDiff, Nat.reduceLeDiff, Nat.reduceLT, evRegion_still, evE, qJ, qK, qL, qM, qN, qO, evCall, qP, evAppend, qQ, qR, zI, qS, qC, qT, evSlice0, qV, qW, qX, qY, qZ, zJ, zK, zL, wit, Option.isSome_some, qH, xJ, evPre, evLitX, evAppX, evCold, nameT, te, einl, inls, efr]

def normal (rs : List Run) : List Run × Int := if validate rs = 0 then finished (joinedL rs) else ([], validate rs)

def encLen (out : Int × Int) : V := .tup [.int .i64 out.1, .int .i64 out.2]
def lengthM (rs : List Run) : Int × Int := if validate rs = 0 then (ln rs, 0) else (0, validate rs)

end Go.AM.C
end

