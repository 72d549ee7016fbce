import Derived.Test.YtejjeckiplihbaaAmR
import Derived.Test.YtejjeckiplihbaaProg
set_option linter.unusedSimpArgs false
set_option maxRecDepth 20000

namespace Go.AM.D
open Go Go.Proofs
def zs60 : List V := List.replicate 60 (.bool false)
def zs3600 : List V := List.replicate 3600 (.bool false)
def ti1 : TI := { ty := .other, size := 1, bytes := 8, zero := .lit .nilFunc }
def ti2 : TI := { ty := .int .i64, size := 1, bytes := 8, zero := .int .i64 0 }
def ti3 : TI := { ty := .int .i64, size := 1, bytes := 8, zero := .int .i64 0 }
def ti4 : TI := { ty := .bool, size := 1, bytes := 1, zero := .bool false }
def ti5 : TI := { ty := .int .u8, size := 1, bytes := 1, zero := .int .u8 0 }
def ti9 : TI := { ty := .str, size := 1, bytes := 16, zero := .lit (.string ByteArray.empty) }
def ti22 : TI := { ty := .slice 35, size := 1, bytes := 24, zero := .emp }
def ti23 : TI := { ty := .slice 119, size := 1, bytes := 24, zero := .emp }
def ti25 : TI := { ty := .struct [(0, 22), (1, 23)], size := 2, bytes := 48, zero := .agg [.emp, .emp] }
def ti27 : TI := { ty := .struct [(0, 3), (1, 3)], size := 2, bytes := 16, zero := .agg [.int .i64 0, .int .i64 0], eq := true }
def ti30 : TI := { ty := .slice 38, size := 1, bytes := 24, zero := .emp }
def ti31 : TI := { ty := .int .i64, size := 1, bytes := 8, zero := .int .i64 0 }
def ti35 : TI := { ty := .struct [(0, 3), (1, 3), (2, 3), (3, 3)], size := 4, bytes := 32, zero := .agg [.int .i64 0, .int .i64 0, .int .i64 0, .int .i64 0], eq := true }
def ti38 : TI := { ty := .struct [(0, 3), (1, 3), (2, 3)], size := 3, bytes := 24, zero := .agg [.int .i64 0, .int .i64 0, .int .i64 0], eq := true }
def ti41 : TI := { ty := .struct [(0, 3), (1, 3), (2, 3)], size := 3, bytes := 24, zero := .agg [.int .i64 0, .int .i64 0, .int .i64 0], eq := true }
def ti43 : TI := { ty := .struct [(0, 41), (3, 3), (4, 3)], size := 5, bytes := 40, zero := .agg [.int .i64 0, .int .i64 0, .int .i64 0, .int .i64 0, .int .i64 0], eq := true }
def ti53 : TI := { ty := .slice 3, size := 1, bytes := 24, zero := .emp }
def ti63 : TI := { ty := .struct [(0, 3), (1, 3), (2, 3), (3, 53)], size := 4, bytes := 48, zero := .agg [.int .i64 0, .int .i64 0, .int .i64 0, .emp] }
def ti64 : TI := { ty := .slice 41, size := 1, bytes := 24, zero := .emp }
def ti66 : TI := { ty := .struct [(0, 30), (1, 64), (2, 3)], size := 3, bytes := 56, zero := .agg [.emp, .emp, .int .i64 0] }
def ti67 : TI := { ty := .slice 131, size := 1, bytes := 24, zero := .emp }
def ti69 : TI := { ty := .struct [(0, 63), (4, 3), (5, 66), (8, 67)], size := 9, bytes := 136, zero := .agg [.int .i64 0, .int .i64 0, .int .i64 0, .emp, .int .i64 0, .emp, .emp, .int .i64 0, .emp] }
def ti71 : TI := { ty := .struct [(0, 30), (1, 64), (2, 3)], size := 3, bytes := 56, zero := .agg [.emp, .emp, .int .i64 0] }
def ti74 : TI := { ty := .struct [(0, 30), (1, 64), (2, 3)], size := 3, bytes := 56, zero := .agg [.emp, .emp, .int .i64 0] }
def ti93 : TI := { ty := .slice 98, size := 1, bytes := 24, zero := .emp }
def ti98 : TI := { ty := .slice 100, size := 1, bytes := 24, zero := .emp }
def ti100 : TI := { ty := .struct [(0, 3), (1, 3)], size := 2, bytes := 16, zero := .agg [.int .i64 0, .int .i64 0], eq := true }
def ti103 : TI := { ty := .other, size := 1, bytes := 8, zero := .lit (.pointer none) }
def ti111 : TI := { ty := .other, size := 1, bytes := 8, zero := .lit .nilFunc }
def ti113 : TI := { ty := .struct [(0, 111)], size := 1, bytes := 8, zero := .agg [.lit .nilFunc] }
def ti119 : TI := { ty := .struct [(0, 3), (1, 3), (2, 3)], size := 3, bytes := 24, zero := .agg [.int .i64 0, .int .i64 0, .int .i64 0], eq := true }
def ti120 : TI := { ty := .array 60 4, size := 60, bytes := 60, zero := .agg zs60 }
def ti131 : TI := { ty := .struct [(0, 3), (1, 3), (2, 3)], size := 3, bytes := 24, zero := .agg [.int .i64 0, .int .i64 0, .int .i64 0], eq := true }
def ti132 : TI := { ty := .slice 134, size := 1, bytes := 24, zero := .emp }
def ti134 : TI := { ty := .struct [(0, 53), (1, 53)], size := 2, bytes := 48, zero := .agg [.emp, .emp] }
def ti146 : TI := { ty := .other, size := 1, bytes := 8, zero := .lit .nilFunc }
def ti147 : TI := { ty := .other, size := 1, bytes := 8, zero := .lit .nilFunc }
def ti148 : TI := { ty := .int .u64, size := 1, bytes := 8, zero := .int .u64 0 }
def ti154 : TI := { ty := .other, size := 1, bytes := 8, zero := .lit .nilFunc }
def ti156 : TI := { ty := .slice 4, size := 1, bytes := 24, zero := .emp }
def ti160 : TI := { ty := .array 60 120, size := 3600, bytes := 3600, zero := .agg zs3600 }
def ti161 : TI := { ty := .array 2 113, size := 2, bytes := 16, zero := .agg [.lit .nilFunc, .lit .nilFunc] }
def ti164 : TI := { ty := .other, size := 1, bytes := 8, zero := .lit .nilFunc }
def ti167 : TI := { ty := .struct [(0, 3), (1, 3), (2, 3), (3, 146)], size := 4, bytes := 32, zero := .agg [.int .i64 0, .int .i64 0, .int .i64 0, .lit .nilFunc] }
def ti186 : TI := { ty := .int .i64, size := 1, bytes := 8, zero := .int .i64 0 }
def ti194 : TI := { ty := .int .u32, size := 1, bytes := 4, zero := .int .u32 0 }
def ti196 : TI := { ty := .int .u64, size := 1, bytes := 8, zero := .int .u64 0 }
def ti207 : TI := { ty := .int .u64, size := 1, bytes := 8, zero := .int .u64 0 }
def ti211 : TI := { ty := .other, size := 1, bytes := 8, zero := .lit (.pointer none) }
def ti217 : TI := { ty := .other, size := 1, bytes := 8, zero := .lit (.pointer none) }
def tys : List (Nat × TI) := [(1, ti1), (2, ti2), (3, ti3), (4, ti4), (5, ti5), (9, ti9), (22, ti22), (23, ti23), (25, ti25), (27, ti27), (30, ti30), (31, ti31), (35, ti35), (38, ti38), (41, ti41), (43, ti43), (53, ti53), (63, ti63), (64, ti64), (66, ti66), (67, ti67), (69, ti69), (71, ti71), (74, ti74), (93, ti93), (98, ti98), (100, ti100), (103, ti103), (111, ti111), (113, ti113), (119, ti119), (120, ti120), (131, ti131), (132, ti132), (134, ti134), (146, ti146), (147, ti147), (148, ti148), (154, ti154), (156, ti156), (160, ti160), (161, ti161), (164, ti164), (167, ti167), (186, ti186), (194, ti194), (196, ti196), (207, ti207), (211, ti211), (217, ti217)]
def fc3 : FC := { live := [(6, [2, 3, 4, 7, 8, 9, 10]), (17, [2, 7, 12, 14])], thaw := [(32, 0, 3)] }
def fc10 : FC := { live := [(10, [2, 3, 4, 9, 10, 14]), (13, [2, 3, 4, 9, 10, 14, 15])] }
def fc13 : FC := { live := [(9, [2, 5, 6, 9, 10]), (13, [2, 5, 6, 9, 10, 11]), (17, [2, 6, 9, 12])] }
def fc14 : FC := { bar := true }
def fc22 : FC := { live := [(6, [5, 14, 15, 16])] }
def fc23 : FC := { live := [(6, [1, 5, 6]), (9, [1, 5, 6, 7])] }
def fc26 : FC := { live := [(4, [1, 3]), (10, [1, 5]), (13, [1, 5, 6]), (17, [1, 5, 6, 7, 8]), (26, [1, 9])] }
def fc27 : FC := { live := [(5, [1, 2, 8, 23]), (8, [1, 2, 8, 10, 23, 26]), (12, [1, 2, 8, 10, 11, 12, 13, 23, 26])] }
def fc28 : FC := { live := [(5, [1, 2, 3, 9]), (8, [1, 2, 3, 9, 10]), (13, [1, 2, 3, 9, 10, 11, 12])] }
def fc34 : FC := { live := [(4, [0, 1, 5])] }
def fc35 : FC := { live := [(4, [0, 1, 5])] }
def fc36 : FC := { live := [(5, [1, 2, 4, 5, 6, 8, 20, 21])] }
def fc37 : FC := { live := [(6, [1, 2, 9, 10, 11, 12])] }
def fc38 : FC := { live := [(18, [1, 3, 4, 5, 6, 8, 65, 66, 67]), (22, [1, 3, 4, 5, 6, 8, 20, 21, 65, 66, 67, 78, 79, 80])] }
def fc40 : FC := { live := [(18, [1, 3, 4, 5, 6, 8, 17]), (23, [1, 3, 4, 5, 6, 8, 17, 18, 19])] }
def fc42 : FC := { live := [(8, [1, 3])] }
def fc43 : FC := { live := [(6, [1, 7, 21, 22, 23]), (11, [1, 7, 37, 38]), (14, [1, 7, 10, 37, 38, 44, 45])], alias := [(32, 7)], born := [7] }
def fc45 : FC := { live := [(8, [1, 6, 7])] }
def fc46 : FC := { live := [(11, [6, 7, 8, 9, 10, 28, 29, 30])], thaw := [(25, 0, 3)] }
def fc47 : FC := { live := [(7, [1, 6, 7, 8]), (11, [1, 6, 7, 8, 9, 10, 11, 12, 13])] }
def fc48 : FC := { live := [(6, [1, 2, 7, 8]), (10, [1, 2, 7, 8, 9, 10])] }
def fc49 : FC := { live := [(6, [7, 16, 17, 18])], alias := [(26, 7)], born := [7] }
def fc50 : FC := { live := [(4, [1, 18, 19, 20]), (10, [1, 29, 30, 31])] }
def fc51 : FC := { live := [(6, [1, 3]), (11, [1, 4])] }
def fc53 : FC := { live := [(5, [1, 2, 6])] }
def fc54 : FC := { live := [(8, [1, 2, 7, 25, 26, 27]), (13, [1, 2, 7, 8, 9, 10, 11, 25, 26, 27, 32, 33, 34])], alias := [(52, 10), (74, 10), (78, 7)], born := [7, 10], thaw := [(21, 0, 3)] }
def fc55 : FC := { live := [(6, [1, 2, 7, 8]), (11, [1, 2, 7, 8, 9, 10]), (14, [1, 2, 7, 8, 9, 10, 11]), (20, [1, 2, 7, 8, 9, 12, 13, 14])], alias := [(35, 9), (111, 12), (115, 7)], born := [7, 12] }
def fc56 : FC := { live := [(4, [0, 1, 5]), (9, [0, 1, 5, 6])] }
def fc57 : FC := { live := [(3, [3, 4, 5, 6, 7, 11, 12]), (6, [3, 4, 5, 6, 7, 11, 12, 13])] }
def fc59 : FC := { live := [(3, [0, 1, 7, 8])], alias := [(30, 7)], born := [7] }
def fc60 : FC := { live := [(4, [1, 19, 20, 21]), (11, [1, 6, 57, 58, 59]), (14, [1, 6, 8, 9, 57, 58, 59]), (17, [1, 6, 8, 9, 10, 57, 58, 59]), (26, [6, 104, 105, 106])] }
def fc68 : FC := { live := [(1, [1, 2, 4, 7])] }
def fc69 : FC := { live := [(2, [1, 2, 3, 7])] }
def fc75 : FC := { live := [(3, [1, 3, 7, 8]), (7, [1, 3, 7, 8, 9, 10]), (10, [1, 3, 7, 8, 9, 10, 11])], alias := [(52, 7)], born := [7] }
def fc76 : FC := { live := [(3, [0, 1, 7, 8]), (6, [0, 1, 7, 8, 16])], alias := [(26, 7)], born := [7] }
def fc77 : FC := { live := [(3, [1, 3, 7, 8]), (7, [1, 3, 7, 8, 9, 10])], alias := [(32, 7)], born := [7] }
def fc78 : FC := { live := [(2, [0, 1, 16, 17, 18]), (5, [0, 1, 10, 16, 17, 18, 22, 23, 24])] }
def fc79 : FC := { live := [(3, [3, 7, 8]), (6, [3, 7, 8, 9])] }
def fc80 : FC := { live := [(3, [3, 6, 7, 8])] }
def fc81 : FC := { live := [(3, [0, 3, 4])] }
def fc84 : FC := { live := [(3, [1, 2, 5, 16, 17, 18]), (15, [1, 2, 5, 7, 8, 16, 17, 18, 95, 96, 97])], alias := [(15, 5)], bar := true }
def fc85 : FC := { live := [(6, [6, 7, 8]), (8, [6, 7, 8])] }
def fc88 : FC := { live := [(5, [2, 3, 4, 5, 6, 7, 8]), (9, [2, 3, 4, 5, 6, 7, 8, 35, 36, 37])], bar := true }
def fc89 : FC := { live := [(3, [0, 3, 4])], alias := [(19, 3)], born := [3] }
def fc91 : FC := { live := [(5, [1, 2, 3, 4, 10, 11])], alias := [(66, 8)], born := [8] }
def fc94 : FC := { live := [(4, [1, 2, 5, 6, 7]), (8, [1, 2, 5, 6, 8]), (13, [1, 2, 5, 6, 8, 9, 10]), (16, [1, 2, 5, 6, 8, 9, 10, 11])], alias := [(19, 6), (27, 6)] }
def fc95 : FC := { alias := [(7, 2)], born := [2] }
def fc98 : FC := { live := [(3, [3, 6, 7, 8])] }
def fc101 : FC := { live := [(4, [0, 3]), (9, [0, 3, 4, 5])], lax := true }
def fc102 : FC := { live := [(6, [1, 2, 3, 7, 8, 9, 10]), (15, [1, 2, 3, 7, 8, 11])], bar := true }
def fc103 : FC := { alias := [(7, 2)], born := [2] }
def fc108 : FC := { live := [(3, [0, 1, 2, 6, 8, 13]), (6, [0, 1, 2, 6, 8, 9, 10, 13])], bar := true }
def fc115 : FC := { live := [(2, [1, 2, 4]), (7, [1, 2, 4, 5]), (10, [1, 2, 4, 5, 6])] }
def fc116 : FC := { live := [(1, [0, 1])] }
def fc119 : FC := { live := [(2, [1, 2, 3]), (5, [1, 2, 3, 4]), (7, [1, 2, 3, 4]), (14, [1, 2, 3, 5]), (17, [1, 2, 3, 5, 6])], bar := true }
def fc124 : FC := { live := [(2, [2, 3, 4, 5, 9])], alias := [(35, 9)], born := [9], bar := true }
def fc127 : FC := { live := [(4, [2, 5, 6, 7]), (8, [2, 5, 6, 7, 8, 9])], alias := [(16, 6), (91, 6)] }
def fc128 : FC := { live := [(2, [0, 1, 2, 3, 4, 10, 11])], lax := true }
def fc131 : FC := { live := [(2, [0, 1, 2, 3, 8, 9])], lax := true }
def fc132 : FC := { live := [(2, [0, 1, 2, 3, 4, 10, 11])], lax := true }
def fc135 : FC := { live := [(2, [0, 1, 7, 8])] }
def fc137 : FC := { live := [(2, [1, 2, 3, 10, 11]), (5, [1, 2, 3, 7, 10, 11, 15, 16])] }
def fc138 : FC := { live := [(3, [1, 4, 8, 9, 16, 17]), (6, [1, 4, 8, 9, 10, 16, 17, 20, 21])], bar := true }
def fc139 : FC := { live := [(2, [0, 1, 7, 8])] }
def fc140 : FC := { live := [(2, [1, 2, 3, 7]), (5, [1, 2, 3, 7, 8])] }
def fc144 : FC := { live := [(1, [0, 1, 2, 3, 8]), (4, [0, 1, 2, 3, 8, 9])], lax := true }
def fc145 : FC := { live := [(4, [0, 3, 8, 9, 10, 11]), (8, [0, 3, 8, 9, 12])] }
def fc146 : FC := { live := [(5, [0, 1, 8, 9, 10, 11])] }
def fc148 : FC := { live := [(2, [0, 8, 9])] }
def fc149 : FC := { live := [(3, [0, 1, 2, 3, 9, 10]), (5, [0, 1, 2, 3, 9, 10]), (14, [0, 1, 2, 3, 9, 10, 11]), (20, [0, 1, 2, 3, 9, 10, 12])] }
def fc150 : FC := { live := [(3, [0, 1, 4, 11, 12]), (5, [0, 1, 4, 11, 12])] }
def fc151 : FC := { live := [(3, [0, 1, 4, 12, 13]), (5, [0, 1, 4, 12, 13]), (13, [0, 1, 4, 12, 13]), (15, [0, 1, 4, 12, 13])] }
def fc154 : FC := { live := [(1, [0, 1, 2, 6]), (4, [0, 1, 2, 6, 7])], lax := true }
def fc155 : FC := { live := [(4, [0, 6, 7, 8, 9]), (8, [0, 6, 7, 10])] }
def fc156 : FC := { live := [(5, [0, 1, 6, 7, 8, 9])] }
def fc158 : FC := { live := [(2, [0, 6, 7])] }
def fc159 : FC := { live := [(3, [0, 1, 2, 7, 8]), (5, [0, 1, 2, 7, 8]), (14, [0, 1, 2, 7, 8, 9]), (20, [0, 1, 2, 7, 8, 10])] }
def fc161 : FC := { live := [(3, [0, 1, 9, 10]), (5, [0, 1, 9, 10])] }
def fc162 : FC := { live := [(3, [0, 1, 10, 11]), (5, [0, 1, 10, 11]), (13, [0, 1, 10, 11]), (15, [0, 1, 10, 11])] }
def fc163 : FC := { live := [(1, [0, 1, 2, 3, 8]), (4, [0, 1, 2, 3, 8, 9])], lax := true }
def fc164 : FC := { live := [(4, [0, 3, 8, 9, 10, 11]), (8, [0, 3, 8, 9, 12])] }
def fc165 : FC := { live := [(5, [0, 1, 8, 9, 10, 11])] }
def fc167 : FC := { live := [(2, [0, 8, 9])] }
def fc168 : FC := { live := [(3, [0, 1, 2, 3, 9, 10]), (5, [0, 1, 2, 3, 9, 10]), (14, [0, 1, 2, 3, 9, 10, 11]), (20, [0, 1, 2, 3, 9, 10, 12])] }
def fc169 : FC := { live := [(3, [0, 1, 4, 11, 12]), (5, [0, 1, 4, 11, 12])] }
def fc170 : FC := { live := [(3, [0, 1, 4, 12, 13]), (5, [0, 1, 4, 12, 13]), (13, [0, 1, 4, 12, 13]), (15, [0, 1, 4, 12, 13])] }
def fc171 : FC := { live := [(1, [0, 2, 3, 4, 10])] }
def fc176 : FC := { live := [(1, [0, 2, 3, 8])] }
def fc179 : FC := { live := [(1, [0, 2, 3, 4, 10])] }
def fcs : List (Nat × FC) := [(3, fc3), (10, fc10), (13, fc13), (14, fc14), (22, fc22), (23, fc23), (26, fc26), (27, fc27), (28, fc28), (34, fc34), (35, fc35), (36, fc36), (37, fc37), (38, fc38), (40, fc40), (42, fc42), (43, fc43), (45, fc45), (46, fc46), (47, fc47), (48, fc48), (49, fc49), (50, fc50), (51, fc51), (53, fc53), (54, fc54), (55, fc55), (56, fc56), (57, fc57), (59, fc59), (60, fc60), (68, fc68), (69, fc69), (75, fc75), (76, fc76), (77, fc77), (78, fc78), (79, fc79), (80, fc80), (81, fc81), (84, fc84), (85, fc85), (88, fc88), (89, fc89), (91, fc91), (94, fc94), (95, fc95), (98, fc98), (101, fc101), (102, fc102), (103, fc103), (108, fc108), (115, fc115), (116, fc116), (119, fc119), (124, fc124), (127, fc127), (128, fc128), (131, fc131), (132, fc132), (135, fc135), (137, fc137), (138, fc138), (139, fc139), (140, fc140), (144, fc144), (145, fc145), (146, fc146), (148, fc148), (149, fc149), (150, fc150), (151, fc151), (154, fc154), (155, fc155), (156, fc156), (158, fc158), (159, fc159), (161, fc161), (162, fc162), (163, fc163), (164, fc164), (165, fc165), (167, fc167), (168, fc168), (169, fc169), (170, fc170), (171, fc171), (176, fc176), (179, fc179)]
def inls : List Nat := [96, 100, 101, 104, 128, 131, 132, 144, 154, 163]
def seqs : Nat → List V → Option (Nat × List (List V)) := fun _ _ => none
noncomputable def E : Env := mkEnv Try.prog tys fcs inls seqs
noncomputable def E0 : Env := mkEnv Try.prog tys fcs inls
theorem E0_ok : EnvOk Try.prog E0 := mkEnv_ok (fun _ _ _ _ h => by cases h) (by decide +kernel) (by decide +kernel)
theorem E_ok : EnvOk Try.prog E := E0_ok
theorem E0ty (t : Nat) : E0.ty t = E.ty t := rfl
theorem mixed : Try.prog.follows .mixedOrders = true := by decide +kernel
theorem einl (g : Nat) : E.inl g = inls.contains g := rfl
theorem ty1 : E.ty 1 = some ti1 := rfl
theorem ty2 : E.ty 2 = some ti2 := rfl
theorem ty3 : E.ty 3 = some ti3 := rfl
theorem ty4 : E.ty 4 = some ti4 := rfl
theorem ty5 : E.ty 5 = some ti5 := rfl
theorem ty9 : E.ty 9 = some ti9 := rfl
theorem ty22 : E.ty 22 = some ti22 := rfl
theorem ty23 : E.ty 23 = some ti23 := rfl
theorem ty25 : E.ty 25 = some ti25 := rfl
theorem ty27 : E.ty 27 = some ti27 := rfl
theorem ty30 : E.ty 30 = some ti30 := rfl
theorem ty31 : E.ty 31 = some ti31 := rfl
theorem ty35 : E.ty 35 = some ti35 := rfl
theorem ty38 : E.ty 38 = some ti38 := rfl
theorem ty41 : E.ty 41 = some ti41 := rfl
theorem ty43 : E.ty 43 = some ti43 := rfl
theorem ty53 : E.ty 53 = some ti53 := rfl
theorem ty63 : E.ty 63 = some ti63 := rfl
theorem ty64 : E.ty 64 = some ti64 := rfl
theorem ty66 : E.ty 66 = some ti66 := rfl
theorem ty67 : E.ty 67 = some ti67 := rfl
theorem ty69 : E.ty 69 = some ti69 := rfl
theorem ty71 : E.ty 71 = some ti71 := rfl
theorem ty74 : E.ty 74 = some ti74 := rfl
theorem ty93 : E.ty 93 = some ti93 := rfl
theorem ty98 : E.ty 98 = some ti98 := rfl
theorem ty100 : E.ty 100 = some ti100 := rfl
theorem ty103 : E.ty 103 = some ti103 := rfl
theorem ty111 : E.ty 111 = some ti111 := rfl
theorem ty113 : E.ty 113 = some ti113 := rfl
theorem ty119 : E.ty 119 = some ti119 := rfl
theorem ty120 : E.ty 120 = some ti120 := rfl
theorem ty131 : E.ty 131 = some ti131 := rfl
theorem ty132 : E.ty 132 = some ti132 := rfl
theorem ty134 : E.ty 134 = some ti134 := rfl
theorem ty146 : E.ty 146 = some ti146 := rfl
theorem ty147 : E.ty 147 = some ti147 := rfl
theorem ty148 : E.ty 148 = some ti148 := rfl
theorem ty154 : E.ty 154 = some ti154 := rfl
theorem ty156 : E.ty 156 = some ti156 := rfl
theorem ty160 : E.ty 160 = some ti160 := rfl
theorem ty161 : E.ty 161 = some ti161 := rfl
theorem ty164 : E.ty 164 = some ti164 := rfl
theorem ty167 : E.ty 167 = some ti167 := rfl
theorem ty186 : E.ty 186 = some ti186 := rfl
theorem ty194 : E.ty 194 = some ti194 := rfl
theorem ty196 : E.ty 196 = some ti196 := rfl
theorem ty207 : E.ty 207 = some ti207 := rfl
theorem ty211 : E.ty 211 = some ti211 := rfl
theorem ty217 : E.ty 217 = some ti217 := rfl
theorem te : E.ty 1 = some { ty := .other, size := 1, bytes := 8, zero := .lit .nilFunc } ∧ E.ty 2 = some { ty := .int .i64, size := 1, bytes := 8, zero := .int .i64 0 } ∧ E.ty 3 = some { ty := .int .i64, size := 1, bytes := 8, zero := .int .i64 0 } ∧ E.ty 4 = some { ty := .bool, size := 1, bytes := 1, zero := .bool false } ∧ E.ty 5 = some { ty := .int .u8, size := 1, bytes := 1, zero := .int .u8 0 } ∧ E.ty 9 = some { ty := .str, size := 1, bytes := 16, zero := .lit (.string ByteArray.empty) } ∧ E.ty 22 = some { ty := .slice 35, size := 1, bytes := 24, zero := .emp } ∧ E.ty 23 = some { ty := .slice 119, size := 1, bytes := 24, zero := .emp } ∧ E.ty 25 = some { ty := .struct [(0, 22), (1, 23)], size := 2, bytes := 48, zero := .agg [.emp, .emp] } ∧ E.ty 27 = some { ty := .struct [(0, 3), (1, 3)], size := 2, bytes := 16, zero := .agg [.int .i64 0, .int .i64 0], eq := true } ∧ E.ty 30 = some { ty := .slice 38, size := 1, bytes := 24, zero := .emp } ∧ E.ty 31 = some { ty := .int .i64, size := 1, bytes := 8, zero := .int .i64 0 } ∧ E.ty 35 = some { ty := .struct [(0, 3), (1, 3), (2, 3), (3, 3)], size := 4, bytes := 32, zero := .agg [.int .i64 0, .int .i64 0, .int .i64 0, .int .i64 0], eq := true } ∧ E.ty 38 = some { ty := .struct [(0, 3), (1, 3), (2, 3)], size := 3, bytes := 24, zero := .agg [.int .i64 0, .int .i64 0, .int .i64 0], eq := true } ∧ E.ty 41 = some { ty := .struct [(0, 3), (1, 3), (2, 3)], size := 3, bytes := 24, zero := .agg [.int .i64 0, .int .i64 0, .int .i64 0], eq := true } ∧ E.ty 43 = some { ty := .struct [(0, 41), (3, 3), (4, 3)], size := 5, bytes := 40, zero := .agg [.int .i64 0, .int .i64 0, .int .i64 0, .int .i64 0, .int .i64 0], eq := true } ∧ E.ty 53 = some { ty := .slice 3, size := 1, bytes := 24, zero := .emp } ∧ E.ty 63 = some { ty := .struct [(0, 3), (1, 3), (2, 3), (3, 53)], size := 4, bytes := 48, zero := .agg [.int .i64 0, .int .i64 0, .int .i64 0, .emp] } ∧ E.ty 64 = some { ty := .slice 41, size := 1, bytes := 24, zero := .emp } ∧ E.ty 66 = some { ty := .struct [(0, 30), (1, 64), (2, 3)], size := 3, bytes := 56, zero := .agg [.emp, .emp, .int .i64 0] } ∧ E.ty 67 = some { ty := .slice 131, size := 1, bytes := 24, zero := .emp } ∧ E.ty 69 = some { ty := .struct [(0, 63), (4, 3), (5, 66), (8, 67)], size := 9, bytes := 136, zero := .agg [.int .i64 0, .int .i64 0, .int .i64 0, .emp, .int .i64 0, .emp, .emp, .int .i64 0, .emp] } ∧ E.ty 71 = some { ty := .struct [(0, 30), (1, 64), (2, 3)], size := 3, bytes := 56, zero := .agg [.emp, .emp, .int .i64 0] } ∧ E.ty 74 = some { ty := .struct [(0, 30), (1, 64), (2, 3)], size := 3, bytes := 56, zero := .agg [.emp, .emp, .int .i64 0] } ∧ E.ty 93 = some { ty := .slice 98, size := 1, bytes := 24, zero := .emp } ∧ E.ty 98 = some { ty := .slice 100, size := 1, bytes := 24, zero := .emp } ∧ E.ty 100 = some { ty := .struct [(0, 3), (1, 3)], size := 2, bytes := 16, zero := .agg [.int .i64 0, .int .i64 0], eq := true } ∧ E.ty 103 = some { ty := .other, size := 1, bytes := 8, zero := .lit (.pointer none) } ∧ E.ty 111 = some { ty := .other, size := 1, bytes := 8, zero := .lit .nilFunc } ∧ E.ty 113 = some { ty := .struct [(0, 111)], size := 1, bytes := 8, zero := .agg [.lit .nilFunc] } ∧ E.ty 119 = some { ty := .struct [(0, 3), (1, 3), (2, 3)], size := 3, bytes := 24, zero := .agg [.int .i64 0, .int .i64 0, .int .i64 0], eq := true } ∧ E.ty 120 = some { ty := .array 60 4, size := 60, bytes := 60, zero := .agg zs60 } ∧ E.ty 131 = some { ty := .struct [(0, 3), (1, 3), (2, 3)], size := 3, bytes := 24, zero := .agg [.int .i64 0, .int .i64 0, .int .i64 0], eq := true } ∧ E.ty 132 = some { ty := .slice 134, size := 1, bytes := 24, zero := .emp } ∧ E.ty 134 = some { ty := .struct [(0, 53), (1, 53)], size := 2, bytes := 48, zero := .agg [.emp, .emp] } ∧ E.ty 146 = some { ty := .other, size := 1, bytes := 8, zero := .lit .nilFunc } ∧ E.ty 147 = some { ty := .other, size := 1, bytes := 8, zero := .lit .nilFunc } ∧ E.ty 148 = some { ty := .int .u64, size := 1, bytes := 8, zero := .int .u64 0 } ∧ E.ty 154 = some { ty := .other, size := 1, bytes := 8, zero := .lit .nilFunc } ∧ E.ty 156 = some { ty := .slice 4, size := 1, bytes := 24, zero := .emp } ∧ E.ty 160 = some { ty := .array 60 120, size := 3600, bytes := 3600, zero := .agg zs3600 } ∧ E.ty 161 = some { ty := .array 2 113, size := 2, bytes := 16, zero := .agg [.lit .nilFunc, .lit .nilFunc] } ∧ E.ty 164 = some { ty := .other, size := 1, bytes := 8, zero := .lit .nilFunc } ∧ E.ty 167 = some { ty := .struct [(0, 3), (1, 3), (2, 3), (3, 146)], size := 4, bytes := 32, zero := .agg [.int .i64 0, .int .i64 0, .int .i64 0, .lit .nilFunc] } ∧ E.ty 186 = some { ty := .int .i64, size := 1, bytes := 8, zero := .int .i64 0 } ∧ E.ty 194 = some { ty := .int .u32, size := 1, bytes := 4, zero := .int .u32 0 } ∧ E.ty 196 = some { ty := .int .u64, size := 1, bytes := 8, zero := .int .u64 0 } ∧ E.ty 207 = some { ty := .int .u64, size := 1, bytes := 8, zero := .int .u64 0 } ∧ E.ty 211 = some { ty := .other, size := 1, bytes := 8, zero := .lit (.pointer none) } ∧ E.ty 217 = some { ty := .other, size := 1, bytes := 8, zero := .lit (.pointer none) } := ⟨rfl, rfl, rfl, rfl, rfl, rfl, rfl, rfl, rfl, rfl, rfl, rfl, rfl, rfl, rfl, rfl, rfl, rfl, rfl, rfl, rfl, rfl, rfl, rfl, rfl, rfl, rfl, rfl, rfl, rfl, rfl, rfl, rfl, rfl, rfl, rfl, rfl, rfl, rfl, rfl, rfl, rfl, rfl, rfl, rfl, rfl, rfl, rfl, rfl, rfl⟩
theorem fn2 : E.fn 2 = some Try.f2 := Try.func2
theorem efc2 : E.fc 2 = {} := rfl
theorem fn3 : E.fn 3 = some Try.f3 := Try.func3
theorem efc3 : E.fc 3 = fc3 := rfl
theorem fn4 : E.fn 4 = some Try.f4 := Try.func4
theorem efc4 : E.fc 4 = {} := rfl
theorem fn5 : E.fn 5 = some Try.f5 := Try.func5
theorem efc5 : E.fc 5 = {} := rfl
theorem fn6 : E.fn 6 = some Try.f6 := Try.func6
theorem efc6 : E.fc 6 = {} := rfl
theorem fn7 : E.fn 7 = some Try.f7 := Try.func7
theorem efc7 : E.fc 7 = {} := rfl
theorem fn8 : E.fn 8 = some Try.f8 := Try.func8
theorem efc8 : E.fc 8 = {} := rfl
theorem fn9 : E.fn 9 = some Try.f9 := Try.func9
theorem efc9 : E.fc 9 = {} := rfl
theorem fn10 : E.fn 10 = some Try.f10 := Try.func10
theorem efc10 : E.fc 10 = fc10 := rfl
theorem fn11 : E.fn 11 = some Try.f11 := Try.func11
theorem efc11 : E.fc 11 = {} := rfl
theorem fn12 : E.fn 12 = some Try.f12 := Try.func12
theorem efc12 : E.fc 12 = {} := rfl
theorem fn13 : E.fn 13 = some Try.f13 := Try.func13
theorem efc13 : E.fc 13 = fc13 := rfl
theorem fn14 : E.fn 14 = some Try.f14 := Try.func14
theorem efc14 : E.fc 14 = fc14 := rfl
theorem fn15 : E.fn 15 = some Try.f15 := Try.func15
theorem efc15 : E.fc 15 = {} := rfl
theorem fn16 : E.fn 16 = some Try.f16 := Try.func16
theorem efc16 : E.fc 16 = {} := rfl
theorem fn17 : E.fn 17 = some Try.f17 := Try.func17
theorem efc17 : E.fc 17 = {} := rfl
theorem fn18 : E.fn 18 = some Try.f18 := Try.func18
theorem efc18 : E.fc 18 = {} := rfl
theorem fn19 : E.fn 19 = some Try.f19 := Try.func19
theorem efc19 : E.fc 19 = {} := rfl
theorem fn20 : E.fn 20 = some Try.f20 := Try.func20
theorem efc20 : E.fc 20 = {} := rfl
theorem fn21 : E.fn 21 = some Try.f21 := Try.func21
theorem efc21 : E.fc 21 = {} := rfl
theorem fn22 : E.fn 22 = some Try.f22 := Try.func22
theorem efc22 : E.fc 22 = fc22 := rfl
theorem fn23 : E.fn 23 = some Try.f23 := Try.func23
theorem efc23 : E.fc 23 = fc23 := rfl
theorem fn24 : E.fn 24 = some Try.f24 := Try.func24
theorem efc24 : E.fc 24 = {} := rfl
theorem fn25 : E.fn 25 = some Try.f25 := Try.func25
theorem efc25 : E.fc 25 = {} := rfl
theorem fn26 : E.fn 26 = some Try.f26 := Try.func26
theorem efc26 : E.fc 26 = fc26 := rfl
theorem fn27 : E.fn 27 = some Try.f27 := Try.func27
theorem efc27 : E.fc 27 = fc27 := rfl
theorem fn28 : E.fn 28 = some Try.f28 := Try.func28
theorem efc28 : E.fc 28 = fc28 := rfl
theorem fn29 : E.fn 29 = some Try.f29 := Try.func29
theorem efc29 : E.fc 29 = {} := rfl
theorem fn30 : E.fn 30 = some Try.f30 := Try.func30
theorem efc30 : E.fc 30 = {} := rfl
theorem fn31 : E.fn 31 = some Try.f31 := Try.func31
theorem efc31 : E.fc 31 = {} := rfl
theorem fn32 : E.fn 32 = some Try.f32 := Try.func32
theorem efc32 : E.fc 32 = {} := rfl
theorem fn33 : E.fn 33 = some Try.f33 := Try.func33
theorem efc33 : E.fc 33 = {} := rfl
theorem fn34 : E.fn 34 = some Try.f34 := Try.func34
theorem efc34 : E.fc 34 = fc34 := rfl
theorem fn35 : E.fn 35 = some Try.f35 := Try.func35
theorem efc35 : E.fc 35 = fc35 := rfl
theorem fn36 : E.fn 36 = some Try.f36 := Try.func36
theorem efc36 : E.fc 36 = fc36 := rfl
theorem fn37 : E.fn 37 = some Try.f37 := Try.func37
theorem efc37 : E.fc 37 = fc37 := rfl
theorem fn38 : E.fn 38 = some Try.f38 := Try.func38
theorem efc38 : E.fc 38 = fc38 := rfl
theorem fn39 : E.fn 39 = some Try.f39 := Try.func39
theorem efc39 : E.fc 39 = {} := rfl
theorem fn40 : E.fn 40 = some Try.f40 := Try.func40
theorem efc40 : E.fc 40 = fc40 := rfl
theorem fn41 : E.fn 41 = some Try.f41 := Try.func41
theorem efc41 : E.fc 41 = {} := rfl
theorem fn42 : E.fn 42 = some Try.f42 := Try.func42
theorem efc42 : E.fc 42 = fc42 := rfl
theorem fn43 : E.fn 43 = some Try.f43 := Try.func43
theorem efc43 : E.fc 43 = fc43 := rfl
theorem fn44 : E.fn 44 = some Try.f44 := Try.func44
theorem efc44 : E.fc 44 = {} := rfl
theorem fn45 : E.fn 45 = some Try.f45 := Try.func45
theorem efc45 : E.fc 45 = fc45 := rfl
theorem fn46 : E.fn 46 = some Try.f46 := Try.func46
theorem efc46 : E.fc 46 = fc46 := rfl
theorem fn47 : E.fn 47 = some Try.f47 := Try.func47
theorem efc47 : E.fc 47 = fc47 := rfl
theorem fn48 : E.fn 48 = some Try.f48 := Try.func48
theorem efc48 : E.fc 48 = fc48 := rfl
theorem fn49 : E.fn 49 = some Try.f49 := Try.func49
theorem efc49 : E.fc 49 = fc49 := rfl
theorem fn50 : E.fn 50 = some Try.f50 := Try.func50
theorem efc50 : E.fc 50 = fc50 := rfl
theorem fn51 : E.fn 51 = some Try.f51 := Try.func51
theorem efc51 : E.fc 51 = fc51 := rfl
theorem fn52 : E.fn 52 = some Try.f52 := Try.func52
theorem efc52 : E.fc 52 = {} := rfl
theorem fn53 : E.fn 53 = some Try.f53 := Try.func53
theorem efc53 : E.fc 53 = fc53 := rfl
theorem fn54 : E.fn 54 = some Try.f54 := Try.func54
theorem efc54 : E.fc 54 = fc54 := rfl
theorem fn55 : E.fn 55 = some Try.f55 := Try.func55
theorem efc55 : E.fc 55 = fc55 := rfl
theorem fn56 : E.fn 56 = some Try.f56 := Try.func56
theorem efc56 : E.fc 56 = fc56 := rfl
theorem fn57 : E.fn 57 = some Try.f57 := Try.func57
theorem efc57 : E.fc 57 = fc57 := rfl
theorem fn58 : E.fn 58 = some Try.f58 := Try.func58
theorem efc58 : E.fc 58 = {} := rfl
theorem fn59 : E.fn 59 = some Try.f59 := Try.func59
theorem efc59 : E.fc 59 = fc59 := rfl
theorem fn60 : E.fn 60 = some Try.f60 := Try.func60
theorem efc60 : E.fc 60 = fc60 := rfl
theorem fn61 : E.fn 61 = some Try.f61 := Try.func61
theorem efc61 : E.fc 61 = {} := rfl
theorem fn62 : E.fn 62 = some Try.f62 := Try.func62
theorem efc62 : E.fc 62 = {} := rfl
theorem fn63 : E.fn 63 = some Try.f63 := Try.func63
theorem efc63 : E.fc 63 = {} := rfl
theorem fn64 : E.fn 64 = some Try.f64 := Try.func64
theorem efc64 : E.fc 64 = {} := rfl
theorem fn65 : E.fn 65 = some Try.f65 := Try.func65
theorem efc65 : E.fc 65 = {} := rfl
theorem fn66 : E.fn 66 = some Try.f66 := Try.func66
theorem efc66 : E.fc 66 = {} := rfl
theorem fn67 : E.fn 67 = some Try.f67 := Try.func67
theorem efc67 : E.fc 67 = {} := rfl
theorem fn68 : E.fn 68 = some Try.f68 := Try.func68
theorem efc68 : E.fc 68 = fc68 := rfl
theorem fn69 : E.fn 69 = some Try.f69 := Try.func69
theorem efc69 : E.fc 69 = fc69 := rfl
theorem fn70 : E.fn 70 = some Try.f70 := Try.func70
theorem efc70 : E.fc 70 = {} := rfl
theorem fn71 : E.fn 71 = some Try.f71 := Try.func71
theorem efc71 : E.fc 71 = {} := rfl
theorem fn72 : E.fn 72 = some Try.f72 := Try.func72
theorem efc72 : E.fc 72 = {} := rfl
theorem fn73 : E.fn 73 = some Try.f73 := Try.func73
theorem efc73 : E.fc 73 = {} := rfl
theorem fn74 : E.fn 74 = some Try.f74 := Try.func74
theorem efc74 : E.fc 74 = {} := rfl
theorem fn75 : E.fn 75 = some Try.f75 := Try.func75
theorem efc75 : E.fc 75 = fc75 := rfl
theorem fn76 : E.fn 76 = some Try.f76 := Try.func76
theorem efc76 : E.fc 76 = fc76 := rfl
theorem fn77 : E.fn 77 = some Try.f77 := Try.func77
theorem efc77 : E.fc 77 = fc77 := rfl
theorem fn78 : E.fn 78 = some Try.f78 := Try.func78
theorem efc78 : E.fc 78 = fc78 := rfl
theorem fn79 : E.fn 79 = some Try.f79 := Try.func79
theorem efc79 : E.fc 79 = fc79 := rfl
theorem fn80 : E.fn 80 = some Try.f80 := Try.func80
theorem efc80 : E.fc 80 = fc80 := rfl
theorem fn81 : E.fn 81 = some Try.f81 := Try.func81
theorem efc81 : E.fc 81 = fc81 := rfl
theorem fn82 : E.fn 82 = some Try.f82 := Try.func82
theorem efc82 : E.fc 82 = {} := rfl
theorem fn83 : E.fn 83 = some Try.f83 := Try.func83
theorem efc83 : E.fc 83 = {} := rfl
theorem fn84 : E.fn 84 = some Try.f84 := Try.func84
theorem efc84 : E.fc 84 = fc84 := rfl
theorem fn85 : E.fn 85 = some Try.f85 := Try.func85
theorem efc85 : E.fc 85 = fc85 := rfl
theorem fn86 : E.fn 86 = some Try.f86 := Try.func86
theorem efc86 : E.fc 86 = {} := rfl
theorem fn87 : E.fn 87 = some Try.f87 := Try.func87
theorem efc87 : E.fc 87 = {} := rfl
theorem fn88 : E.fn 88 = some Try.f88 := Try.func88
theorem efc88 : E.fc 88 = fc88 := rfl
theorem fn89 : E.fn 89 = some Try.f89 := Try.func89
theorem efc89 : E.fc 89 = fc89 := rfl
theorem fn90 : E.fn 90 = some Try.f90 := Try.func90
theorem efc90 : E.fc 90 = {} := rfl
theorem fn91 : E.fn 91 = some Try.f91 := Try.func91
theorem efc91 : E.fc 91 = fc91 := rfl
theorem fn92 : E.fn 92 = some Try.f92 := Try.func92
theorem efc92 : E.fc 92 = {} := rfl
theorem fn93 : E.fn 93 = some Try.f93 := Try.func93
theorem efc93 : E.fc 93 = {} := rfl
theorem fn94 : E.fn 94 = some Try.f94 := Try.func94
theorem efc94 : E.fc 94 = fc94 := rfl
theorem fn95 : E.fn 95 = some Try.f95 := Try.func95
theorem efc95 : E.fc 95 = fc95 := rfl
theorem fn96 : E.fn 96 = some Try.f96 := Try.func96
theorem efc96 : E.fc 96 = {} := rfl
theorem fn97 : E.fn 97 = some Try.f97 := Try.func97
theorem efc97 : E.fc 97 = {} := rfl
theorem fn98 : E.fn 98 = some Try.f98 := Try.func98
theorem efc98 : E.fc 98 = fc98 := rfl
theorem fn99 : E.fn 99 = some Try.f99 := Try.func99
theorem efc99 : E.fc 99 = {} := rfl
theorem fn100 : E.fn 100 = some Try.f100 := Try.func100
theorem efc100 : E.fc 100 = {} := rfl
theorem fn101 : E.fn 101 = some Try.f101 := Try.func101
theorem efc101 : E.fc 101 = fc101 := rfl
theorem fn102 : E.fn 102 = some Try.f102 := Try.func102
theorem efc102 : E.fc 102 = fc102 := rfl
theorem fn103 : E.fn 103 = some Try.f103 := Try.func103
theorem efc103 : E.fc 103 = fc103 := rfl
theorem fn104 : E.fn 104 = some Try.f104 := Try.func104
theorem efc104 : E.fc 104 = {} := rfl
theorem fn105 : E.fn 105 = some Try.f105 := Try.func105
theorem efc105 : E.fc 105 = {} := rfl
theorem fn106 : E.fn 106 = some Try.f106 := Try.func106
theorem efc106 : E.fc 106 = {} := rfl
theorem fn107 : E.fn 107 = some Try.f107 := Try.func107
theorem efc107 : E.fc 107 = {} := rfl
theorem fn108 : E.fn 108 = some Try.f108 := Try.func108
theorem efc108 : E.fc 108 = fc108 := rfl
theorem fn109 : E.fn 109 = some Try.f109 := Try.func109
theorem efc109 : E.fc 109 = {} := rfl
theorem fn110 : E.fn 110 = some Try.f110 := Try.func110
theorem efc110 : E.fc 110 = {} := rfl
theorem fn111 : E.fn 111 = some Try.f111 := Try.func111
theorem efc111 : E.fc 111 = {} := rfl
theorem fn112 : E.fn 112 = some Try.f112 := Try.func112
theorem efc112 : E.fc 112 = {} := rfl
theorem fn113 : E.fn 113 = some Try.f113 := Try.func113
theorem efc113 : E.fc 113 = {} := rfl
theorem fn114 : E.fn 114 = some Try.f114 := Try.func114
theorem efc114 : E.fc 114 = {} := rfl
theorem fn115 : E.fn 115 = some Try.f115 := Try.func115
theorem efc115 : E.fc 115 = fc115 := rfl
theorem fn116 : E.fn 116 = some Try.f116 := Try.func116
theorem efc116 : E.fc 116 = fc116 := rfl
theorem fn117 : E.fn 117 = some Try.f117 := Try.func117
theorem efc117 : E.fc 117 = {} := rfl
theorem fn118 : E.fn 118 = some Try.f118 := Try.func118
theorem efc118 : E.fc 118 = {} := rfl
theorem fn119 : E.fn 119 = some Try.f119 := Try.func119
theorem efc119 : E.fc 119 = fc119 := rfl
theorem fn120 : E.fn 120 = some Try.f120 := Try.func120
theorem efc120 : E.fc 120 = {} := rfl
theorem fn121 : E.fn 121 = some Try.f121 := Try.func121
theorem efc121 : E.fc 121 = {} := rfl
theorem fn122 : E.fn 122 = some Try.f122 := Try.func122
theorem efc122 : E.fc 122 = {} := rfl
theorem fn123 : E.fn 123 = some Try.f123 := Try.func123
theorem efc123 : E.fc 123 = {} := rfl
theorem fn124 : E.fn 124 = some Try.f124 := Try.func124
theorem efc124 : E.fc 124 = fc124 := rfl
theorem fn125 : E.fn 125 = some Try.f125 := Try.func125
theorem efc125 : E.fc 125 = {} := rfl
theorem fn126 : E.fn 126 = some Try.f126 := Try.func126
theorem efc126 : E.fc 126 = {} := rfl
theorem fn127 : E.fn 127 = some Try.f127 := Try.func127
theorem efc127 : E.fc 127 = fc127 := rfl
theorem fn128 : E.fn 128 = some Try.f128 := Try.func128
theorem efc128 : E.fc 128 = fc128 := rfl
theorem fn129 : E.fn 129 = some Try.f129 := Try.func129
theorem efc129 : E.fc 129 = {} := rfl
theorem fn130 : E.fn 130 = some Try.f130 := Try.func130
theorem efc130 : E.fc 130 = {} := rfl
theorem fn131 : E.fn 131 = some Try.f131 := Try.func131
theorem efc131 : E.fc 131 = fc131 := rfl
theorem fn132 : E.fn 132 = some Try.f132 := Try.func132
theorem efc132 : E.fc 132 = fc132 := rfl
theorem fn133 : E.fn 133 = some Try.f133 := Try.func133
theorem efc133 : E.fc 133 = {} := rfl
theorem fn134 : E.fn 134 = some Try.f134 := Try.func134
theorem efc134 : E.fc 134 = {} := rfl
theorem fn135 : E.fn 135 = some Try.f135 := Try.func135
theorem efc135 : E.fc 135 = fc135 := rfl
theorem fn136 : E.fn 136 = some Try.f136 := Try.func136
theorem efc136 : E.fc 136 = {} := rfl
theorem fn137 : E.fn 137 = some Try.f137 := Try.func137
theorem efc137 : E.fc 137 = fc137 := rfl
theorem fn138 : E.fn 138 = some Try.f138 := Try.func138
theorem efc138 : E.fc 138 = fc138 := rfl
theorem fn139 : E.fn 139 = some Try.f139 := Try.func139
theorem efc139 : E.fc 139 = fc139 := rfl
theorem fn140 : E.fn 140 = some Try.f140 := Try.func140
theorem efc140 : E.fc 140 = fc140 := rfl
theorem fn141 : E.fn 141 = some Try.f141 := Try.func141
theorem efc141 : E.fc 141 = {} := rfl
theorem fn142 : E.fn 142 = some Try.f142 := Try.func142
theorem efc142 : E.fc 142 = {} := rfl
theorem fn143 : E.fn 143 = some Try.f143 := Try.func143
theorem efc143 : E.fc 143 = {} := rfl
theorem fn144 : E.fn 144 = some Try.f144 := Try.func144
theorem efc144 : E.fc 144 = fc144 := rfl
theorem fn145 : E.fn 145 = some Try.f145 := Try.func145
theorem efc145 : E.fc 145 = fc145 := rfl
theorem fn146 : E.fn 146 = some Try.f146 := Try.func146
theorem efc146 : E.fc 146 = fc146 := rfl
theorem fn147 : E.fn 147 = some Try.f147 := Try.func147
theorem efc147 : E.fc 147 = {} := rfl
theorem fn148 : E.fn 148 = some Try.f148 := Try.func148
theorem efc148 : E.fc 148 = fc148 := rfl
theorem fn149 : E.fn 149 = some Try.f149 := Try.func149
theorem efc149 : E.fc 149 = fc149 := rfl
theorem fn150 : E.fn 150 = some Try.f150 := Try.func150
theorem efc150 : E.fc 150 = fc150 := rfl
theorem fn151 : E.fn 151 = some Try.f151 := Try.func151
theorem efc151 : E.fc 151 = fc151 := rfl
theorem fn152 : E.fn 152 = some Try.f152 := Try.func152
theorem efc152 : E.fc 152 = {} := rfl
theorem fn153 : E.fn 153 = some Try.f153 := Try.func153
theorem efc153 : E.fc 153 = {} := rfl
theorem fn154 : E.fn 154 = some Try.f154 := Try.func154
theorem efc154 : E.fc 154 = fc154 := rfl
theorem fn155 : E.fn 155 = some Try.f155 := Try.func155
theorem efc155 : E.fc 155 = fc155 := rfl
theorem fn156 : E.fn 156 = some Try.f156 := Try.func156
theorem efc156 : E.fc 156 = fc156 := rfl
theorem fn157 : E.fn 157 = some Try.f157 := Try.func157
theorem efc157 : E.fc 157 = {} := rfl
theorem fn158 : E.fn 158 = some Try.f158 := Try.func158
theorem efc158 : E.fc 158 = fc158 := rfl
theorem fn159 : E.fn 159 = some Try.f159 := Try.func159
theorem efc159 : E.fc 159 = fc159 := rfl
theorem fn160 : E.fn 160 = some Try.f160 := Try.func160
theorem efc160 : E.fc 160 = {} := rfl
theorem fn161 : E.fn 161 = some Try.f161 := Try.func161
theorem efc161 : E.fc 161 = fc161 := rfl
theorem fn162 : E.fn 162 = some Try.f162 := Try.func162
theorem efc162 : E.fc 162 = fc162 := rfl
theorem fn163 : E.fn 163 = some Try.f163 := Try.func163
theorem efc163 : E.fc 163 = fc163 := rfl
theorem fn164 : E.fn 164 = some Try.f164 := Try.func164
theorem efc164 : E.fc 164 = fc164 := rfl
theorem fn165 : E.fn 165 = some Try.f165 := Try.func165
theorem efc165 : E.fc 165 = fc165 := rfl
theorem fn166 : E.fn 166 = some Try.f166 := Try.func166
theorem efc166 : E.fc 166 = {} := rfl
theorem fn167 : E.fn 167 = some Try.f167 := Try.func167
theorem efc167 : E.fc 167 = fc167 := rfl
theorem fn168 : E.fn 168 = some Try.f168 := Try.func168
theorem efc168 : E.fc 168 = fc168 := rfl
theorem fn169 : E.fn 169 = some Try.f169 := Try.func169
theorem efc169 : E.fc 169 = fc169 := rfl
theorem fn170 : E.fn 170 = some Try.f170 := Try.func170
theorem efc170 : E.fc 170 = fc170 := rfl
theorem fn171 : E.fn 171 = some Try.f171 := Try.func171
theorem efc171 : E.fc 171 = fc171 := rfl
theorem fn172 : E.fn 172 = some Try.f172 := Try.func172
theorem efc172 : E.fc 172 = {} := rfl
theorem fn173 : E.fn 173 = some Try.f173 := Try.func173
theorem efc173 : E.fc 173 = {} := rfl
theorem fn174 : E.fn 174 = some Try.f174 := Try.func174
theorem efc174 : E.fc 174 = {} := rfl
theorem fn175 : E.fn 175 = some Try.f175 := Try.func175
theorem efc175 : E.fc 175 = {} := rfl
theorem fn176 : E.fn 176 = some Try.f176 := Try.func176
theorem efc176 : E.fc 176 = fc176 := rfl
theorem fn177 : E.fn 177 = some Try.f177 := Try.func177
theorem efc177 : E.fc 177 = {} := rfl
theorem fn178 : E.fn 178 = some Try.f178 := Try.func178
theorem efc178 : E.fc 178 = {} := rfl
theorem fn179 : E.fn 179 = some Try.f179 := Try.func179
theorem efc179 : E.fc 179 = fc179 := rfl
theorem fn180 : E.fn 180 = some Try.f180 := Try.func180
theorem efc180 : E.fc 180 = {} := rfl
theorem fn181 : E.fn 181 = some Try.f181 := Try.func181
theorem efc181 : E.fc 181 = {} := rfl
theorem fn182 : E.fn 182 = some Try.f182 := Try.func182
theorem efc182 : E.fc 182 = {} := rfl
theorem fn183 : E.fn 183 = some Try.f183 := Try.func183
theorem efc183 : E.fc 183 = {} := rfl
theorem fn184 : E.fn 184 = some Try.f184 := Try.func184
theorem efc184 : E.fc 184 = {} := rfl
theorem efr : (E.fc 96).frame = false ∧ (E.fc 100).frame = false ∧ (E.fc 101).frame = false ∧ (E.fc 104).frame = false ∧ (E.fc 128).frame = false ∧ (E.fc 131).frame = false ∧ (E.fc 132).frame = false ∧ (E.fc 144).frame = false ∧ (E.fc 154).frame = false ∧ (E.fc 163).frame = false := ⟨rfl, rfl, rfl, rfl, rfl, rfl, rfl, rfl, rfl, rfl⟩
end Go.AM.D
