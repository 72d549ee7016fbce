import Derived.Test.YtbfgifolmpmagaaAmR
import Derived.Test.YtbfgifolmpmagaaProg
set_option linter.unusedVariables false
set_option linter.unusedSimpArgs false

namespace Go.AM.B
open Go Go.Proofs
def ti1 : TI := { ty := .other, size := 1, bytes := 8, zero := .lit .nilFunc }
def ti2 : TI := { ty := .int .i64, size := 1, bytes := 8, zero := .int .i64 0 }
def ti3 : TI := { ty := .int .i64, size := 1, bytes := 8, zero := .int .i64 0 }
def ti4 : TI := { ty := .bool, size := 1, bytes := 1, zero := .bool false }
def ti5 : TI := { ty := .int .u8, size := 1, bytes := 1, zero := .int .u8 0 }
def ti9 : TI := { ty := .str, size := 1, bytes := 16, zero := .lit (.string ByteArray.empty) }
def ti23 : TI := { ty := .struct [(0, 3), (1, 3), (2, 3), (3, 3), (4, 3)], size := 5, bytes := 40, zero := .agg [.int .i64 0, .int .i64 0, .int .i64 0, .int .i64 0, .int .i64 0], eq := true }
def ti24 : TI := { ty := .slice 3, size := 1, bytes := 24, zero := .emp }
def ti25 : TI := { ty := .int .i64, size := 1, bytes := 8, zero := .int .i64 0 }
def ti28 : TI := { ty := .struct [(0, 3), (1, 3), (2, 3), (3, 3), (4, 3)], size := 5, bytes := 40, zero := .agg [.int .i64 0, .int .i64 0, .int .i64 0, .int .i64 0, .int .i64 0], eq := true }
def ti31 : TI := { ty := .struct [(0, 3), (1, 3), (2, 3), (3, 3), (4, 3)], size := 5, bytes := 40, zero := .agg [.int .i64 0, .int .i64 0, .int .i64 0, .int .i64 0, .int .i64 0], eq := true }
def ti42 : TI := { ty := .struct [(0, 3), (1, 24)], size := 2, bytes := 32, zero := .agg [.int .i64 0, .emp] }
def ti43 : TI := { ty := .slice 42, size := 1, bytes := 24, zero := .emp }
def ti52 : TI := { ty := .struct [(0, 3), (1, 3), (2, 3), (3, 3), (4, 3)], size := 5, bytes := 40, zero := .agg [.int .i64 0, .int .i64 0, .int .i64 0, .int .i64 0, .int .i64 0], eq := true }
def ti58 : TI := { ty := .slice 28, size := 1, bytes := 24, zero := .emp }
def ti60 : TI := { ty := .slice 23, size := 1, bytes := 24, zero := .emp }
def ti61 : TI := { ty := .slice 31, size := 1, bytes := 24, zero := .emp }
def ti66 : TI := { ty := .slice 52, size := 1, bytes := 24, zero := .emp }
def ti68 : TI := { ty := .struct [(0, 43), (1, 66)], size := 2, bytes := 48, zero := .agg [.emp, .emp] }
def ti70 : TI := { ty := .struct [(0, 3), (1, 3)], size := 2, bytes := 16, zero := .agg [.int .i64 0, .int .i64 0], eq := true }
def ti73 : TI := { ty := .struct [(0, 3), (1, 3)], size := 2, bytes := 16, zero := .agg [.int .i64 0, .int .i64 0], eq := true }
def ti78 : TI := { ty := .struct [(0, 3), (1, 3)], size := 2, bytes := 16, zero := .agg [.int .i64 0, .int .i64 0], eq := true }
def ti83 : TI := { ty := .slice 125, size := 1, bytes := 24, zero := .emp }
def ti90 : TI := { ty := .struct [(0, 3), (1, 3), (2, 3)], size := 3, bytes := 24, zero := .agg [.int .i64 0, .int .i64 0, .int .i64 0], eq := true }
def ti94 : TI := { ty := .slice 118, size := 1, bytes := 24, zero := .emp }
def ti107 : TI := { ty := .slice 163, size := 1, bytes := 24, zero := .emp }
def ti118 : TI := { ty := .struct [(0, 3), (1, 3), (2, 24), (3, 24)], size := 4, bytes := 64, zero := .agg [.int .i64 0, .int .i64 0, .emp, .emp] }
def ti120 : TI := { ty := .slice 166, size := 1, bytes := 24, zero := .emp }
def ti125 : TI := { ty := .struct [(0, 3), (1, 90)], size := 4, bytes := 32, zero := .agg [.int .i64 0, .int .i64 0, .int .i64 0, .int .i64 0], eq := true }
def ti126 : TI := { ty := .other, size := 1, bytes := 8, zero := .lit .nilFunc }
def ti129 : TI := { ty := .other, size := 1, bytes := 8, zero := .lit .nilFunc }
def ti130 : TI := { ty := .other, size := 1, bytes := 8, zero := .lit .nilFunc }
def ti132 : TI := { ty := .slice 4, size := 1, bytes := 24, zero := .emp }
def ti133 : TI := { ty := .slice 136, size := 1, bytes := 24, zero := .emp }
def ti136 : TI := { ty := .struct [(0, 118), (4, 3), (5, 3), (6, 3)], size := 7, bytes := 88, zero := .agg [.int .i64 0, .int .i64 0, .emp, .emp, .int .i64 0, .int .i64 0, .int .i64 0] }
def ti139 : TI := { ty := .other, size := 1, bytes := 8, zero := .lit .nilFunc }
def ti146 : TI := { ty := .other, size := 1, bytes := 8, zero := .lit .nilFunc }
def ti156 : TI := { ty := .other, size := 1, bytes := 8, zero := .lit (.pointer none) }
def ti157 : TI := { ty := .map 162 4, size := 1, bytes := 8, zero := .lit (.map none) }
def ti159 : TI := { ty := .struct [(0, 42), (2, 3), (3, 3), (4, 157)], size := 5, bytes := 56, zero := .agg [.int .i64 0, .emp, .int .i64 0, .int .i64 0, .lit (.map none)] }
def ti162 : TI := { ty := .struct [(0, 3), (1, 3), (2, 3)], size := 3, bytes := 24, zero := .agg [.int .i64 0, .int .i64 0, .int .i64 0], eq := true }
def ti163 : TI := { ty := .slice 132, size := 1, bytes := 24, zero := .emp }
def ti166 : TI := { ty := .struct [(0, 3), (1, 4)], size := 2, bytes := 16, zero := .agg [.int .i64 0, .bool false], eq := true }
def ti167 : TI := { ty := .other, size := 1, bytes := 8, zero := .lit .nilFunc }
def ti168 : TI := { ty := .other, size := 1, bytes := 8, zero := .lit .nilFunc }
def ti170 : TI := { ty := .other, size := 1, bytes := 8, zero := .lit .nilFunc }
def ti171 : TI := { ty := .other, size := 1, bytes := 8, zero := .lit .nilFunc }
def ti178 : TI := { ty := .int .u64, size := 1, bytes := 8, zero := .int .u64 0 }
def ti183 : TI := { ty := .int .i64, size := 1, bytes := 8, zero := .int .i64 0 }
def ti191 : TI := { ty := .int .u32, size := 1, bytes := 4, zero := .int .u32 0 }
def ti193 : TI := { ty := .int .u64, size := 1, bytes := 8, zero := .int .u64 0 }
def ti194 : TI := { ty := .int .u64, size := 1, bytes := 8, zero := .int .u64 0 }
def ti198 : TI := { ty := .other, size := 1, bytes := 8, zero := .lit (.pointer none) }
def ti200 : TI := { ty := .other, size := 1, bytes := 8, zero := .lit (.pointer none) }
def tys : List (Nat × TI) := [(1, ti1), (2, ti2), (3, ti3), (4, ti4), (5, ti5), (9, ti9), (23, ti23), (24, ti24), (25, ti25), (28, ti28), (31, ti31), (42, ti42), (43, ti43), (52, ti52), (58, ti58), (60, ti60), (61, ti61), (66, ti66), (68, ti68), (70, ti70), (73, ti73), (78, ti78), (83, ti83), (90, ti90), (94, ti94), (107, ti107), (118, ti118), (120, ti120), (125, ti125), (126, ti126), (129, ti129), (130, ti130), (132, ti132), (133, ti133), (136, ti136), (139, ti139), (146, ti146), (156, ti156), (157, ti157), (159, ti159), (162, ti162), (163, ti163), (166, ti166), (167, ti167), (168, ti168), (170, ti170), (171, ti171), (178, ti178), (183, ti183), (191, ti191), (193, ti193), (194, ti194), (198, ti198), (200, ti200)]
def fc8 : FC := { live := [(6, [0, 1, 2, 7, 8, 9])], alias := [(37, 7), (45, 8)], born := [7, 8] }
def fc9 : FC := { live := [(9, [3, 7, 9, 10])], alias := [(38, 8), (73, 9)], born := [9], bar := true }
def fc11 : FC := { live := [(14, [5, 11, 13])] }
def fc16 : FC := { live := [(5, [0, 3, 6, 7])], alias := [(29, 6)], born := [6] }
def fc18 : FC := { live := [(5, [0, 3, 6, 7])], alias := [(29, 6)], born := [6] }
def fc24 : FC := { live := [(4, [0, 1, 5])] }
def fc28 : FC := { live := [(5, [3, 10, 11, 12])] }
def fc29 : FC := { live := [(5, [0, 3, 4])] }
def fc30 : FC := { live := [(4, [12, 13, 14]), (10, [5, 12, 13, 14, 29, 30, 31])] }
def fc31 : FC := { live := [(4, [0, 3]), (10, [0, 3, 4, 5])] }
def fc33 : FC := { live := [(8, [1, 2, 3, 10, 11])] }
def fc36 : FC := { live := [(9, [0, 4, 5, 21, 22])] }
def fc39 : FC := { live := [(8, [0, 1, 8, 9, 10])] }
def fc40 : FC := { live := [(4, [1, 5])] }
def fc41 : FC := { live := [(4, [8, 9, 10])] }
def fc43 : FC := { live := [(6, [0, 1, 4, 8, 22]), (9, [0, 1, 4, 8, 9, 10, 22])] }
def fc44 : FC := { live := [(6, [0, 1, 4, 8, 9]), (9, [0, 1, 4, 8, 9, 10])] }
def fc46 : FC := { live := [(11, [8, 9, 10, 11, 34, 35, 36]), (16, [8, 9, 10, 11, 13, 14, 15, 34, 35, 36])], bar := true }
def fc47 : FC := { live := [(10, [0, 8, 9, 10, 11, 12]), (13, [0, 8, 9, 10, 11, 12, 13]), (26, [9, 15, 16])], alias := [(80, 9), (94, 9), (116, 9), (161, 15)], born := [9, 15], bar := true }
def fc48 : FC := { live := [(4, [0, 1, 5])] }
def fc51 : FC := { live := [(4, [0, 3])] }
def fc52 : FC := { live := [(7, [0, 1, 8, 9, 27, 28, 29]), (18, [0, 1, 8, 9, 11, 12, 27, 28, 29, 76, 77, 78]), (26, [0, 1, 8, 9, 12, 27, 28, 29, 92, 93, 94])], alias := [(26, 8), (105, 9)], born := [9] }
def fc53 : FC := { live := [(5, [0, 1, 2, 8]), (12, [0, 1, 2, 8, 9, 10]), (19, [1, 2, 11])] }
def fc54 : FC := { live := [(6, [2, 3, 8, 27, 28]), (14, [2, 3, 10, 11, 39, 40, 41]), (27, [11, 17, 81, 82, 83])], alias := [(34, 8), (73, 10), (77, 11), (91, 17)], born := [8, 10, 11, 17] }
def fc55 : FC := { live := [(8, [0, 1, 8, 9, 10, 11]), (13, [0, 1, 8, 9, 10, 11, 12, 13, 14]), (23, [0, 1, 8, 9, 10, 11, 12, 13, 16, 17])], alias := [(99, 8)], born := [8] }
def fc56 : FC := { live := [(4, [0, 1, 5])] }
def fc57 : FC := { live := [(2, [1, 2, 5]), (6, [1, 2, 5, 6, 7, 8])], bar := true }
def fc62 : FC := { live := [(3, [2, 5, 8, 9, 10])] }
def fc63 : FC := { live := [(3, [1, 2, 5, 6])] }
def fc64 : FC := { live := [(3, [8, 9])] }
def fc65 : FC := { live := [(3, [1, 2, 5, 6]), (7, [1, 2, 5, 6, 7, 8]), (12, [1, 2, 5, 6, 7, 8, 9, 10]), (15, [1, 2, 5, 6, 7, 8, 9, 10, 11])], alias := [(21, 9), (87, 7), (91, 5)], born := [5, 7] }
def fc66 : FC := { live := [(4, [1, 2, 3, 4, 5, 12, 13, 14, 15]), (9, [1, 2, 3, 4, 5, 12, 13, 14, 15, 16, 17, 18])], alias := [(62, 12)], born := [12] }
def fc68 : FC := { live := [(3, [3, 6, 7, 12, 13, 14])] }
def fc70 : FC := { live := [(3, [0, 3, 6, 7, 8])] }
def fc71 : FC := { live := [(4, [8, 9, 10])] }
def fc72 : FC := { live := [(3, [1, 5, 8, 9, 10])] }
def fc73 : FC := { live := [(4, [0, 3])] }
def fc74 : FC := { live := [(3, [0, 1, 5, 6])] }
def fc75 : FC := { live := [(5, [0, 2, 7, 9, 26, 27, 28]), (14, [7, 9, 12, 58, 59, 60])] }
def fc76 : FC := { live := [(3, [0, 5, 10, 11, 12])], alias := [(31, 5)], born := [5] }
def fc77 : FC := { live := [(3, [0, 1, 5, 6])], alias := [(36, 5)], born := [5] }
def fc78 : FC := { live := [(3, [0, 1, 2, 7, 9, 10]), (7, [1, 2, 7, 9, 11])] }
def fc81 : FC := { live := [(4, [0, 9, 10, 11])] }
def fc82 : FC := { live := [(3, [3, 6, 7, 8])] }
def fc84 : FC := { live := [(2, [0, 1, 7, 8, 9])] }
def fc85 : FC := { live := [(3, [1, 6, 7, 27, 28, 29])], bar := true }
def fc90 : FC := { live := [(10, [1, 5, 7, 8, 9, 10, 11])] }
def fc91 : FC := { live := [(2, [0, 1, 5])] }
def fc92 : FC := { live := [(2, [0, 1, 2, 3, 9])] }
def fc97 : FC := { live := [(2, [0, 1, 7, 8])] }
def fc100 : FC := { live := [(5, [0, 1, 2, 3, 8, 10, 11, 12, 22, 23, 24]), (10, [0, 1, 2, 3, 8, 10, 11, 12, 17, 22, 23, 24])] }
def fc102 : FC := { live := [(3, [0, 3, 4]), (6, [0, 3, 4, 5])], alias := [(26, 3)], born := [3] }
def fc103 : FC := { live := [(3, [0, 1, 5, 6])], alias := [(28, 5), (34, 5), (39, 4)], born := [4, 5] }
def fc104 : FC := { live := [(6, [2, 3, 4, 10, 12, 13, 16])] }
def fc105 : FC := { live := [(6, [0, 3, 6])], alias := [(71, 4)], bar := true, frame := true }
def fc106 : FC := { live := [(2, [0, 1, 2, 3, 9])] }
def fc107 : FC := { live := [(5, [0, 3, 4])] }
def fc108 : FC := { live := [(3, [0, 3, 4])] }
def fc110 : FC := { live := [(2, [0, 3, 6, 7, 8])] }
def fc117 : FC := { live := [(2, [0, 1, 7, 8])] }
def fc118 : FC := { live := [(2, [0, 1, 5])] }
def fc119 : FC := { live := [(3, [0, 1, 5, 6])] }
def fc120 : FC := { live := [(2, [0, 1, 5])] }
def fc121 : FC := { live := [(2, [0, 1, 2, 6, 7, 8]), (7, [0, 1, 2, 6]), (9, [0, 1, 2, 6, 7, 8])], lax := true }
def fc123 : FC := { alias := [(7, 2)], born := [2], frame := true, fresh := true }
def fc124 : FC := { live := [(2, [0, 1, 2, 3, 8, 9])], lax := true }
def fc127 : FC := { live := [(2, [0, 1, 7, 8])] }
def fc128 : FC := { live := [(1, [0, 1, 2, 3, 8]), (4, [0, 1, 2, 3, 8, 9])], lax := true }
def fc129 : FC := { live := [(3, [0, 1, 4, 10, 11]), (9, [0, 10, 13]), (15, [0, 2, 4, 14, 15]), (21, [0, 14, 17]), (33, [0, 1, 2, 3, 4, 18, 19, 20, 21, 22])] }
def fc130 : FC := { live := [(1, [0, 1, 2, 6]), (4, [0, 1, 2, 6, 7])], lax := true }
def fc131 : FC := { live := [(4, [0, 6, 7, 8, 9]), (8, [0, 6, 7, 10])] }
def fc132 : FC := { live := [(5, [0, 1, 6, 7, 8, 9])] }
def fc134 : FC := { live := [(2, [0, 6, 7])] }
def fc135 : FC := { live := [(3, [0, 1, 2, 7, 8]), (5, [0, 1, 2, 7, 8]), (14, [0, 1, 2, 7, 8, 9]), (20, [0, 1, 2, 7, 8, 10])] }
def fc137 : FC := { live := [(3, [0, 1, 9, 10]), (5, [0, 1, 9, 10])] }
def fc138 : FC := { live := [(3, [0, 1, 10, 11]), (5, [0, 1, 10, 11]), (13, [0, 1, 10, 11]), (15, [0, 1, 10, 11])] }
def fc141 : FC := { live := [(2, [0, 2, 4, 10, 11])] }
def fc142 : FC := { live := [(1, [0, 2, 3, 8])] }
def fc147 : FC := { live := [(1, [0, 1, 2, 3, 10])] }
def fcs : List (Nat × FC) := [(8, fc8), (9, fc9), (11, fc11), (16, fc16), (18, fc18), (24, fc24), (28, fc28), (29, fc29), (30, fc30), (31, fc31), (33, fc33), (36, fc36), (39, fc39), (40, fc40), (41, fc41), (43, fc43), (44, fc44), (46, fc46), (47, fc47), (48, fc48), (51, fc51), (52, fc52), (53, fc53), (54, fc54), (55, fc55), (56, fc56), (57, fc57), (62, fc62), (63, fc63), (64, fc64), (65, fc65), (66, fc66), (68, fc68), (70, fc70), (71, fc71), (72, fc72), (73, fc73), (74, fc74), (75, fc75), (76, fc76), (77, fc77), (78, fc78), (81, fc81), (82, fc82), (84, fc84), (85, fc85), (90, fc90), (91, fc91), (92, fc92), (97, fc97), (100, fc100), (102, fc102), (103, fc103), (104, fc104), (105, fc105), (106, fc106), (107, fc107), (108, fc108), (110, fc110), (117, fc117), (118, fc118), (119, fc119), (120, fc120), (121, fc121), (123, fc123), (124, fc124), (127, fc127), (128, fc128), (129, fc129), (130, fc130), (131, fc131), (132, fc132), (134, fc134), (135, fc135), (137, fc137), (138, fc138), (141, fc141), (142, fc142), (147, fc147)]
def inls : List Nat := [105, 79, 94, 121, 128, 101, 124, 130, 123, 100]
def seqs : Nat → List V → Option (Nat × List (List V)) := eachSeq 110
noncomputable def E : Env := mkEnv Try.prog tys fcs inls seqs
noncomputable def E0 : Env := mkEnv Try.prog tys fcs inls
theorem E0_ok : EnvOk Try.prog E0 := mkEnv_ok (fun _ _ _ _ h => by cases h) (by decide +kernel) (by decide +kernel)
theorem E0ty (t : Nat) : E0.ty t = E.ty t := rfl
theorem mixed : Try.prog.follows .mixedOrders = true := by decide +kernel
theorem einl (g : Nat) : E.inl g = inls.contains g := rfl
theorem ty3 : E.ty 3 = some ti3 := rfl
theorem ty24 : E.ty 24 = some ti24 := rfl
theorem ty42 : E.ty 42 = some ti42 := rfl
theorem ty43 : E.ty 43 = some ti43 := rfl
theorem ty52 : E.ty 52 = some ti52 := rfl
theorem ty66 : E.ty 66 = some ti66 := rfl
theorem ty68 : E.ty 68 = some ti68 := rfl
theorem ty70 : E.ty 70 = some ti70 := rfl
theorem ty94 : E.ty 94 = some ti94 := rfl
theorem ty118 : E.ty 118 = some ti118 := rfl
theorem te : E.ty 1 = some { ty := .other, size := 1, bytes := 8, zero := .lit .nilFunc } ∧ E.ty 2 = some { ty := .int .i64, size := 1, bytes := 8, zero := .int .i64 0 } ∧ E.ty 3 = some { ty := .int .i64, size := 1, bytes := 8, zero := .int .i64 0 } ∧ E.ty 4 = some { ty := .bool, size := 1, bytes := 1, zero := .bool false } ∧ E.ty 5 = some { ty := .int .u8, size := 1, bytes := 1, zero := .int .u8 0 } ∧ E.ty 9 = some { ty := .str, size := 1, bytes := 16, zero := .lit (.string ByteArray.empty) } ∧ E.ty 23 = some { ty := .struct [(0, 3), (1, 3), (2, 3), (3, 3), (4, 3)], size := 5, bytes := 40, zero := .agg [.int .i64 0, .int .i64 0, .int .i64 0, .int .i64 0, .int .i64 0], eq := true } ∧ E.ty 24 = some { ty := .slice 3, size := 1, bytes := 24, zero := .emp } ∧ E.ty 25 = some { ty := .int .i64, size := 1, bytes := 8, zero := .int .i64 0 } ∧ E.ty 28 = some { ty := .struct [(0, 3), (1, 3), (2, 3), (3, 3), (4, 3)], size := 5, bytes := 40, zero := .agg [.int .i64 0, .int .i64 0, .int .i64 0, .int .i64 0, .int .i64 0], eq := true } ∧ E.ty 31 = some { ty := .struct [(0, 3), (1, 3), (2, 3), (3, 3), (4, 3)], size := 5, bytes := 40, zero := .agg [.int .i64 0, .int .i64 0, .int .i64 0, .int .i64 0, .int .i64 0], eq := true } ∧ E.ty 42 = some { ty := .struct [(0, 3), (1, 24)], size := 2, bytes := 32, zero := .agg [.int .i64 0, .emp] } ∧ E.ty 43 = some { ty := .slice 42, size := 1, bytes := 24, zero := .emp } ∧ E.ty 52 = some { ty := .struct [(0, 3), (1, 3), (2, 3), (3, 3), (4, 3)], size := 5, bytes := 40, zero := .agg [.int .i64 0, .int .i64 0, .int .i64 0, .int .i64 0, .int .i64 0], eq := true } ∧ E.ty 58 = some { ty := .slice 28, size := 1, bytes := 24, zero := .emp } ∧ E.ty 60 = some { ty := .slice 23, size := 1, bytes := 24, zero := .emp } ∧ E.ty 61 = some { ty := .slice 31, size := 1, bytes := 24, zero := .emp } ∧ E.ty 66 = some { ty := .slice 52, size := 1, bytes := 24, zero := .emp } ∧ E.ty 68 = some { ty := .struct [(0, 43), (1, 66)], size := 2, bytes := 48, zero := .agg [.emp, .emp] } ∧ E.ty 70 = some { ty := .struct [(0, 3), (1, 3)], size := 2, bytes := 16, zero := .agg [.int .i64 0, .int .i64 0], eq := true } ∧ E.ty 73 = some { ty := .struct [(0, 3), (1, 3)], size := 2, bytes := 16, zero := .agg [.int .i64 0, .int .i64 0], eq := true } ∧ E.ty 78 = some { ty := .struct [(0, 3), (1, 3)], size := 2, bytes := 16, zero := .agg [.int .i64 0, .int .i64 0], eq := true } ∧ E.ty 83 = some { ty := .slice 125, size := 1, bytes := 24, zero := .emp } ∧ E.ty 90 = some { ty := .struct [(0, 3), (1, 3), (2, 3)], size := 3, bytes := 24, zero := .agg [.int .i64 0, .int .i64 0, .int .i64 0], eq := true } ∧ E.ty 94 = some { ty := .slice 118, size := 1, bytes := 24, zero := .emp } ∧ E.ty 107 = some { ty := .slice 163, size := 1, bytes := 24, zero := .emp } ∧ E.ty 118 = some { ty := .struct [(0, 3), (1, 3), (2, 24), (3, 24)], size := 4, bytes := 64, zero := .agg [.int .i64 0, .int .i64 0, .emp, .emp] } ∧ E.ty 120 = some { ty := .slice 166, size := 1, bytes := 24, zero := .emp } ∧ E.ty 125 = some { ty := .struct [(0, 3), (1, 90)], size := 4, bytes := 32, zero := .agg [.int .i64 0, .int .i64 0, .int .i64 0, .int .i64 0], eq := true } ∧ E.ty 126 = some { ty := .other, size := 1, bytes := 8, zero := .lit .nilFunc } ∧ E.ty 129 = some { ty := .other, size := 1, bytes := 8, zero := .lit .nilFunc } ∧ E.ty 130 = some { ty := .other, size := 1, bytes := 8, zero := .lit .nilFunc } ∧ E.ty 132 = some { ty := .slice 4, size := 1, bytes := 24, zero := .emp } ∧ E.ty 133 = some { ty := .slice 136, size := 1, bytes := 24, zero := .emp } ∧ E.ty 136 = some { ty := .struct [(0, 118), (4, 3), (5, 3), (6, 3)], size := 7, bytes := 88, zero := .agg [.int .i64 0, .int .i64 0, .emp, .emp, .int .i64 0, .int .i64 0, .int .i64 0] } ∧ E.ty 139 = some { ty := .other, size := 1, bytes := 8, zero := .lit .nilFunc } ∧ E.ty 146 = some { ty := .other, size := 1, bytes := 8, zero := .lit .nilFunc } ∧ E.ty 156 = some { ty := .other, size := 1, bytes := 8, zero := .lit (.pointer none) } ∧ E.ty 157 = some { ty := .map 162 4, size := 1, bytes := 8, zero := .lit (.map none) } ∧ E.ty 159 = some { ty := .struct [(0, 42), (2, 3), (3, 3), (4, 157)], size := 5, bytes := 56, zero := .agg [.int .i64 0, .emp, .int .i64 0, .int .i64 0, .lit (.map none)] } ∧ E.ty 162 = some { ty := .struct [(0, 3), (1, 3), (2, 3)], size := 3, bytes := 24, zero := .agg [.int .i64 0, .int .i64 0, .int .i64 0], eq := true } ∧ E.ty 163 = some { ty := .slice 132, size := 1, bytes := 24, zero := .emp } ∧ E.ty 166 = some { ty := .struct [(0, 3), (1, 4)], size := 2, bytes := 16, zero := .agg [.int .i64 0, .bool false], eq := true } ∧ E.ty 167 = some { ty := .other, size := 1, bytes := 8, zero := .lit .nilFunc } ∧ E.ty 168 = some { ty := .other, size := 1, bytes := 8, zero := .lit .nilFunc } ∧ E.ty 170 = some { ty := .other, size := 1, bytes := 8, zero := .lit .nilFunc } ∧ E.ty 171 = some { ty := .other, size := 1, bytes := 8, zero := .lit .nilFunc } ∧ E.ty 178 = some { ty := .int .u64, size := 1, bytes := 8, zero := .int .u64 0 } ∧ E.ty 183 = some { ty := .int .i64, size := 1, bytes := 8, zero := .int .i64 0 } ∧ E.ty 191 = some { ty := .int .u32, size := 1, bytes := 4, zero := .int .u32 0 } ∧ E.ty 193 = some { ty := .int .u64, size := 1, bytes := 8, zero := .int .u64 0 } ∧ E.ty 194 = some { ty := .int .u64, size := 1, bytes := 8, zero := .int .u64 0 } ∧ E.ty 198 = some { ty := .other, size := 1, bytes := 8, zero := .lit (.pointer none) } ∧ E.ty 200 = some { ty := .other, size := 1, bytes := 8, zero := .lit (.pointer none) } := ⟨rfl, rfl, rfl, rfl, rfl, rfl, rfl, rfl, rfl, rfl, rfl, rfl, rfl, rfl, rfl, rfl, rfl, rfl, rfl, rfl, rfl, rfl, rfl, rfl, rfl, rfl, rfl, rfl, rfl, rfl, rfl, rfl, rfl, rfl, rfl, rfl, rfl, rfl, rfl, rfl, rfl, rfl, rfl, rfl, rfl, rfl, rfl, rfl, rfl, rfl, rfl, rfl, rfl, rfl⟩
theorem fn5 : E.fn 5 = some Try.f5 := Try.func5
theorem efc5 : E.fc 5 = {} := rfl
theorem fn6 : E.fn 6 = some Try.f6 := Try.func6
theorem efc6 : E.fc 6 = {} := rfl
theorem fn15 : E.fn 15 = some Try.f15 := Try.func15
theorem efc15 : E.fc 15 = {} := rfl
theorem fn24 : E.fn 24 = some Try.f24 := Try.func24
theorem efc24 : E.fc 24 = fc24 := rfl
theorem fn26 : E.fn 26 = some Try.f26 := Try.func26
theorem efc26 : E.fc 26 = {} := rfl
theorem fn28 : E.fn 28 = some Try.f28 := Try.func28
theorem efc28 : E.fc 28 = fc28 := rfl
theorem fn30 : E.fn 30 = some Try.f30 := Try.func30
theorem efc30 : E.fc 30 = fc30 := rfl
theorem fn31 : E.fn 31 = some Try.f31 := Try.func31
theorem efc31 : E.fc 31 = fc31 := rfl
theorem fn32 : E.fn 32 = some Try.f32 := Try.func32
theorem efc32 : E.fc 32 = {} := rfl
theorem fn33 : E.fn 33 = some Try.f33 := Try.func33
theorem efc33 : E.fc 33 = fc33 := rfl
theorem fn34 : E.fn 34 = some Try.f34 := Try.func34
theorem efc34 : E.fc 34 = {} := rfl
theorem fn35 : E.fn 35 = some Try.f35 := Try.func35
theorem efc35 : E.fc 35 = {} := rfl
theorem fn41 : E.fn 41 = some Try.f41 := Try.func41
theorem efc41 : E.fc 41 = fc41 := rfl
theorem fn42 : E.fn 42 = some Try.f42 := Try.func42
theorem efc42 : E.fc 42 = {} := rfl
theorem fn43 : E.fn 43 = some Try.f43 := Try.func43
theorem efc43 : E.fc 43 = fc43 := rfl
theorem fn51 : E.fn 51 = some Try.f51 := Try.func51
theorem efc51 : E.fc 51 = fc51 := rfl
theorem fn52 : E.fn 52 = some Try.f52 := Try.func52
theorem efc52 : E.fc 52 = fc52 := rfl
theorem fn54 : E.fn 54 = some Try.f54 := Try.func54
theorem efc54 : E.fc 54 = fc54 := rfl
theorem fn57 : E.fn 57 = some Try.f57 := Try.func57
theorem efc57 : E.fc 57 = fc57 := rfl
theorem fn58 : E.fn 58 = some Try.f58 := Try.func58
theorem efc58 : E.fc 58 = {} := rfl
theorem fn59 : E.fn 59 = some Try.f59 := Try.func59
theorem efc59 : E.fc 59 = {} := rfl
theorem fn62 : E.fn 62 = some Try.f62 := Try.func62
theorem efc62 : E.fc 62 = fc62 := rfl
theorem fn64 : E.fn 64 = some Try.f64 := Try.func64
theorem efc64 : E.fc 64 = fc64 := rfl
theorem fn65 : E.fn 65 = some Try.f65 := Try.func65
theorem efc65 : E.fc 65 = fc65 := rfl
theorem fn66 : E.fn 66 = some Try.f66 := Try.func66
theorem efc66 : E.fc 66 = fc66 := rfl
theorem fn67 : E.fn 67 = some Try.f67 := Try.func67
theorem efc67 : E.fc 67 = {} := rfl
theorem fn68 : E.fn 68 = some Try.f68 := Try.func68
theorem efc68 : E.fc 68 = fc68 := rfl
theorem fn69 : E.fn 69 = some Try.f69 := Try.func69
theorem efc69 : E.fc 69 = {} := rfl
theorem fn70 : E.fn 70 = some Try.f70 := Try.func70
theorem efc70 : E.fc 70 = fc70 := rfl
theorem fn75 : E.fn 75 = some Try.f75 := Try.func75
theorem efc75 : E.fc 75 = fc75 := rfl
theorem fn76 : E.fn 76 = some Try.f76 := Try.func76
theorem efc76 : E.fc 76 = fc76 := rfl
theorem fn84 : E.fn 84 = some Try.f84 := Try.func84
theorem efc84 : E.fc 84 = fc84 := rfl
theorem fn85 : E.fn 85 = some Try.f85 := Try.func85
theorem efc85 : E.fc 85 = fc85 := rfl
theorem fn86 : E.fn 86 = some Try.f86 := Try.func86
theorem efc86 : E.fc 86 = {} := rfl
theorem fn87 : E.fn 87 = some Try.f87 := Try.func87
theorem efc87 : E.fc 87 = {} := rfl
theorem fn88 : E.fn 88 = some Try.f88 := Try.func88
theorem efc88 : E.fc 88 = {} := rfl
theorem fn89 : E.fn 89 = some Try.f89 := Try.func89
theorem efc89 : E.fc 89 = {} := rfl
theorem fn94 : E.fn 94 = some Try.f94 := Try.func94
theorem efc94 : E.fc 94 = {} := rfl
theorem fn95 : E.fn 95 = some Try.f95 := Try.func95
theorem efc95 : E.fc 95 = {} := rfl
theorem fn96 : E.fn 96 = some Try.f96 := Try.func96
theorem efc96 : E.fc 96 = {} := rfl
theorem fn97 : E.fn 97 = some Try.f97 := Try.func97
theorem efc97 : E.fc 97 = fc97 := rfl
theorem fn98 : E.fn 98 = some Try.f98 := Try.func98
theorem efc98 : E.fc 98 = {} := rfl
theorem fn99 : E.fn 99 = some Try.f99 := Try.func99
theorem efc99 : E.fc 99 = {} := rfl
theorem fn100 : E.fn 100 = some Try.f100 := Try.func100
theorem efc100 : E.fc 100 = fc100 := rfl
theorem fn101 : E.fn 101 = some Try.f101 := Try.func101
theorem efc101 : E.fc 101 = {} := rfl
theorem fn105 : E.fn 105 = some Try.f105 := Try.func105
theorem efc105 : E.fc 105 = fc105 := rfl
theorem fn106 : E.fn 106 = some Try.f106 := Try.func106
theorem efc106 : E.fc 106 = fc106 := rfl
theorem fn109 : E.fn 109 = some Try.f109 := Try.func109
theorem efc109 : E.fc 109 = {} := rfl
theorem fn111 : E.fn 111 = some Try.f111 := Try.func111
theorem efc111 : E.fc 111 = {} := rfl
theorem fn112 : E.fn 112 = some Try.f112 := Try.func112
theorem efc112 : E.fc 112 = {} := rfl
theorem fn113 : E.fn 113 = some Try.f113 := Try.func113
theorem efc113 : E.fc 113 = {} := rfl
theorem fn114 : E.fn 114 = some Try.f114 := Try.func114
theorem efc114 : E.fc 114 = {} := rfl
theorem fn115 : E.fn 115 = some Try.f115 := Try.func115
theorem efc115 : E.fc 115 = {} := rfl
theorem fn116 : E.fn 116 = some Try.f116 := Try.func116
theorem efc116 : E.fc 116 = {} := rfl
theorem fn117 : E.fn 117 = some Try.f117 := Try.func117
theorem efc117 : E.fc 117 = fc117 := rfl
theorem fn121 : E.fn 121 = some Try.f121 := Try.func121
theorem efc121 : E.fc 121 = fc121 := rfl
theorem fn122 : E.fn 122 = some Try.f122 := Try.func122
theorem efc122 : E.fc 122 = {} := rfl
theorem fn123 : E.fn 123 = some Try.f123 := Try.func123
theorem efc123 : E.fc 123 = fc123 := rfl
theorem fn124 : E.fn 124 = some Try.f124 := Try.func124
theorem efc124 : E.fc 124 = fc124 := rfl
theorem fn127 : E.fn 127 = some Try.f127 := Try.func127
theorem efc127 : E.fc 127 = fc127 := rfl
theorem fn128 : E.fn 128 = some Try.f128 := Try.func128
theorem efc128 : E.fc 128 = fc128 := rfl
theorem fn130 : E.fn 130 = some Try.f130 := Try.func130
theorem efc130 : E.fc 130 = fc130 := rfl
theorem fn136 : E.fn 136 = some Try.f136 := Try.func136
theorem efc136 : E.fc 136 = {} := rfl
theorem efr : (E.fc 105).frame = true ∧ (E.fc 105).fresh = false ∧ (E.fc 79).frame = false ∧ (E.fc 79).fresh = false ∧ (E.fc 94).frame = false ∧ (E.fc 94).fresh = false ∧ (E.fc 121).frame = false ∧ (E.fc 121).fresh = false ∧ (E.fc 128).frame = false ∧ (E.fc 128).fresh = false ∧ (E.fc 101).frame = false ∧ (E.fc 101).fresh = false ∧ (E.fc 124).frame = false ∧ (E.fc 124).fresh = false ∧ (E.fc 130).frame = false ∧ (E.fc 130).fresh = false ∧ (E.fc 123).frame = true ∧ (E.fc 123).fresh = true ∧ (E.fc 100).frame = false ∧ (E.fc 100).fresh = false := ⟨rfl, rfl, rfl, rfl, rfl, rfl, rfl, rfl, rfl, rfl, rfl, rfl, rfl, rfl, rfl, rfl, rfl, rfl, rfl, rfl⟩
end Go.AM.B

