import Derived.Test.YtkacpekakpbalaaAmR
import Derived.Test.YtkacpekakpbalaaProg
set_option linter.unusedVariables false
set_option linter.unusedSimpArgs false
set_option maxRecDepth 20000

namespace Go.AM.E
open Go Go.Proofs
def ti1 : TI := { ty := .other, size := 1, bytes := 8, zero := .lit .nilFunc }
def ti2 : TI := { ty := .int .i64, size := 1, bytes := 8, zero := .int .i64 0 }
def ti3 : TI := { ty := .int .i64, size := 1, bytes := 8, zero := .int .i64 0 }
def ti4 : TI := { ty := .bool, size := 1, bytes := 1, zero := .bool false }
def ti22 : TI := { ty := .slice 73, size := 1, bytes := 24, zero := .emp }
def ti23 : TI := { ty := .slice 3, size := 1, bytes := 24, zero := .emp }
def ti25 : TI := { ty := .struct [(0, 3), (1, 22), (2, 23), (3, 23)], size := 4, bytes := 80, zero := .agg [.int .i64 0, .emp, .emp, .emp] }
def ti26 : TI := { ty := .int .i64, size := 1, bytes := 8, zero := .int .i64 0 }
def ti31 : TI := { ty := .struct [(0, 3), (1, 3)], size := 2, bytes := 16, zero := .agg [.int .i64 0, .int .i64 0], eq := true }
def ti35 : TI := { ty := .struct [(0, 3), (1, 23)], size := 2, bytes := 32, zero := .agg [.int .i64 0, .emp] }
def ti37 : TI := { ty := .struct [(0, 3), (1, 3), (2, 23), (3, 23), (4, 23)], size := 5, bytes := 88, zero := .agg [.int .i64 0, .int .i64 0, .emp, .emp, .emp] }
def ti39 : TI := { ty := .struct [(0, 3), (1, 35), (3, 37)], size := 8, bytes := 128, zero := .agg [.int .i64 0, .int .i64 0, .emp, .int .i64 0, .int .i64 0, .emp, .emp, .emp] }
def ti48 : TI := { ty := .int .u64, size := 1, bytes := 8, zero := .int .u64 0 }
def ti56 : TI := { ty := .struct [(0, 3), (1, 3)], size := 2, bytes := 16, zero := .agg [.int .i64 0, .int .i64 0], eq := true }
def ti73 : TI := { ty := .struct [(0, 3), (1, 3), (2, 23)], size := 3, bytes := 40, zero := .agg [.int .i64 0, .int .i64 0, .emp] }
def ti77 : TI := { ty := .struct [(0, 23), (1, 23)], size := 2, bytes := 48, zero := .agg [.emp, .emp] }
def ti81 : TI := { ty := .slice 85, size := 1, bytes := 24, zero := .emp }
def ti83 : TI := { ty := .other, size := 1, bytes := 8, zero := .lit .nilFunc }
def ti85 : TI := { ty := .struct [(0, 25), (4, 23), (5, 23), (6, 3), (7, 83)], size := 8, bytes := 144, zero := .agg [.int .i64 0, .emp, .emp, .emp, .emp, .emp, .int .i64 0, .lit .nilFunc] }
def ti103 : TI := { ty := .slice 23, size := 1, bytes := 24, zero := .emp }
def ti110 : TI := { ty := .int .u64, size := 1, bytes := 8, zero := .int .u64 0 }
def ti113 : TI := { ty := .slice 23, size := 1, bytes := 24, zero := .emp }
def tys : List (Nat × TI) := [(1, ti1), (2, ti2), (3, ti3), (4, ti4), (22, ti22), (23, ti23), (25, ti25), (26, ti26), (31, ti31), (35, ti35), (37, ti37), (39, ti39), (48, ti48), (56, ti56), (73, ti73), (77, ti77), (81, ti81), (83, ti83), (85, ti85), (103, ti103), (110, ti110), (113, ti113)]
def fc6 : FC := { live := [(5, [3, 4, 5, 7, 8]), (9, [3, 7, 9])], bar := true }
def fc7 : FC := { live := [(4, [2, 3, 4, 7, 8])], bar := true }
def fc12 : FC := { live := [(7, [2, 5, 6, 9, 10])] }
def fc15 : FC := { live := [(6, [1, 44, 45]), (12, [1, 61, 62, 63])] }
def fc16 : FC := { live := [(4, [1, 3]), (9, [1, 4])] }
def fc19 : FC := { live := [(6, [1, 2, 6, 7]), (11, [1, 2, 6, 8, 9, 10, 11])] }
def fc20 : FC := { live := [(6, [2, 5, 23, 24, 25]), (14, [2, 42, 43, 44])] }
def fc21 : FC := { live := [(4, [2, 3, 5])] }
def fc23 : FC := { live := [(7, [2, 3, 4, 7])] }
def fc24 : FC := { live := [(8, [2, 3, 6, 7])] }
def fc26 : FC := { live := [(4, [1, 3])] }
def fc29 : FC := { live := [(7, [2, 3, 4, 21, 22, 23])] }
def fc30 : FC := { live := [(4, [2, 3, 17, 18, 19])] }
def fc34 : FC := { bar := true }
def fc35 : FC := { bar := true }
def fc36 : FC := { live := [(4, [2, 3, 5])], bar := true }
def fc38 : FC := { live := [(6, [2, 3, 7, 20, 21, 22]), (12, [2, 7, 10, 31, 32, 33])], alias := [(43, 10)], born := [10] }
def fc39 : FC := { live := [(7, [2, 3, 7, 8, 9])], alias := [(35, 8)], born := [8] }
def fc40 : FC := { live := [(4, [0, 1, 5])] }
def fc41 : FC := { bar := true }
def fc42 : FC := { bar := true, pres := [34] }
def fc48 : FC := { live := [(2, [1, 2, 9, 10, 11])] }
def fc50 : FC := { live := [(2, [0, 1, 2, 7])] }
def fc51 : FC := { live := [(14, [2, 3, 7, 8, 9, 10, 11, 12, 13])], alias := [(57, 11), (64, 11), (77, 11)], born := [11] }
def fc52 : FC := { live := [(3, [1, 2, 4, 5, 6]), (8, [1, 2, 4, 5, 7])] }
def fc53 : FC := { live := [(3, [1, 2, 5, 6])] }
def fc55 : FC := { live := [(3, [1, 3, 17, 18]), (6, [1, 3, 4, 17, 18, 24, 25]), (12, [1, 3, 4, 6, 7, 17, 18, 24, 25, 42, 43, 44]), (16, [1, 3, 4, 6, 7, 9, 10, 17, 18, 24, 25, 42, 43, 44, 49, 50, 51])], alias := [(61, 10), (66, 7), (80, 3)], born := [3, 7, 10], bar := true }
def fc56 : FC := { live := [(6, [1, 2, 3, 4, 19, 20, 21]), (9, [1, 2, 3, 4, 5, 6, 19, 20, 21, 27, 28, 29])], alias := [(14, 3)] }
def fc57 : FC := { live := [(4, [2, 4, 6, 7, 8, 28, 29]), (8, [2, 4, 6, 7, 8, 9, 28, 29, 45, 46])] }
def fc58 : FC := { live := [(4, [1, 2, 4, 5, 30, 31]), (8, [1, 2, 4, 5, 6, 7, 30, 31, 37, 38, 39]), (15, [1, 2, 4, 5, 58, 59]), (21, [1, 2, 4, 5, 10, 11, 58, 59, 77, 78, 79]), (24, [1, 2, 4, 5, 10, 11, 12, 13, 58, 59, 77, 78, 79, 85, 86, 87]), (32, [1, 2, 4, 116, 117, 118]), (35, [1, 2, 4, 17, 116, 117, 118, 122, 123, 124]), (39, [1, 2, 4, 17, 19, 20, 116, 117, 118, 122, 123, 124, 131, 132])], alias := [(35, 7), (56, 5), (70, 11), (114, 5), (129, 20)], born := [5] }
def fc60 : FC := { live := [(3, [2, 3, 4, 7, 8])] }
def fc61 : FC := { live := [(3, [2, 3, 5, 6]), (7, [2, 3, 5, 7])] }
def fc62 : FC := { live := [(2, [1, 2, 3, 7])] }
def fc64 : FC := { live := [(3, [2, 3, 5, 11, 12, 13]), (13, [2, 3, 8, 47, 48])] }
def fc66 : FC := { live := [(3, [3, 5, 9, 10, 11])] }
def fc68 : FC := { live := [(3, [3, 5, 11, 12, 13])] }
def fc69 : FC := { live := [(3, [2, 3, 5, 16, 17]), (8, [3, 5, 50, 51, 52])] }
def fc70 : FC := { live := [(3, [2, 4, 7, 11, 12, 13])] }
def fc71 : FC := { live := [(3, [1, 2, 3, 7, 8])] }
def fc74 : FC := { live := [(3, [1, 2, 18, 19])], thaw := [(6, 0, 1), (9, 0, 1)], lax := true, bar := true, tew := true }
def fc75 : FC := { live := [(6, [1, 2, 3, 4])], lax := true }
def fc76 : FC := { live := [(1, [0, 1])] }
def fc77 : FC := { live := [(5, [0, 1, 6, 27, 28, 29]), (17, [0, 6, 9, 10, 11, 52, 53, 54]), (22, [9, 10, 11]), (26, [9, 10, 11, 14, 87, 88])], alias := [(47, 9), (50, 10)] }
def fc78 : FC := { live := [(3, [0, 3, 4]), (6, [0, 4, 5, 6])] }
def fc79 : FC := { live := [(5, [0, 1, 6, 7]), (15, [0, 1, 6, 8, 9, 10, 11]), (20, [8, 9, 10]), (24, [8, 9, 10, 12, 13])], alias := [(60, 8), (71, 9)], born := [8, 9] }
def fc80 : FC := { alias := [(26, 0)], lax := true, bar := true, pres := [22] }
def fc81 : FC := { live := [(4, [2, 3, 6, 7, 8]), (12, [2, 3, 9, 10, 11]), (20, [2, 3, 9, 10, 11, 12, 13, 14])], alias := [(46, 7), (48, 9), (50, 10), (134, 13), (138, 9), (142, 10)], born := [7, 13] }
def fc82 : FC := { live := [(5, [0, 3, 4, 5])] }
def fc83 : FC := { live := [(3, [0, 1, 2, 7, 8])], alias := [(21, 9), (32, 7)], born := [7] }
def fc86 : FC := { live := [(3, [0, 3, 4])], alias := [(19, 3)], born := [3] }
def fc88 : FC := { live := [(5, [0, 3, 4, 12, 13, 14])] }
def fc90 : FC := { live := [(3, [1, 2, 3, 4, 8, 9, 33, 34]), (8, [2, 3, 8, 9, 60, 61, 62])], bar := true }
def fc91 : FC := { live := [(3, [3, 6, 7, 8])] }
def fc92 : FC := { live := [(8, [1, 2, 3, 6, 8, 9, 10, 11, 39, 40, 41]), (13, [1, 2, 3, 6, 8, 9, 10, 11, 52, 53, 54]), (19, [1, 3, 6, 8, 9, 10, 11, 81, 82, 83]), (27, [1, 3, 6, 8, 9, 10, 11, 16, 17, 18, 81, 82, 83, 121, 122]), (33, [1, 3, 6, 8, 9, 10, 11, 16, 18, 81, 82, 83, 147, 148, 149]), (39, [6, 10, 173, 174, 175])] }
def fc96 : FC := { alias := [(7, 2)], born := [2] }
def fc97 : FC := { alias := [(7, 2)], born := [2], frame := true, fresh := true }
def fc99 : FC := { live := [(3, [0, 1, 5, 6])], alias := [(31, 5)], born := [5], bar := true, lead := true }
def fc100 : FC := { live := [(1, [0, 1])] }
def fc101 : FC := { live := [(3, [1, 2, 7, 13, 14, 15]), (8, [1, 2, 7, 10, 13, 14, 15, 23, 24, 25])], alias := [(36, 10), (41, 7)], born := [7, 10] }
def fcs : List (Nat × FC) := [(6, fc6), (7, fc7), (12, fc12), (15, fc15), (16, fc16), (19, fc19), (20, fc20), (21, fc21), (23, fc23), (24, fc24), (26, fc26), (29, fc29), (30, fc30), (34, fc34), (35, fc35), (36, fc36), (38, fc38), (39, fc39), (40, fc40), (41, fc41), (42, fc42), (48, fc48), (50, fc50), (51, fc51), (52, fc52), (53, fc53), (55, fc55), (56, fc56), (57, fc57), (58, fc58), (60, fc60), (61, fc61), (62, fc62), (64, fc64), (66, fc66), (68, fc68), (69, fc69), (70, fc70), (71, fc71), (74, fc74), (75, fc75), (76, fc76), (77, fc77), (78, fc78), (79, fc79), (80, fc80), (81, fc81), (82, fc82), (83, fc83), (86, fc86), (88, fc88), (90, fc90), (91, fc91), (92, fc92), (96, fc96), (97, fc97), (99, fc99), (100, fc100), (101, fc101)]
def inls : List Nat := [43, 74, 75, 80, 97]
def seqs : Nat → List V → Option (Nat × List (List V)) := fun _ _ => none
noncomputable def E : Env := mkEnv Try.prog tys fcs inls seqs
noncomputable def E0 : Env := mkEnv Try.prog tys fcs inls
theorem E0_ok : EnvOk Try.prog E0 := mkEnv_ok (fun _ _ _ _ h => by cases h) (by decide +kernel) (by decide +kernel)
theorem E_ok : EnvOk Try.prog E := E0_ok
theorem mixed : Try.prog.follows .mixedOrders = true := by decide +kernel
theorem einl (g : Nat) : E.inl g = inls.contains g := rfl
theorem ty3 : E.ty 3 = some ti3 := rfl
theorem ty22 : E.ty 22 = some ti22 := rfl
theorem ty23 : E.ty 23 = some ti23 := rfl
theorem ty25 : E.ty 25 = some ti25 := rfl
theorem ty73 : E.ty 73 = some ti73 := rfl
theorem te : E.ty 1 = some { ty := .other, size := 1, bytes := 8, zero := .lit .nilFunc } ∧ E.ty 2 = some { ty := .int .i64, size := 1, bytes := 8, zero := .int .i64 0 } ∧ E.ty 3 = some { ty := .int .i64, size := 1, bytes := 8, zero := .int .i64 0 } ∧ E.ty 4 = some { ty := .bool, size := 1, bytes := 1, zero := .bool false } ∧ E.ty 22 = some { ty := .slice 73, size := 1, bytes := 24, zero := .emp } ∧ E.ty 23 = some { ty := .slice 3, size := 1, bytes := 24, zero := .emp } ∧ E.ty 25 = some { ty := .struct [(0, 3), (1, 22), (2, 23), (3, 23)], size := 4, bytes := 80, zero := .agg [.int .i64 0, .emp, .emp, .emp] } ∧ E.ty 26 = some { ty := .int .i64, size := 1, bytes := 8, zero := .int .i64 0 } ∧ E.ty 31 = some { ty := .struct [(0, 3), (1, 3)], size := 2, bytes := 16, zero := .agg [.int .i64 0, .int .i64 0], eq := true } ∧ E.ty 35 = some { ty := .struct [(0, 3), (1, 23)], size := 2, bytes := 32, zero := .agg [.int .i64 0, .emp] } ∧ E.ty 37 = some { ty := .struct [(0, 3), (1, 3), (2, 23), (3, 23), (4, 23)], size := 5, bytes := 88, zero := .agg [.int .i64 0, .int .i64 0, .emp, .emp, .emp] } ∧ E.ty 39 = some { ty := .struct [(0, 3), (1, 35), (3, 37)], size := 8, bytes := 128, zero := .agg [.int .i64 0, .int .i64 0, .emp, .int .i64 0, .int .i64 0, .emp, .emp, .emp] } ∧ E.ty 48 = some { ty := .int .u64, size := 1, bytes := 8, zero := .int .u64 0 } ∧ E.ty 56 = some { ty := .struct [(0, 3), (1, 3)], size := 2, bytes := 16, zero := .agg [.int .i64 0, .int .i64 0], eq := true } ∧ E.ty 73 = some { ty := .struct [(0, 3), (1, 3), (2, 23)], size := 3, bytes := 40, zero := .agg [.int .i64 0, .int .i64 0, .emp] } ∧ E.ty 77 = some { ty := .struct [(0, 23), (1, 23)], size := 2, bytes := 48, zero := .agg [.emp, .emp] } ∧ E.ty 81 = some { ty := .slice 85, size := 1, bytes := 24, zero := .emp } ∧ E.ty 83 = some { ty := .other, size := 1, bytes := 8, zero := .lit .nilFunc } ∧ E.ty 85 = some { ty := .struct [(0, 25), (4, 23), (5, 23), (6, 3), (7, 83)], size := 8, bytes := 144, zero := .agg [.int .i64 0, .emp, .emp, .emp, .emp, .emp, .int .i64 0, .lit .nilFunc] } ∧ E.ty 103 = some { ty := .slice 23, size := 1, bytes := 24, zero := .emp } ∧ E.ty 110 = some { ty := .int .u64, size := 1, bytes := 8, zero := .int .u64 0 } ∧ E.ty 113 = some { ty := .slice 23, size := 1, bytes := 24, zero := .emp } := ⟨rfl, rfl, rfl, rfl, rfl, rfl, rfl, rfl, rfl, rfl, rfl, rfl, rfl, rfl, rfl, rfl, rfl, rfl, rfl, rfl, rfl, rfl⟩
theorem fn13 : E.fn 13 = some Try.f13 := Try.func13
theorem efc13 : E.fc 13 = {} := rfl
theorem fn15 : E.fn 15 = some Try.f15 := Try.func15
theorem efc15 : E.fc 15 = fc15 := rfl
theorem fn16 : E.fn 16 = some Try.f16 := Try.func16
theorem efc16 : E.fc 16 = fc16 := rfl
theorem fn18 : E.fn 18 = some Try.f18 := Try.func18
theorem efc18 : E.fc 18 = {} := rfl
theorem fn20 : E.fn 20 = some Try.f20 := Try.func20
theorem efc20 : E.fc 20 = fc20 := rfl
theorem fn28 : E.fn 28 = some Try.f28 := Try.func28
theorem efc28 : E.fc 28 = {} := rfl
theorem fn33 : E.fn 33 = some Try.f33 := Try.func33
theorem efc33 : E.fc 33 = {} := rfl
theorem fn36 : E.fn 36 = some Try.f36 := Try.func36
theorem efc36 : E.fc 36 = fc36 := rfl
theorem fn37 : E.fn 37 = some Try.f37 := Try.func37
theorem efc37 : E.fc 37 = {} := rfl
theorem fn40 : E.fn 40 = some Try.f40 := Try.func40
theorem efc40 : E.fc 40 = fc40 := rfl
theorem fn41 : E.fn 41 = some Try.f41 := Try.func41
theorem efc41 : E.fc 41 = fc41 := rfl
theorem fn42 : E.fn 42 = some Try.f42 := Try.func42
theorem efc42 : E.fc 42 = fc42 := rfl
theorem fn47 : E.fn 47 = some Try.f47 := Try.func47
theorem efc47 : E.fc 47 = {} := rfl
theorem fn48 : E.fn 48 = some Try.f48 := Try.func48
theorem efc48 : E.fc 48 = fc48 := rfl
theorem fn49 : E.fn 49 = some Try.f49 := Try.func49
theorem efc49 : E.fc 49 = {} := rfl
theorem fn50 : E.fn 50 = some Try.f50 := Try.func50
theorem efc50 : E.fc 50 = fc50 := rfl
theorem fn55 : E.fn 55 = some Try.f55 := Try.func55
theorem efc55 : E.fc 55 = fc55 := rfl
theorem fn56 : E.fn 56 = some Try.f56 := Try.func56
theorem efc56 : E.fc 56 = fc56 := rfl
theorem fn57 : E.fn 57 = some Try.f57 := Try.func57
theorem efc57 : E.fc 57 = fc57 := rfl
theorem fn58 : E.fn 58 = some Try.f58 := Try.func58
theorem efc58 : E.fc 58 = fc58 := rfl
theorem fn63 : E.fn 63 = some Try.f63 := Try.func63
theorem efc63 : E.fc 63 = {} := rfl
theorem fn64 : E.fn 64 = some Try.f64 := Try.func64
theorem efc64 : E.fc 64 = fc64 := rfl
theorem fn65 : E.fn 65 = some Try.f65 := Try.func65
theorem efc65 : E.fc 65 = {} := rfl
theorem fn66 : E.fn 66 = some Try.f66 := Try.func66
theorem efc66 : E.fc 66 = fc66 := rfl
theorem fn68 : E.fn 68 = some Try.f68 := Try.func68
theorem efc68 : E.fc 68 = fc68 := rfl
theorem fn69 : E.fn 69 = some Try.f69 := Try.func69
theorem efc69 : E.fc 69 = fc69 := rfl
theorem fn70 : E.fn 70 = some Try.f70 := Try.func70
theorem efc70 : E.fc 70 = fc70 := rfl
theorem fn72 : E.fn 72 = some Try.f72 := Try.func72
theorem efc72 : E.fc 72 = {} := rfl
theorem fn73 : E.fn 73 = some Try.f73 := Try.func73
theorem efc73 : E.fc 73 = {} := rfl
theorem fn74 : E.fn 74 = some Try.f74 := Try.func74
theorem efc74 : E.fc 74 = fc74 := rfl
theorem fn75 : E.fn 75 = some Try.f75 := Try.func75
theorem efc75 : E.fc 75 = fc75 := rfl
theorem fn80 : E.fn 80 = some Try.f80 := Try.func80
theorem efc80 : E.fc 80 = fc80 := rfl
theorem fn87 : E.fn 87 = some Try.f87 := Try.func87
theorem efc87 : E.fc 87 = {} := rfl
theorem fn88 : E.fn 88 = some Try.f88 := Try.func88
theorem efc88 : E.fc 88 = fc88 := rfl
theorem fn89 : E.fn 89 = some Try.f89 := Try.func89
theorem efc89 : E.fc 89 = {} := rfl
theorem fn90 : E.fn 90 = some Try.f90 := Try.func90
theorem efc90 : E.fc 90 = fc90 := rfl
theorem fn92 : E.fn 92 = some Try.f92 := Try.func92
theorem efc92 : E.fc 92 = fc92 := rfl
theorem fn93 : E.fn 93 = some Try.f93 := Try.func93
theorem efc93 : E.fc 93 = {} := rfl
theorem fn95 : E.fn 95 = some Try.f95 := Try.func95
theorem efc95 : E.fc 95 = {} := rfl
theorem fn96 : E.fn 96 = some Try.f96 := Try.func96
theorem efc96 : E.fc 96 = fc96 := rfl
theorem fn97 : E.fn 97 = some Try.f97 := Try.func97
theorem efc97 : E.fc 97 = fc97 := rfl
theorem fn101 : E.fn 101 = some Try.f101 := Try.func101
theorem efc101 : E.fc 101 = fc101 := rfl
theorem efr : (E.fc 43).frame = false ∧ (E.fc 43).fresh = false ∧ (E.fc 74).frame = false ∧ (E.fc 74).fresh = false ∧ (E.fc 75).frame = false ∧ (E.fc 75).fresh = false ∧ (E.fc 80).frame = false ∧ (E.fc 80).fresh = false ∧ (E.fc 97).frame = true ∧ (E.fc 97).fresh = true := ⟨rfl, rfl, rfl, rfl, rfl, rfl, rfl, rfl, rfl, rfl⟩
end Go.AM.E

