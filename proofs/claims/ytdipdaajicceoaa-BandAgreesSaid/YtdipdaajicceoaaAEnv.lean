import Derived.Test.YtdipdaajicceoaaProg
import Derived.Test.YtdipdaajicceoaaAmIter
import Derived.Test.YtdipdaajicceoaaAmSet
set_option linter.unusedSimpArgs false
namespace Go.AM.A
open Go Go.Proofs
def ti1 : TI := { ty := .other, size := 1, bytes := 8, zero := .lit .nilFunc }
def ti2 : TI := { ty := .int .i64, size := 1, bytes := 8, zero := .int .i64 0 }
def ti3 : TI := { ty := .int .i64, size := 1, bytes := 8, zero := .int .i64 0 }
def ti4 : TI := { ty := .bool, size := 1, bytes := 1, zero := .bool false }
def ti22 : TI := { ty := .slice 68, size := 1, bytes := 24, zero := .emp }
def ti26 : TI := { ty := .int .i64, size := 1, bytes := 8, zero := .int .i64 0 }
def ti38 : TI := { ty := .struct [(0, 3), (1, 3), (2, 3)], size := 3, bytes := 24, zero := .agg [.int .i64 0, .int .i64 0, .int .i64 0], eq := true }
def ti41 : TI := { ty := .slice 3, size := 1, bytes := 24, zero := .emp }
def ti53 : TI := { ty := .struct [(0, 3), (1, 3), (2, 3), (3, 3)], size := 4, bytes := 32, zero := .agg [.int .i64 0, .int .i64 0, .int .i64 0, .int .i64 0], eq := true }
def ti54 : TI := { ty := .slice 60, size := 1, bytes := 24, zero := .emp }
def ti60 : TI := { ty := .struct [(0, 3), (1, 3)], size := 2, bytes := 16, zero := .agg [.int .i64 0, .int .i64 0], eq := true }
def ti63 : TI := { ty := .struct [(0, 3), (1, 3), (2, 3), (3, 3)], size := 4, bytes := 32, zero := .agg [.int .i64 0, .int .i64 0, .int .i64 0, .int .i64 0], eq := true }
def ti68 : TI := { ty := .struct [(0, 3), (1, 38)], size := 4, bytes := 32, zero := .agg [.int .i64 0, .int .i64 0, .int .i64 0, .int .i64 0], eq := true }
def ti69 : TI := { ty := .slice 38, size := 1, bytes := 24, zero := .emp }
def ti80 : TI := { ty := .other, size := 1, bytes := 8, zero := .lit .nilFunc }
def ti81 : TI := { ty := .other, size := 1, bytes := 8, zero := .lit .nilFunc }
def ti87 : TI := { ty := .other, size := 1, bytes := 8, zero := .lit .nilFunc }
def ti88 : TI := { ty := .other, size := 1, bytes := 8, zero := .lit .nilFunc }
def ti90 : TI := { ty := .other, size := 1, bytes := 8, zero := .lit .nilFunc }
def ti91 : TI := { ty := .slice 22, size := 1, bytes := 24, zero := .emp }
def ti92 : TI := { ty := .other, size := 1, bytes := 8, zero := .lit .nilFunc }
def ti94 : TI := { ty := .other, size := 1, bytes := 8, zero := .lit .nilFunc }
def ti95 : TI := { ty := .other, size := 1, bytes := 8, zero := .lit .nilFunc }
def tys : List (Nat × TI) := [(1, ti1), (2, ti2), (3, ti3), (4, ti4), (22, ti22), (26, ti26), (38, ti38), (41, ti41), (53, ti53), (54, ti54), (60, ti60), (63, ti63), (68, ti68), (69, ti69), (80, ti80), (81, ti81), (87, ti87), (88, ti88), (90, ti90), (91, ti91), (92, ti92), (94, ti94), (95, ti95)]
def fc3 : FC := { thaw := [(20, 0, 4)] }
def fc4 : FC := { thaw := [(30, 0, 4), (41, 0, 4)] }
def fc5 : FC := { thaw := [(22, 0, 4)] }
def fc6 : FC := { live := [(10, [9, 11, 13])] }
def fc9 : FC := { thaw := [(29, 0, 4)] }
def fc10 : FC := { live := [(12, [7, 9, 19])] }
def fc11 : FC := { thaw := [(28, 0, 4), (50, 0, 4)] }
def fc15 : FC := { live := [(24, [0, 1, 5, 9, 10, 11, 13, 15, 21, 22, 23, 24]), (37, [0, 1, 5, 9, 11, 13, 15, 21, 22, 27, 29, 30]), (45, [9, 10, 13, 22, 34, 35])], alias := [(154, 22), (194, 29)], born := [22] }
def fc17 : FC := { alias := [(10, 1)] }
def fc18 : FC := { alias := [(5, 2)], born := [2] }
def fc23 : FC := { live := [(4, [0, 9, 10, 11])] }
def fc24 : FC := { live := [(5, [0, 3, 4])] }
def fc25 : FC := { live := [(4, [0, 1, 5])] }
def fc26 : FC := { live := [(1, [0, 2])], lax := true }
def fc29 : FC := { live := [(6, [0, 5, 13, 14])], alias := [(27, 5)], born := [5] }
def fc30 : FC := { live := [(6, [0, 5, 6])], alias := [(25, 5)], born := [5] }
def fc36 : FC := { live := [(8, [5, 6, 7, 8])], alias := [(33, 6)], born := [6] }
def fc37 : FC := { live := [(8, [0, 1, 24, 25])] }
def fc38 : FC := { live := [(8, [8, 9, 10, 11, 12, 13]), (12, [8, 9, 10, 11, 12, 13, 14, 15])] }
def fc45 : FC := { live := [(7, [0, 3, 7, 8, 9])], alias := [(66, 7)], born := [7] }
def fc46 : FC := { live := [(6, [8, 20, 21, 22])] }
def fc47 : FC := { live := [(4, [6, 7, 8, 9])] }
def fc48 : FC := { live := [(6, [5, 13, 14, 15])] }
def fc49 : FC := { live := [(6, [0, 5, 6])] }
def fc53 : FC := { live := [(8, [0, 1, 2, 3, 11, 12])], thaw := [(31, 0, 4)] }
def fc55 : FC := { live := [(8, [0, 1, 2, 3, 11, 12])], thaw := [(31, 0, 4)] }
def fc57 : FC := { live := [(6, [0, 4, 6, 7])], alias := [(33, 6)], born := [6] }
def fc58 : FC := { live := [(5, [0, 1, 5, 7]), (10, [0, 8])] }
def fc61 : FC := { live := [(3, [3, 6, 7, 8])] }
def fc62 : FC := { live := [(3, [0, 3, 4])] }
def fc66 : FC := { live := [(3, [3, 6, 7, 8])], alias := [(14, 3)], born := [3] }
def fc68 : FC := { alias := [(9, 4)], born := [4] }
def fc72 : FC := { live := [(4, [0, 1, 2, 7, 8, 9])], alias := [(49, 7)], born := [7] }
def fc74 : FC := { live := [(2, [0, 1, 4, 5])] }
def fc76 : FC := { live := [(3, [0, 3, 4])], alias := [(56, 3)], born := [3] }
def fc77 : FC := { live := [(4, [0, 1, 13, 14, 15])] }
def fc78 : FC := { live := [(4, [0, 1, 5, 15, 16])] }
def fc80 : FC := { live := [(3, [1, 2, 7, 11, 12, 13])], alias := [(46, 7)], born := [7] }
def fc83 : FC := { live := [(3, [0, 1, 2, 3, 9, 16, 17])], thaw := [(14, 0, 4)] }
def fc86 : FC := { live := [(4, [5, 6, 7, 8])] }
def fc87 : FC := { live := [(2, [0, 3, 6, 7, 8])] }
def fc88 : FC := { live := [(3, [1, 2, 7, 11, 12, 13])], alias := [(46, 7)], born := [7] }
def fcs : List (Nat × FC) := [(3, fc3), (4, fc4), (5, fc5), (6, fc6), (9, fc9), (10, fc10), (11, fc11), (15, fc15), (17, fc17), (18, fc18), (23, fc23), (24, fc24), (25, fc25), (26, fc26), (29, fc29), (30, fc30), (36, fc36), (37, fc37), (38, fc38), (45, fc45), (46, fc46), (47, fc47), (48, fc48), (49, fc49), (53, fc53), (55, fc55), (57, fc57), (58, fc58), (61, fc61), (62, fc62), (66, fc66), (68, fc68), (72, fc72), (74, fc74), (76, fc76), (77, fc77), (78, fc78), (80, fc80), (83, fc83), (86, fc86), (87, fc87), (88, fc88)]
def inls : List Nat := [26]
def seqs : Nat → List V → Option (Nat × List (List V)) := eachSeq 87
noncomputable def E : Env := mkEnv Try.prog tys fcs inls seqs
noncomputable def E0 : Env := mkEnv Try.prog tys fcs inls
theorem E0_ok : EnvOk Try.prog E0 := mkEnv_ok (fun _ _ _ _ h => by cases h) (by decide +kernel) (by decide +kernel)
theorem E0ty (t : Nat) : E0.ty t = E.ty t := rfl
theorem mixed : Try.prog.follows .mixedOrders = true := by decide +kernel
theorem einl (g : Nat) : E.inl g = inls.contains g := rfl
theorem ty1 : E.ty 1 = some ti1 := rfl
theorem ty2 : E.ty 2 = some ti2 := rfl
theorem ty3 : E.ty 3 = some ti3 := rfl
theorem ty4 : E.ty 4 = some ti4 := rfl
theorem ty22 : E.ty 22 = some ti22 := rfl
theorem ty26 : E.ty 26 = some ti26 := rfl
theorem ty38 : E.ty 38 = some ti38 := rfl
theorem ty41 : E.ty 41 = some ti41 := rfl
theorem ty53 : E.ty 53 = some ti53 := rfl
theorem ty54 : E.ty 54 = some ti54 := rfl
theorem ty60 : E.ty 60 = some ti60 := rfl
theorem ty63 : E.ty 63 = some ti63 := rfl
theorem ty68 : E.ty 68 = some ti68 := rfl
theorem ty69 : E.ty 69 = some ti69 := rfl
theorem ty80 : E.ty 80 = some ti80 := rfl
theorem ty81 : E.ty 81 = some ti81 := rfl
theorem ty87 : E.ty 87 = some ti87 := rfl
theorem ty88 : E.ty 88 = some ti88 := rfl
theorem ty90 : E.ty 90 = some ti90 := rfl
theorem ty91 : E.ty 91 = some ti91 := rfl
theorem ty92 : E.ty 92 = some ti92 := rfl
theorem ty94 : E.ty 94 = some ti94 := rfl
theorem ty95 : E.ty 95 = some ti95 := rfl
theorem fn2 : E.fn 2 = some Try.f2 := Try.func2
theorem efc2 : E.fc 2 = {} := rfl
theorem fn3 : E.fn 3 = some Try.f3 := Try.func3
theorem efc3 : E.fc 3 = fc3 := rfl
theorem fn4 : E.fn 4 = some Try.f4 := Try.func4
theorem efc4 : E.fc 4 = fc4 := rfl
theorem fn5 : E.fn 5 = some Try.f5 := Try.func5
theorem efc5 : E.fc 5 = fc5 := rfl
theorem fn6 : E.fn 6 = some Try.f6 := Try.func6
theorem efc6 : E.fc 6 = fc6 := rfl
theorem fn7 : E.fn 7 = some Try.f7 := Try.func7
theorem efc7 : E.fc 7 = {} := rfl
theorem fn8 : E.fn 8 = some Try.f8 := Try.func8
theorem efc8 : E.fc 8 = {} := rfl
theorem fn9 : E.fn 9 = some Try.f9 := Try.func9
theorem efc9 : E.fc 9 = fc9 := rfl
theorem fn10 : E.fn 10 = some Try.f10 := Try.func10
theorem efc10 : E.fc 10 = fc10 := rfl
theorem fn11 : E.fn 11 = some Try.f11 := Try.func11
theorem efc11 : E.fc 11 = fc11 := rfl
theorem fn12 : E.fn 12 = some Try.f12 := Try.func12
theorem efc12 : E.fc 12 = {} := rfl
theorem fn13 : E.fn 13 = some Try.f13 := Try.func13
theorem efc13 : E.fc 13 = {} := rfl
theorem fn14 : E.fn 14 = some Try.f14 := Try.func14
theorem efc14 : E.fc 14 = {} := rfl
theorem fn15 : E.fn 15 = some Try.f15 := Try.func15
theorem efc15 : E.fc 15 = fc15 := rfl
theorem fn16 : E.fn 16 = some Try.f16 := Try.func16
theorem efc16 : E.fc 16 = {} := rfl
theorem fn17 : E.fn 17 = some Try.f17 := Try.func17
theorem efc17 : E.fc 17 = fc17 := rfl
theorem fn18 : E.fn 18 = some Try.f18 := Try.func18
theorem efc18 : E.fc 18 = fc18 := rfl
theorem fn19 : E.fn 19 = some Try.f19 := Try.func19
theorem efc19 : E.fc 19 = {} := rfl
theorem fn20 : E.fn 20 = some Try.f20 := Try.func20
theorem efc20 : E.fc 20 = {} := rfl
theorem fn21 : E.fn 21 = some Try.f21 := Try.func21
theorem efc21 : E.fc 21 = {} := rfl
theorem fn22 : E.fn 22 = some Try.f22 := Try.func22
theorem efc22 : E.fc 22 = {} := rfl
theorem fn23 : E.fn 23 = some Try.f23 := Try.func23
theorem efc23 : E.fc 23 = fc23 := rfl
theorem fn24 : E.fn 24 = some Try.f24 := Try.func24
theorem efc24 : E.fc 24 = fc24 := rfl
theorem fn25 : E.fn 25 = some Try.f25 := Try.func25
theorem efc25 : E.fc 25 = fc25 := rfl
theorem fn26 : E.fn 26 = some Try.f26 := Try.func26
theorem efc26 : E.fc 26 = fc26 := rfl
theorem fn27 : E.fn 27 = some Try.f27 := Try.func27
theorem efc27 : E.fc 27 = {} := rfl
theorem fn28 : E.fn 28 = some Try.f28 := Try.func28
theorem efc28 : E.fc 28 = {} := rfl
theorem fn29 : E.fn 29 = some Try.f29 := Try.func29
theorem efc29 : E.fc 29 = fc29 := rfl
theorem fn30 : E.fn 30 = some Try.f30 := Try.func30
theorem efc30 : E.fc 30 = fc30 := rfl
theorem fn31 : E.fn 31 = some Try.f31 := Try.func31
theorem efc31 : E.fc 31 = {} := rfl
theorem fn32 : E.fn 32 = some Try.f32 := Try.func32
theorem efc32 : E.fc 32 = {} := rfl
theorem fn33 : E.fn 33 = some Try.f33 := Try.func33
theorem efc33 : E.fc 33 = {} := rfl
theorem fn34 : E.fn 34 = some Try.f34 := Try.func34
theorem efc34 : E.fc 34 = {} := rfl
theorem fn35 : E.fn 35 = some Try.f35 := Try.func35
theorem efc35 : E.fc 35 = {} := rfl
theorem fn36 : E.fn 36 = some Try.f36 := Try.func36
theorem efc36 : E.fc 36 = fc36 := rfl
theorem fn37 : E.fn 37 = some Try.f37 := Try.func37
theorem efc37 : E.fc 37 = fc37 := rfl
theorem fn38 : E.fn 38 = some Try.f38 := Try.func38
theorem efc38 : E.fc 38 = fc38 := rfl
theorem fn39 : E.fn 39 = some Try.f39 := Try.func39
theorem efc39 : E.fc 39 = {} := rfl
theorem fn40 : E.fn 40 = some Try.f40 := Try.func40
theorem efc40 : E.fc 40 = {} := rfl
theorem fn41 : E.fn 41 = some Try.f41 := Try.func41
theorem efc41 : E.fc 41 = {} := rfl
theorem fn42 : E.fn 42 = some Try.f42 := Try.func42
theorem efc42 : E.fc 42 = {} := rfl
theorem fn43 : E.fn 43 = some Try.f43 := Try.func43
theorem efc43 : E.fc 43 = {} := rfl
theorem fn44 : E.fn 44 = some Try.f44 := Try.func44
theorem efc44 : E.fc 44 = {} := rfl
theorem fn45 : E.fn 45 = some Try.f45 := Try.func45
theorem efc45 : E.fc 45 = fc45 := rfl
theorem fn46 : E.fn 46 = some Try.f46 := Try.func46
theorem efc46 : E.fc 46 = fc46 := rfl
theorem fn47 : E.fn 47 = some Try.f47 := Try.func47
theorem efc47 : E.fc 47 = fc47 := rfl
theorem fn48 : E.fn 48 = some Try.f48 := Try.func48
theorem efc48 : E.fc 48 = fc48 := rfl
theorem fn49 : E.fn 49 = some Try.f49 := Try.func49
theorem efc49 : E.fc 49 = fc49 := rfl
theorem fn50 : E.fn 50 = some Try.f50 := Try.func50
theorem efc50 : E.fc 50 = {} := rfl
theorem fn51 : E.fn 51 = some Try.f51 := Try.func51
theorem efc51 : E.fc 51 = {} := rfl
theorem fn52 : E.fn 52 = some Try.f52 := Try.func52
theorem efc52 : E.fc 52 = {} := rfl
theorem fn53 : E.fn 53 = some Try.f53 := Try.func53
theorem efc53 : E.fc 53 = fc53 := rfl
theorem fn54 : E.fn 54 = some Try.f54 := Try.func54
theorem efc54 : E.fc 54 = {} := rfl
theorem fn55 : E.fn 55 = some Try.f55 := Try.func55
theorem efc55 : E.fc 55 = fc55 := rfl
theorem fn56 : E.fn 56 = some Try.f56 := Try.func56
theorem efc56 : E.fc 56 = {} := rfl
theorem fn57 : E.fn 57 = some Try.f57 := Try.func57
theorem efc57 : E.fc 57 = fc57 := rfl
theorem fn58 : E.fn 58 = some Try.f58 := Try.func58
theorem efc58 : E.fc 58 = fc58 := rfl
theorem fn59 : E.fn 59 = some Try.f59 := Try.func59
theorem efc59 : E.fc 59 = {} := rfl
theorem fn60 : E.fn 60 = some Try.f60 := Try.func60
theorem efc60 : E.fc 60 = {} := rfl
theorem fn61 : E.fn 61 = some Try.f61 := Try.func61
theorem efc61 : E.fc 61 = fc61 := rfl
theorem fn62 : E.fn 62 = some Try.f62 := Try.func62
theorem efc62 : E.fc 62 = fc62 := rfl
theorem fn63 : E.fn 63 = some Try.f63 := Try.func63
theorem efc63 : E.fc 63 = {} := rfl
theorem fn64 : E.fn 64 = some Try.f64 := Try.func64
theorem efc64 : E.fc 64 = {} := rfl
theorem fn65 : E.fn 65 = some Try.f65 := Try.func65
theorem efc65 : E.fc 65 = {} := rfl
theorem fn66 : E.fn 66 = some Try.f66 := Try.func66
theorem efc66 : E.fc 66 = fc66 := rfl
theorem fn67 : E.fn 67 = some Try.f67 := Try.func67
theorem efc67 : E.fc 67 = {} := rfl
theorem fn68 : E.fn 68 = some Try.f68 := Try.func68
theorem efc68 : E.fc 68 = fc68 := rfl
theorem fn69 : E.fn 69 = some Try.f69 := Try.func69
theorem efc69 : E.fc 69 = {} := rfl
theorem fn70 : E.fn 70 = some Try.f70 := Try.func70
theorem efc70 : E.fc 70 = {} := rfl
theorem fn71 : E.fn 71 = some Try.f71 := Try.func71
theorem efc71 : E.fc 71 = {} := rfl
theorem fn72 : E.fn 72 = some Try.f72 := Try.func72
theorem efc72 : E.fc 72 = fc72 := rfl
theorem fn73 : E.fn 73 = some Try.f73 := Try.func73
theorem efc73 : E.fc 73 = {} := rfl
theorem fn74 : E.fn 74 = some Try.f74 := Try.func74
theorem efc74 : E.fc 74 = fc74 := rfl
theorem fn75 : E.fn 75 = some Try.f75 := Try.func75
theorem efc75 : E.fc 75 = {} := rfl
theorem fn76 : E.fn 76 = some Try.f76 := Try.func76
theorem efc76 : E.fc 76 = fc76 := rfl
theorem fn77 : E.fn 77 = some Try.f77 := Try.func77
theorem efc77 : E.fc 77 = fc77 := rfl
theorem fn78 : E.fn 78 = some Try.f78 := Try.func78
theorem efc78 : E.fc 78 = fc78 := rfl
theorem fn79 : E.fn 79 = some Try.f79 := Try.func79
theorem efc79 : E.fc 79 = {} := rfl
theorem fn80 : E.fn 80 = some Try.f80 := Try.func80
theorem efc80 : E.fc 80 = fc80 := rfl
theorem fn81 : E.fn 81 = some Try.f81 := Try.func81
theorem efc81 : E.fc 81 = {} := rfl
theorem fn82 : E.fn 82 = some Try.f82 := Try.func82
theorem efc82 : E.fc 82 = {} := rfl
theorem fn83 : E.fn 83 = some Try.f83 := Try.func83
theorem efc83 : E.fc 83 = fc83 := rfl
theorem fn84 : E.fn 84 = some Try.f84 := Try.func84
theorem efc84 : E.fc 84 = {} := rfl
theorem fn85 : E.fn 85 = some Try.f85 := Try.func85
theorem efc85 : E.fc 85 = {} := rfl
theorem fn86 : E.fn 86 = some Try.f86 := Try.func86
theorem efc86 : E.fc 86 = fc86 := rfl
theorem fn87 : E.fn 87 = some Try.f87 := Try.func87
theorem efc87 : E.fc 87 = fc87 := rfl
theorem fn88 : E.fn 88 = some Try.f88 := Try.func88
theorem efc88 : E.fc 88 = fc88 := rfl
theorem fn89 : E.fn 89 = some Try.f89 := Try.func89
theorem efc89 : E.fc 89 = {} := rfl
theorem fn90 : E.fn 90 = some Try.f90 := Try.func90
theorem efc90 : E.fc 90 = {} := rfl
end Go.AM.A
