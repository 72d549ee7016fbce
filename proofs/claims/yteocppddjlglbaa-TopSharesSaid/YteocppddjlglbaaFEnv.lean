import Derived.Test.YteocppddjlglbaaAmR
import Derived.Test.YteocppddjlglbaaProg
set_option linter.unusedVariables false
set_option linter.unusedSimpArgs false
set_option maxRecDepth 20000

namespace Go.AM.F
open Go Go.Proofs
def ti1 : TI := { ty := .other, size := 1, bytes := 8, zero := .lit .nilFunc }
def ti2 : TI := { ty := .int .i64, size := 1, bytes := 8, zero := .int .i64 0 }
def ti3 : TI := { ty := .int .i64, size := 1, bytes := 8, zero := .int .i64 0 }
def ti4 : TI := { ty := .bool, size := 1, bytes := 1, zero := .bool false }
def ti5 : TI := { ty := .int .u8, size := 1, bytes := 1, zero := .int .u8 0 }
def ti9 : TI := { ty := .str, size := 1, bytes := 16, zero := .lit (.string ByteArray.empty) }
def ti22 : TI := { ty := .slice 32, size := 1, bytes := 24, zero := .emp }
def ti24 : TI := { ty := .struct [(0, 3), (1, 3)], size := 2, bytes := 16, zero := .agg [.int .i64 0, .int .i64 0], eq := true }
def ti26 : TI := { ty := .struct [(0, 3), (1, 3)], size := 2, bytes := 16, zero := .agg [.int .i64 0, .int .i64 0], eq := true }
def ti27 : TI := { ty := .int .i64, size := 1, bytes := 8, zero := .int .i64 0 }
def ti30 : TI := { ty := .slice 61, size := 1, bytes := 24, zero := .emp }
def ti32 : TI := { ty := .struct [(0, 3), (1, 3), (2, 30)], size := 3, bytes := 40, zero := .agg [.int .i64 0, .int .i64 0, .emp] }
def ti37 : TI := { ty := .other, size := 1, bytes := 8, zero := .lit (.pointer none) }
def ti38 : TI := { ty := .slice 3, size := 1, bytes := 24, zero := .emp }
def ti49 : TI := { ty := .other, size := 1, bytes := 8, zero := .lit (.pointer none) }
def ti52 : TI := { ty := .int .u32, size := 1, bytes := 4, zero := .int .u32 0 }
def ti54 : TI := { ty := .array 20 52, size := 20, bytes := 80, zero := .agg [.int .u32 0, .int .u32 0, .int .u32 0, .int .u32 0, .int .u32 0, .int .u32 0, .int .u32 0, .int .u32 0, .int .u32 0, .int .u32 0, .int .u32 0, .int .u32 0, .int .u32 0, .int .u32 0, .int .u32 0, .int .u32 0, .int .u32 0, .int .u32 0, .int .u32 0, .int .u32 0], eq := true }
def ti59 : TI := { ty := .other, size := 1, bytes := 8, zero := .lit .nilFunc }
def ti61 : TI := { ty := .struct [(0, 3), (1, 3)], size := 2, bytes := 16, zero := .agg [.int .i64 0, .int .i64 0], eq := true }
def ti63 : TI := { ty := .slice 4, size := 1, bytes := 24, zero := .emp }
def ti66 : TI := { ty := .int .u64, size := 1, bytes := 8, zero := .int .u64 0 }
def ti69 : TI := { ty := .map 3 54, size := 1, bytes := 8, zero := .lit (.map none) }
def ti71 : TI := { ty := .struct [(0, 22), (1, 3), (2, 69)], size := 3, bytes := 40, zero := .agg [.emp, .int .i64 0, .lit (.map none)] }
def ti78 : TI := { ty := .other, size := 1, bytes := 8, zero := .lit .nilFunc }
def ti80 : TI := { ty := .other, size := 1, bytes := 8, zero := .lit .nilFunc }
def ti84 : TI := { ty := .int .u64, size := 1, bytes := 8, zero := .int .u64 0 }
def tys : List (Nat × TI) := [(1, ti1), (2, ti2), (3, ti3), (4, ti4), (5, ti5), (9, ti9), (22, ti22), (24, ti24), (26, ti26), (27, ti27), (30, ti30), (32, ti32), (37, ti37), (38, ti38), (49, ti49), (52, ti52), (54, ti54), (59, ti59), (61, ti61), (63, ti63), (66, ti66), (69, ti69), (71, ti71), (78, ti78), (80, ti80), (84, ti84)]
def fc3 : FC := { live := [(17, [0, 3, 12, 14, 15, 16]), (33, [0, 3, 25, 26])], bar := true }
def fc5 : FC := { live := [(4, [0, 3])] }
def fc6 : FC := { live := [(4, [0, 9, 10])] }
def fc7 : FC := { live := [(6, [0, 1, 2, 3, 8, 10, 11])], bar := true, frame := true }
def fc8 : FC := { live := [(6, [0, 7, 20, 21, 22])], alias := [(40, 7)], born := [7] }
def fc10 : FC := { live := [(5, [0, 2, 3, 4, 5, 16, 17, 18])] }
def fc15 : FC := { live := [(5, [0, 13, 14, 15])] }
def fc16 : FC := { alias := [(7, 27), (9, 29)], lax := true }
def fc18 : FC := { live := [(9, [0, 1, 4, 7, 47, 48, 49])], bar := true, frame := true, tew := true }
def fc19 : FC := { bar := true, frame := true }
def fc22 : FC := { live := [(3, [3, 11, 12, 13]), (7, [3, 11, 12, 13, 24, 25, 26])], alias := [(10, 3)] }
def fc24 : FC := { live := [(3, [1, 3, 4])] }
def fc25 : FC := { live := [(5, [5, 6, 13, 14, 15])], stiff := [(11, 0)] }
def fc30 : FC := { live := [(2, [2, 3, 4, 5]), (5, [2, 3, 4, 5]), (6, [2, 3, 4, 5]), (8, [2, 3, 4, 5])] }
def fc31 : FC := { live := [(5, [2, 3, 6, 7])] }
def fc32 : FC := { live := [(2, [0, 3, 5, 8, 9])], bar := true, frame := true }
def fc34 : FC := { live := [(3, [2, 3, 4, 5, 7])] }
def fc35 : FC := { live := [(3, [1, 2, 4, 5, 7])] }
def fc36 : FC := { live := [(5, [1, 5, 17, 18, 19])] }
def fc39 : FC := { live := [(3, [3, 7, 8, 9])] }
def fc40 : FC := { live := [(2, [0, 1, 7, 8])] }
def fc41 : FC := { live := [(3, [3, 18, 19, 20])], bar := true, frame := true }
def fc42 : FC := { live := [(2, [1, 2, 4])] }
def fc43 : FC := { live := [(2, [2, 3, 5])] }
def fc44 : FC := { live := [(3, [2, 3, 4, 5, 7])] }
def fc45 : FC := { live := [(2, [2, 4, 5, 6])] }
def fc46 : FC := { live := [(2, [1, 3])] }
def fc48 : FC := { live := [(2, [0, 1, 7, 8])] }
def fcs : List (Nat × FC) := [(3, fc3), (5, fc5), (6, fc6), (7, fc7), (8, fc8), (10, fc10), (15, fc15), (16, fc16), (18, fc18), (19, fc19), (22, fc22), (24, fc24), (25, fc25), (30, fc30), (31, fc31), (32, fc32), (34, fc34), (35, fc35), (36, fc36), (39, fc39), (40, fc40), (41, fc41), (42, fc42), (43, fc43), (44, fc44), (45, fc45), (46, fc46), (48, fc48)]
def inls : List Nat := [7, 16, 18, 19, 32, 41]
def seqs : Nat → List V → Option (Nat × List (List V)) := fun _ _ => none
noncomputable def E : Env := mkEnv Try.prog tys fcs inls seqs
noncomputable def E0 : Env := mkEnv Try.prog tys fcs inls
theorem E0_ok : EnvOk Try.prog E0 := mkEnv_ok (fun _ _ _ _ h => by cases h) (by decide +kernel) (by decide +kernel)
theorem E_ok : EnvOk Try.prog E := E0_ok
theorem mixed : Try.prog.follows .mixedOrders = true := by decide +kernel
theorem einl (g : Nat) : E.inl g = inls.contains g := rfl
theorem ty3 : E.ty 3 = some ti3 := rfl
theorem ty22 : E.ty 22 = some ti22 := rfl
theorem ty24 : E.ty 24 = some ti24 := rfl
theorem ty30 : E.ty 30 = some ti30 := rfl
theorem ty32 : E.ty 32 = some ti32 := rfl
theorem ty54 : E.ty 54 = some ti54 := rfl
theorem ty61 : E.ty 61 = some ti61 := rfl
theorem te : E.ty 1 = some { ty := .other, size := 1, bytes := 8, zero := .lit .nilFunc } ∧ E.ty 2 = some { ty := .int .i64, size := 1, bytes := 8, zero := .int .i64 0 } ∧ E.ty 3 = some { ty := .int .i64, size := 1, bytes := 8, zero := .int .i64 0 } ∧ E.ty 4 = some { ty := .bool, size := 1, bytes := 1, zero := .bool false } ∧ E.ty 5 = some { ty := .int .u8, size := 1, bytes := 1, zero := .int .u8 0 } ∧ E.ty 9 = some { ty := .str, size := 1, bytes := 16, zero := .lit (.string ByteArray.empty) } ∧ E.ty 22 = some { ty := .slice 32, size := 1, bytes := 24, zero := .emp } ∧ E.ty 24 = some { ty := .struct [(0, 3), (1, 3)], size := 2, bytes := 16, zero := .agg [.int .i64 0, .int .i64 0], eq := true } ∧ E.ty 26 = some { ty := .struct [(0, 3), (1, 3)], size := 2, bytes := 16, zero := .agg [.int .i64 0, .int .i64 0], eq := true } ∧ E.ty 27 = some { ty := .int .i64, size := 1, bytes := 8, zero := .int .i64 0 } ∧ E.ty 30 = some { ty := .slice 61, size := 1, bytes := 24, zero := .emp } ∧ E.ty 32 = some { ty := .struct [(0, 3), (1, 3), (2, 30)], size := 3, bytes := 40, zero := .agg [.int .i64 0, .int .i64 0, .emp] } ∧ E.ty 37 = some { ty := .other, size := 1, bytes := 8, zero := .lit (.pointer none) } ∧ E.ty 38 = some { ty := .slice 3, size := 1, bytes := 24, zero := .emp } ∧ E.ty 49 = some { ty := .other, size := 1, bytes := 8, zero := .lit (.pointer none) } ∧ E.ty 52 = some { ty := .int .u32, size := 1, bytes := 4, zero := .int .u32 0 } ∧ E.ty 54 = some { ty := .array 20 52, size := 20, bytes := 80, zero := .agg [.int .u32 0, .int .u32 0, .int .u32 0, .int .u32 0, .int .u32 0, .int .u32 0, .int .u32 0, .int .u32 0, .int .u32 0, .int .u32 0, .int .u32 0, .int .u32 0, .int .u32 0, .int .u32 0, .int .u32 0, .int .u32 0, .int .u32 0, .int .u32 0, .int .u32 0, .int .u32 0], eq := true } ∧ E.ty 59 = some { ty := .other, size := 1, bytes := 8, zero := .lit .nilFunc } ∧ E.ty 61 = some { ty := .struct [(0, 3), (1, 3)], size := 2, bytes := 16, zero := .agg [.int .i64 0, .int .i64 0], eq := true } ∧ E.ty 63 = some { ty := .slice 4, size := 1, bytes := 24, zero := .emp } ∧ E.ty 66 = some { ty := .int .u64, size := 1, bytes := 8, zero := .int .u64 0 } ∧ E.ty 69 = some { ty := .map 3 54, size := 1, bytes := 8, zero := .lit (.map none) } ∧ E.ty 71 = some { ty := .struct [(0, 22), (1, 3), (2, 69)], size := 3, bytes := 40, zero := .agg [.emp, .int .i64 0, .lit (.map none)] } ∧ E.ty 78 = some { ty := .other, size := 1, bytes := 8, zero := .lit .nilFunc } ∧ E.ty 80 = some { ty := .other, size := 1, bytes := 8, zero := .lit .nilFunc } ∧ E.ty 84 = some { ty := .int .u64, size := 1, bytes := 8, zero := .int .u64 0 } := ⟨rfl, rfl, rfl, rfl, rfl, rfl, rfl, rfl, rfl, rfl, rfl, rfl, rfl, rfl, rfl, rfl, rfl, rfl, rfl, rfl, rfl, rfl, rfl, rfl, rfl, rfl⟩
theorem fn3 : E.fn 3 = some Try.f3 := Try.func3
theorem efc3 : E.fc 3 = fc3 := rfl
theorem fn4 : E.fn 4 = some Try.f4 := Try.func4
theorem efc4 : E.fc 4 = {} := rfl
theorem fn5 : E.fn 5 = some Try.f5 := Try.func5
theorem efc5 : E.fc 5 = fc5 := rfl
theorem fn6 : E.fn 6 = some Try.f6 := Try.func6
theorem efc6 : E.fc 6 = fc6 := rfl
theorem fn7 : E.fn 7 = some Try.f7 := Try.func7
theorem efc7 : E.fc 7 = fc7 := rfl
theorem fn8 : E.fn 8 = some Try.f8 := Try.func8
theorem efc8 : E.fc 8 = fc8 := rfl
theorem fn9 : E.fn 9 = some Try.f9 := Try.func9
theorem efc9 : E.fc 9 = {} := rfl
theorem fn10 : E.fn 10 = some Try.f10 := Try.func10
theorem efc10 : E.fc 10 = fc10 := rfl
theorem fn11 : E.fn 11 = some Try.f11 := Try.func11
theorem efc11 : E.fc 11 = {} := rfl
theorem fn12 : E.fn 12 = some Try.f12 := Try.func12
theorem efc12 : E.fc 12 = {} := rfl
theorem fn13 : E.fn 13 = some Try.f13 := Try.func13
theorem efc13 : E.fc 13 = {} := rfl
theorem fn14 : E.fn 14 = some Try.f14 := Try.func14
theorem efc14 : E.fc 14 = {} := rfl
theorem fn15 : E.fn 15 = some Try.f15 := Try.func15
theorem efc15 : E.fc 15 = fc15 := rfl
theorem fn16 : E.fn 16 = some Try.f16 := Try.func16
theorem efc16 : E.fc 16 = fc16 := rfl
theorem fn17 : E.fn 17 = some Try.f17 := Try.func17
theorem efc17 : E.fc 17 = {} := rfl
theorem fn18 : E.fn 18 = some Try.f18 := Try.func18
theorem efc18 : E.fc 18 = fc18 := rfl
theorem fn19 : E.fn 19 = some Try.f19 := Try.func19
theorem efc19 : E.fc 19 = fc19 := rfl
theorem fn20 : E.fn 20 = some Try.f20 := Try.func20
theorem efc20 : E.fc 20 = {} := rfl
theorem fn21 : E.fn 21 = some Try.f21 := Try.func21
theorem efc21 : E.fc 21 = {} := rfl
theorem fn22 : E.fn 22 = some Try.f22 := Try.func22
theorem efc22 : E.fc 22 = fc22 := rfl
theorem fn23 : E.fn 23 = some Try.f23 := Try.func23
theorem efc23 : E.fc 23 = {} := rfl
theorem fn24 : E.fn 24 = some Try.f24 := Try.func24
theorem efc24 : E.fc 24 = fc24 := rfl
theorem fn25 : E.fn 25 = some Try.f25 := Try.func25
theorem efc25 : E.fc 25 = fc25 := rfl
theorem fn26 : E.fn 26 = some Try.f26 := Try.func26
theorem efc26 : E.fc 26 = {} := rfl
theorem fn27 : E.fn 27 = some Try.f27 := Try.func27
theorem efc27 : E.fc 27 = {} := rfl
theorem fn28 : E.fn 28 = some Try.f28 := Try.func28
theorem efc28 : E.fc 28 = {} := rfl
theorem fn30 : E.fn 30 = some Try.f30 := Try.func30
theorem efc30 : E.fc 30 = fc30 := rfl
theorem fn31 : E.fn 31 = some Try.f31 := Try.func31
theorem efc31 : E.fc 31 = fc31 := rfl
theorem fn32 : E.fn 32 = some Try.f32 := Try.func32
theorem efc32 : E.fc 32 = fc32 := rfl
theorem fn33 : E.fn 33 = some Try.f33 := Try.func33
theorem efc33 : E.fc 33 = {} := rfl
theorem fn34 : E.fn 34 = some Try.f34 := Try.func34
theorem efc34 : E.fc 34 = fc34 := rfl
theorem fn35 : E.fn 35 = some Try.f35 := Try.func35
theorem efc35 : E.fc 35 = fc35 := rfl
theorem fn36 : E.fn 36 = some Try.f36 := Try.func36
theorem efc36 : E.fc 36 = fc36 := rfl
theorem fn37 : E.fn 37 = some Try.f37 := Try.func37
theorem efc37 : E.fc 37 = {} := rfl
theorem fn38 : E.fn 38 = some Try.f38 := Try.func38
theorem efc38 : E.fc 38 = {} := rfl
theorem fn39 : E.fn 39 = some Try.f39 := Try.func39
theorem efc39 : E.fc 39 = fc39 := rfl
theorem fn40 : E.fn 40 = some Try.f40 := Try.func40
theorem efc40 : E.fc 40 = fc40 := rfl
theorem fn41 : E.fn 41 = some Try.f41 := Try.func41
theorem efc41 : E.fc 41 = fc41 := rfl
theorem fn42 : E.fn 42 = some Try.f42 := Try.func42
theorem efc42 : E.fc 42 = fc42 := rfl
theorem fn43 : E.fn 43 = some Try.f43 := Try.func43
theorem efc43 : E.fc 43 = fc43 := rfl
theorem fn44 : E.fn 44 = some Try.f44 := Try.func44
theorem efc44 : E.fc 44 = fc44 := rfl
theorem fn45 : E.fn 45 = some Try.f45 := Try.func45
theorem efc45 : E.fc 45 = fc45 := rfl
theorem fn46 : E.fn 46 = some Try.f46 := Try.func46
theorem efc46 : E.fc 46 = fc46 := rfl
theorem fn47 : E.fn 47 = some Try.f47 := Try.func47
theorem efc47 : E.fc 47 = {} := rfl
theorem fn48 : E.fn 48 = some Try.f48 := Try.func48
theorem efc48 : E.fc 48 = fc48 := rfl
theorem fn49 : E.fn 49 = some Try.f49 := Try.func49
theorem efc49 : E.fc 49 = {} := rfl
theorem fn50 : E.fn 50 = some Try.f50 := Try.func50
theorem efc50 : E.fc 50 = {} := rfl
theorem efr : (E.fc 7).frame = true ∧ (E.fc 7).fresh = false ∧ (E.fc 16).frame = false ∧ (E.fc 16).fresh = false ∧ (E.fc 18).frame = true ∧ (E.fc 18).fresh = false ∧ (E.fc 19).frame = true ∧ (E.fc 19).fresh = false ∧ (E.fc 32).frame = true ∧ (E.fc 32).fresh = false ∧ (E.fc 41).frame = true ∧ (E.fc 41).fresh = false := ⟨rfl, rfl, rfl, rfl, rfl, rfl, rfl, rfl, rfl, rfl, rfl, rfl⟩
end Go.AM.F

