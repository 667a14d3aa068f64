import Derived.Test.YtoiopiiljblpjaaDoorProg
import Derived.Test.YtoiopiiljblpjaaDoorGWBrev
set_option linter.unusedVariables false
set_option maxRecDepth 10000
namespace GW
open Go Go.RowKit Go.Proofs Go.Proofs.Tryd
def tbl_keccak_constants : List Int := [1, 32898, 9223372036854808714, 9223372039002292224, 32907, 2147483649, 9223372039002292353, 9223372036854808585, 138, 136, 2147516425, 2147483658, 2147516555, 9223372036854775947, 9223372036854808713, 9223372036854808579, 9223372036854808578, 9223372036854775936, 32778, 9223372039002259466, 9223372039002292353, 9223372036854808704, 2147483649, 9223372039002292232]
def tbl_keccak_places : List Int := [10, 7, 11, 17, 18, 3, 5, 16, 8, 21, 24, 4, 15, 23, 19, 13, 12, 2, 20, 14, 22, 9, 6, 1]
def tbl_keccak_turns : List Int := [1, 3, 6, 10, 15, 21, 28, 36, 45, 55, 2, 14, 27, 41, 56, 8, 25, 43, 62, 18, 39, 61, 20, 44]
def Glob (m : Mem) : Prop := FroAt m 0 [.ints .u64 tbl_keccak_constants 24] ∧ FroAt m 1 [.ints .i64 tbl_keccak_places 24] ∧ FroAt m 2 [.ints .i64 tbl_keccak_turns 24]
theorem Glob.mono {m m' : Mem} (h : Glob m) (hm : LeM m m') : Glob m' := ⟨(FroAt.mono hm h.1), (FroAt.mono hm h.2.1), (FroAt.mono hm h.2.2)⟩
abbrev L30 : Type := (List Int) × Int × Int × Int × Int × (List Int) × (List Int) × (List Int) × (List Int) × (List Int)
abbrev L68 : Type := (List Int) × (List (List Int)) × (List Int)
abbrev L39 : Type := (List Int) × Int × Bool × Int × (List Int) × (List Int) × (List L68) × (List Int)
abbrev Y68 : Ty L68 := (Ty.prod (Ty.arr .u8 20) (Ty.prod (Ty.slice (Ty.arr .u64 4)) (Ty.slice (Ty.int .u8))))
abbrev Y39 : Ty L39 := (Ty.prod (Ty.arr .u8 20) (Ty.prod (Ty.int .u64) (Ty.prod Ty.bool (Ty.prod (Ty.int .u64) (Ty.prod (Ty.arr .u64 4) (Ty.prod (Ty.arr .u8 20) (Ty.prod (Ty.slice Y68) (Ty.slice (Ty.int .u8)))))))))
theorem P30 : ∀ w : World, ((match Tryd.prog.underlying 30 with | some (.struct fs) => fs | _ => (#[] : Array Field)).mapM fun (f : Field) => (do pure (f.offset, ← Go.sizeOf f.type) : Sem (Nat × Nat))).run Tryd.prog w = .ok #[(0, 32), (32, 1), (33, 1), (34, 1), (35, 1), (36, 4), (40, 20), (60, 4), (64, 32), (96, 32)] w := fun _ => by kernel_rfl
theorem Z30 : zeroI Tryd.prog 30 = some (D.val (.agg [.b32 z32, .w 0, .w 0, .w 0, .w 0, .w4 [0, 0, 0, 0], .b20 z20, .w4 [0, 0, 0, 0], .b32 z32, .b32 z32])) := by kernel_rfl
theorem T30 : tyI Tryd.prog 30 = some (true, 128) := by kernel_rfl
theorem Z23 : zeroI Tryd.prog 23 = some (D.val (.a32 z32)) := by kernel_rfl
theorem I30_0 : fieldI Tryd.prog 30 0 = some (0, 23) := by kernel_rfl
theorem T23 : tyI Tryd.prog 23 = some (true, 32) := by kernel_rfl
theorem T5 : tyI Tryd.prog 5 = some (false, 1) := by kernel_rfl
theorem I30_1 : fieldI Tryd.prog 30 1 = some (32, 24) := by kernel_rfl
theorem T24 : tyI Tryd.prog 24 = some (false, 1) := by kernel_rfl
theorem I30_2 : fieldI Tryd.prog 30 2 = some (33, 24) := by kernel_rfl
theorem I30_3 : fieldI Tryd.prog 30 3 = some (34, 24) := by kernel_rfl
theorem I30_4 : fieldI Tryd.prog 30 4 = some (35, 24) := by kernel_rfl
theorem I30_5 : fieldI Tryd.prog 30 5 = some (36, 26) := by kernel_rfl
theorem T26 : tyI Tryd.prog 26 = some (true, 4) := by kernel_rfl
theorem I30_6 : fieldI Tryd.prog 30 6 = some (40, 28) := by kernel_rfl
theorem T28 : tyI Tryd.prog 28 = some (true, 20) := by kernel_rfl
theorem I30_7 : fieldI Tryd.prog 30 7 = some (60, 26) := by kernel_rfl
theorem I30_8 : fieldI Tryd.prog 30 8 = some (64, 23) := by kernel_rfl
theorem I30_9 : fieldI Tryd.prog 30 9 = some (96, 23) := by kernel_rfl
theorem Z54 : zeroI Tryd.prog 54 = some (D.val (.agg [.b false, .s none 0 0, .i 0])) := by kernel_rfl
theorem P54 : ∀ w : World, ((match Tryd.prog.underlying 54 with | some (.struct fs) => fs | _ => (#[] : Array Field)).mapM fun (f : Field) => (do pure (f.offset, ← Go.sizeOf f.type) : Sem (Nat × Nat))).run Tryd.prog w = .ok #[(0, 1), (1, 1), (2, 1)] w := fun _ => by kernel_rfl
theorem T54 : tyI Tryd.prog 54 = some (true, 3) := by kernel_rfl
theorem N23 : Fn_ Tryd.prog 23 := ⟨_, func23, rfl, by decide⟩
theorem Z26 : zeroI Tryd.prog 26 = some (D.val (.a4 [0, 0, 0, 0])) := by kernel_rfl
theorem N43 : Fn_ Tryd.prog 43 := ⟨_, func43, rfl, by decide⟩
theorem Z22 : zeroI Tryd.prog 22 = some (D.val (.a32 z32)) := by kernel_rfl
theorem T22 : tyI Tryd.prog 22 = some (true, 32) := by kernel_rfl
theorem N45 : Fn_ Tryd.prog 45 := ⟨_, func45, rfl, by decide⟩
theorem J5 : appI Tryd.prog 5 = some (1, 1) := by kernel_rfl
theorem Z5 : zeroI Tryd.prog 5 = some (D.val (.v (.int .u8 0))) := by kernel_rfl
def txt0 : ByteArray := ByteArray.mk #[0, 1, 2, 2, 3, 3, 3, 3, 4, 4, 4, 4, 4, 4, 4, 4, 5, 5, 5, 5, 5, 5, 5, 5, 5, 5, 5, 5, 5, 5, 5, 5, 6, 6, 6, 6, 6, 6, 6, 6, 6, 6, 6, 6, 6, 6, 6, 6, 6, 6, 6, 6, 6, 6, 6, 6, 6, 6, 6, 6, 6, 6, 6, 6, 7, 7, 7, 7, 7, 7, 7, 7, 7, 7, 7, 7, 7, 7, 7, 7, 7, 7, 7, 7, 7, 7, 7, 7, 7, 7, 7, 7, 7, 7, 7, 7, 7, 7, 7, 7, 7, 7, 7, 7, 7, 7, 7, 7, 7, 7, 7, 7, 7, 7, 7, 7, 7, 7, 7, 7, 7, 7, 7, 7, 7, 7, 7, 7, 8, 8, 8, 8, 8, 8, 8, 8, 8, 8, 8, 8, 8, 8, 8, 8, 8, 8, 8, 8, 8, 8, 8, 8, 8, 8, 8, 8, 8, 8, 8, 8, 8, 8, 8, 8, 8, 8, 8, 8, 8, 8, 8, 8, 8, 8, 8, 8, 8, 8, 8, 8, 8, 8, 8, 8, 8, 8, 8, 8, 8, 8, 8, 8, 8, 8, 8, 8, 8, 8, 8, 8, 8, 8, 8, 8, 8, 8, 8, 8, 8, 8, 8, 8, 8, 8, 8, 8, 8, 8, 8, 8, 8, 8, 8, 8, 8, 8, 8, 8, 8, 8, 8, 8, 8, 8, 8, 8, 8, 8, 8, 8, 8, 8, 8, 8, 8, 8, 8, 8, 8, 8, 8, 8, 8, 8, 8, 8]
theorem N93 : Fn_ Tryd.prog 93 := ⟨_, func93, rfl, by decide⟩
theorem N86 : Fn_ Tryd.prog 86 := ⟨_, func86, rfl, by decide⟩
theorem N70 : Fn_ Tryd.prog 70 := ⟨_, func70, rfl, by decide⟩
theorem N44 : Fn_ Tryd.prog 44 := ⟨_, func44, rfl, by decide⟩
theorem N25 : Fn_ Tryd.prog 25 := ⟨_, func25, rfl, by decide⟩
theorem N24 : Fn_ Tryd.prog 24 := ⟨_, func24, rfl, by decide⟩
theorem N26 : Fn_ Tryd.prog 26 := ⟨_, func26, rfl, by decide⟩
abbrev Y54 : Ty (Bool × (List Int) × Int) := (Ty.prod Ty.bool (Ty.prod (Ty.slice (Ty.int .u8)) (Ty.int .i64)))
theorem J54 : appI Tryd.prog 54 = some (3, 40) := by kernel_rfl
theorem J51 : appI Tryd.prog 51 = some (1, 24) := by kernel_rfl
theorem Z51 : zeroI Tryd.prog 51 = some (D.val (.s none 0 0)) := by kernel_rfl
theorem T51 : tyI Tryd.prog 51 = some (false, 1) := by kernel_rfl
theorem I54_2 : fieldI Tryd.prog 54 2 = some (2, 3) := by kernel_rfl
theorem T3 : tyI Tryd.prog 3 = some (false, 1) := by kernel_rfl
theorem N22 : Fn_ Tryd.prog 22 := ⟨_, func22, rfl, by decide⟩
theorem I54_0 : fieldI Tryd.prog 54 0 = some (0, 4) := by kernel_rfl
theorem T4 : tyI Tryd.prog 4 = some (false, 1) := by kernel_rfl
theorem I54_1 : fieldI Tryd.prog 54 1 = some (1, 37) := by kernel_rfl
theorem T37 : tyI Tryd.prog 37 = some (false, 1) := by kernel_rfl
theorem J3 : appI Tryd.prog 3 = some (1, 8) := by kernel_rfl
theorem Z3 : zeroI Tryd.prog 3 = some (D.val (.i 0)) := by kernel_rfl
theorem N67 : Fn_ Tryd.prog 67 := ⟨_, func67, rfl, by decide⟩
theorem P98 : ∀ w : World, ((match Tryd.prog.underlying 98 with | some (.struct fs) => fs | _ => (#[] : Array Field)).mapM fun (f : Field) => (do pure (f.offset, ← Go.sizeOf f.type) : Sem (Nat × Nat))).run Tryd.prog w = .ok #[(0, 1), (1, 1)] w := fun _ => by kernel_rfl
theorem Z98 : zeroI Tryd.prog 98 = some (D.val (.agg [.s none 0 0, .i 0])) := by kernel_rfl
theorem I98_1 : fieldI Tryd.prog 98 1 = some (1, 73) := by kernel_rfl
theorem T73 : tyI Tryd.prog 73 = some (false, 1) := by kernel_rfl
theorem I98_0 : fieldI Tryd.prog 98 0 = some (0, 51) := by kernel_rfl
theorem N83 : Fn_ Tryd.prog 83 := ⟨_, func83, rfl, by decide⟩
theorem N84 : Fn_ Tryd.prog 84 := ⟨_, func84, rfl, by decide⟩
theorem N68 : Fn_ Tryd.prog 68 := ⟨_, func68, rfl, by decide⟩
theorem N41 : Fn_ Tryd.prog 41 := ⟨_, func41, rfl, by decide⟩
theorem Z100 : zeroI Tryd.prog 100 = some (D.val (.agg [.ints .u64 z25 25])) := by kernel_rfl
theorem T100 : tyI Tryd.prog 100 = some (true, 25) := by kernel_rfl
theorem T118 : tyI Tryd.prog 118 = some (true, 24) := by kernel_rfl
theorem Z128 : zeroI Tryd.prog 128 = some (D.val (.agg [.ints .u64 [0, 0, 0, 0, 0] 5])) := by kernel_rfl
theorem N96 : Fn_ Tryd.prog 96 := ⟨_, func96, rfl, by decide⟩
theorem T131 : tyI Tryd.prog 131 = some (true, 24) := by kernel_rfl
theorem T128 : tyI Tryd.prog 128 = some (true, 5) := by kernel_rfl
theorem N92 : Fn_ Tryd.prog 92 := ⟨_, func92, rfl, by decide⟩
theorem N85 : Fn_ Tryd.prog 85 := ⟨_, func85, rfl, by decide⟩
theorem N69 : Fn_ Tryd.prog 69 := ⟨_, func69, rfl, by decide⟩
theorem Z102 : zeroI Tryd.prog 102 = some (D.val (.agg [.ints .u8 (List.replicate 136 0) 136])) := by kernel_rfl
theorem N42 : Fn_ Tryd.prog 42 := ⟨_, func42, rfl, by decide⟩
theorem N21 : Fn_ Tryd.prog 21 := ⟨_, func21, rfl, by decide⟩
theorem N7 : Fn_ Tryd.prog 7 := ⟨_, func7, rfl, by decide⟩
theorem Z121 : zeroI Tryd.prog 121 = some (D.val (.agg [.ints .u64 z8 8])) := by kernel_rfl
theorem N89 : Fn_ Tryd.prog 89 := ⟨_, func89, rfl, by decide⟩
theorem X75 : isExt Tryd.prog 75 add64Entry := ⟨_, func75, by kernel_rfl, by kernel_rfl, by kernel_rfl, by kernel_rfl⟩
theorem N72 : Fn_ Tryd.prog 72 := ⟨_, func72, rfl, by decide⟩
theorem Q26 : Tryd.prog.eqGuardType Tryd.prog.depth 26 = false := by kernel_rfl
theorem N53 : Fn_ Tryd.prog 53 := ⟨_, func53, rfl, by decide⟩
theorem N76 : Fn_ Tryd.prog 76 := ⟨_, func76, rfl, by decide⟩
theorem N56 : Fn_ Tryd.prog 56 := ⟨_, func56, rfl, by decide⟩
theorem N95 : Fn_ Tryd.prog 95 := ⟨_, func95, rfl, by decide⟩
theorem N90 : Fn_ Tryd.prog 90 := ⟨_, func90, rfl, by decide⟩
theorem N91 : Fn_ Tryd.prog 91 := ⟨_, func91, rfl, by decide⟩
theorem X74 : isExt Tryd.prog 74 subEntry := ⟨_, func74, by kernel_rfl, by kernel_rfl, by kernel_rfl, by kernel_rfl⟩
theorem N54 : Fn_ Tryd.prog 54 := ⟨_, func54, rfl, by decide⟩
theorem N73 : Fn_ Tryd.prog 73 := ⟨_, func73, rfl, by decide⟩
theorem N52 : Fn_ Tryd.prog 52 := ⟨_, func52, rfl, by decide⟩
theorem N55 : Fn_ Tryd.prog 55 := ⟨_, func55, rfl, by decide⟩
theorem N36 : Fn_ Tryd.prog 36 := ⟨_, func36, rfl, by decide⟩
theorem N57 : Fn_ Tryd.prog 57 := ⟨_, func57, rfl, by decide⟩
theorem N37 : Fn_ Tryd.prog 37 := ⟨_, func37, rfl, by decide⟩
theorem N34 : Fn_ Tryd.prog 34 := ⟨_, func34, rfl, by decide⟩
theorem N33 : Fn_ Tryd.prog 33 := ⟨_, func33, rfl, by decide⟩
theorem N9 : Fn_ Tryd.prog 9 := ⟨_, func9, rfl, by decide⟩
theorem N14 : Fn_ Tryd.prog 14 := ⟨_, func14, rfl, by decide⟩
theorem N6 : Fn_ Tryd.prog 6 := ⟨_, func6, rfl, by decide⟩
theorem T39 : tyI Tryd.prog 39 = some (true, 49) := by kernel_rfl
theorem Z39 : zeroI Tryd.prog 39 = some (D.val (.agg [.b20 z20, .w 0, .b false, .w 0, .w4 [0, 0, 0, 0], .b20 z20, .s none 0 0, .s none 0 0])) := by kernel_rfl
theorem I39_7 : fieldI Tryd.prog 39 7 = some (48, 37) := by kernel_rfl
theorem I39_6 : fieldI Tryd.prog 39 6 = some (47, 36) := by kernel_rfl
theorem T36 : tyI Tryd.prog 36 = some (false, 1) := by kernel_rfl
theorem T68 : tyI Tryd.prog 68 = some (true, 22) := by kernel_rfl
theorem I68_1 : fieldI Tryd.prog 68 1 = some (20, 66) := by kernel_rfl
theorem T66 : tyI Tryd.prog 66 = some (false, 1) := by kernel_rfl
theorem I68_2 : fieldI Tryd.prog 68 2 = some (21, 37) := by kernel_rfl
theorem N11 : Fn_ Tryd.prog 11 := ⟨_, func11, rfl, by decide⟩
theorem Z45 : zeroI Tryd.prog 45 = some (D.val (.agg [.w 0, .w 0, .w 0, .b20 z20, .w4 [0, 0, 0, 0], .w4 [0, 0, 0, 0], .w 0, .s none 0 0])) := by kernel_rfl
theorem J23 : appI Tryd.prog 23 = some (32, 32) := by kernel_rfl
theorem N38 : Fn_ Tryd.prog 38 := ⟨_, func38, rfl, by decide⟩
theorem P45 : ∀ w : World, ((match Tryd.prog.underlying 45 with | some (.struct fs) => fs | _ => (#[] : Array Field)).mapM fun (f : Field) => (do pure (f.offset, ← Go.sizeOf f.type) : Sem (Nat × Nat))).run Tryd.prog w = .ok #[(0, 1), (1, 1), (2, 1), (3, 20), (23, 4), (27, 4), (31, 1), (32, 1)] w := fun _ => by kernel_rfl
theorem T45 : tyI Tryd.prog 45 = some (true, 33) := by kernel_rfl
theorem N15 : Fn_ Tryd.prog 15 := ⟨_, func15, rfl, by decide⟩
theorem I45_0 : fieldI Tryd.prog 45 0 = some (0, 24) := by kernel_rfl
theorem I45_1 : fieldI Tryd.prog 45 1 = some (1, 24) := by kernel_rfl
theorem I45_2 : fieldI Tryd.prog 45 2 = some (2, 24) := by kernel_rfl
theorem I45_3 : fieldI Tryd.prog 45 3 = some (3, 28) := by kernel_rfl
theorem Q28 : Tryd.prog.eqGuardType Tryd.prog.depth 28 = false := by kernel_rfl
theorem I45_4 : fieldI Tryd.prog 45 4 = some (23, 26) := by kernel_rfl
theorem I45_5 : fieldI Tryd.prog 45 5 = some (27, 26) := by kernel_rfl
theorem I45_6 : fieldI Tryd.prog 45 6 = some (31, 24) := by kernel_rfl
theorem I45_7 : fieldI Tryd.prog 45 7 = some (32, 31) := by kernel_rfl
theorem T31 : tyI Tryd.prog 31 = some (false, 1) := by kernel_rfl
theorem Q23 : Tryd.prog.eqGuardType Tryd.prog.depth 23 = false := by kernel_rfl
theorem J37 : appI Tryd.prog 37 = some (1, 24) := by kernel_rfl
theorem Z37 : zeroI Tryd.prog 37 = some (D.val (.s none 0 0)) := by kernel_rfl
theorem Z81 : zeroI Tryd.prog 81 = some (D.val (.agg [.ints .i64 z32 32])) := by kernel_rfl
theorem T81 : tyI Tryd.prog 81 = some (true, 32) := by kernel_rfl
theorem N49 : Fn_ Tryd.prog 49 := ⟨_, func49, rfl, by decide⟩
theorem N50 : Fn_ Tryd.prog 50 := ⟨_, func50, rfl, by decide⟩
theorem N48 : Fn_ Tryd.prog 48 := ⟨_, func48, rfl, by decide⟩
theorem N47 : Fn_ Tryd.prog 47 := ⟨_, func47, rfl, by decide⟩
theorem N29 : Fn_ Tryd.prog 29 := ⟨_, func29, rfl, by decide⟩
theorem N28 : Fn_ Tryd.prog 28 := ⟨_, func28, rfl, by decide⟩
theorem Z118 : zeroI Tryd.prog 118 = some (D.val (.agg [.ints .u64 z24 24])) := by kernel_rfl
theorem N87 : Fn_ Tryd.prog 87 := ⟨_, func87, rfl, by decide⟩
theorem N94 : Fn_ Tryd.prog 94 := ⟨_, func94, rfl, by decide⟩
theorem N88 : Fn_ Tryd.prog 88 := ⟨_, func88, rfl, by decide⟩
theorem N71 : Fn_ Tryd.prog 71 := ⟨_, func71, rfl, by decide⟩
theorem N46 : Fn_ Tryd.prog 46 := ⟨_, func46, rfl, by decide⟩
theorem N27 : Fn_ Tryd.prog 27 := ⟨_, func27, rfl, by decide⟩
theorem N10 : Fn_ Tryd.prog 10 := ⟨_, func10, rfl, by decide⟩
theorem N31 : Fn_ Tryd.prog 31 := ⟨_, func31, rfl, by decide⟩
theorem N30 : Fn_ Tryd.prog 30 := ⟨_, func30, rfl, by decide⟩
theorem N32 : Fn_ Tryd.prog 32 := ⟨_, func32, rfl, by decide⟩
theorem N8 : Fn_ Tryd.prog 8 := ⟨_, func8, rfl, by decide⟩
theorem N58 : Fn_ Tryd.prog 58 := ⟨_, func58, rfl, by decide⟩
theorem N79 : Fn_ Tryd.prog 79 := ⟨_, func79, rfl, by decide⟩
theorem N77 : Fn_ Tryd.prog 77 := ⟨_, func77, rfl, by decide⟩
theorem N80 : Fn_ Tryd.prog 80 := ⟨_, func80, rfl, by decide⟩
theorem N60 : Fn_ Tryd.prog 60 := ⟨_, func60, rfl, by decide⟩
theorem N61 : Fn_ Tryd.prog 61 := ⟨_, func61, rfl, by decide⟩
theorem N78 : Fn_ Tryd.prog 78 := ⟨_, func78, rfl, by decide⟩
theorem N81 : Fn_ Tryd.prog 81 := ⟨_, func81, rfl, by decide⟩
theorem N82 : Fn_ Tryd.prog 82 := ⟨_, func82, rfl, by decide⟩
theorem N66 : Fn_ Tryd.prog 66 := ⟨_, func66, rfl, by decide⟩
theorem N62 : Fn_ Tryd.prog 62 := ⟨_, func62, rfl, by decide⟩
theorem N63 : Fn_ Tryd.prog 63 := ⟨_, func63, rfl, by decide⟩
theorem N59 : Fn_ Tryd.prog 59 := ⟨_, func59, rfl, by decide⟩
theorem N64 : Fn_ Tryd.prog 64 := ⟨_, func64, rfl, by decide⟩
theorem N39 : Fn_ Tryd.prog 39 := ⟨_, func39, rfl, by decide⟩
theorem N65 : Fn_ Tryd.prog 65 := ⟨_, func65, rfl, by decide⟩
theorem N40 : Fn_ Tryd.prog 40 := ⟨_, func40, rfl, by decide⟩
theorem N16 : Fn_ Tryd.prog 16 := ⟨_, func16, rfl, by decide⟩
abbrev Y30 : Ty L30 := (Ty.prod (Ty.arr .u8 32) (Ty.prod (Ty.int .u64) (Ty.prod (Ty.int .u64) (Ty.prod (Ty.int .u64) (Ty.prod (Ty.int .u64) (Ty.prod (Ty.arr .u64 4) (Ty.prod (Ty.arr .u8 20) (Ty.prod (Ty.arr .u64 4) (Ty.prod (Ty.arr .u8 32) (Ty.arr .u8 32))))))))))
theorem E23 : EqTy Tryd.prog 23 true (Ty.arr .u8 32) 3 := eqTy_arr underlying23 underlying5 T5 T23
theorem E24 : EqTy Tryd.prog 24 false (Ty.int .u64) 1 := eqTy_int underlying24 T24
theorem E26 : EqTy Tryd.prog 26 true (Ty.arr .u64 4) 3 := eqTy_arr underlying26 underlying24 T24 T26
theorem E28 : EqTy Tryd.prog 28 true (Ty.arr .u8 20) 3 := eqTy_arr underlying28 underlying5 T5 T28
instance E30_dq8 : DecidableEq ((List Int) × (List Int)) := instDecidableEqProd
instance E30_dq7 : DecidableEq ((List Int) × (List Int) × (List Int)) := instDecidableEqProd
instance E30_dq6 : DecidableEq ((List Int) × (List Int) × (List Int) × (List Int)) := instDecidableEqProd
instance E30_dq5 : DecidableEq ((List Int) × (List Int) × (List Int) × (List Int) × (List Int)) := instDecidableEqProd
instance E30_dq4 : DecidableEq (Int × (List Int) × (List Int) × (List Int) × (List Int) × (List Int)) := instDecidableEqProd
instance E30_dq3 : DecidableEq (Int × Int × (List Int) × (List Int) × (List Int) × (List Int) × (List Int)) := instDecidableEqProd
instance E30_dq2 : DecidableEq (Int × Int × Int × (List Int) × (List Int) × (List Int) × (List Int) × (List Int)) := instDecidableEqProd
instance E30_dq1 : DecidableEq (Int × Int × Int × Int × (List Int) × (List Int) × (List Int) × (List Int) × (List Int)) := instDecidableEqProd
instance E30_dq0 : DecidableEq ((List Int) × Int × Int × Int × Int × (List Int) × (List Int) × (List Int) × (List Int) × (List Int)) := instDecidableEqProd
theorem E30 : EqTy Tryd.prog 30 true Y30 4 := eqTy_struct (fs := [("Parent", 0, 23), ("Number", 32, 24), ("Time", 33, 24), ("GasLimit", 34, 24), ("Used", 35, 24), ("BaseFee", 36, 26), ("Coinbase", 40, 28), ("Random", 60, 26), ("Txs", 64, 23), ("Receipts", 96, 23)]) (by kernel_rfl) (by kernel_rfl) T30 (by kernel_rfl) (eqF_cons (nm := "Parent") (E23.mono (by decide : 3 ≤ 3)) (by decide) noints_agg (fun h => by cases h) rfl (eqF_cons (nm := "Number") (E24.mono (by decide : 1 ≤ 3)) (by decide) noints_int (fun _ => rfl) rfl (eqF_cons (nm := "Time") (E24.mono (by decide : 1 ≤ 3)) (by decide) noints_int (fun _ => rfl) rfl (eqF_cons (nm := "GasLimit") (E24.mono (by decide : 1 ≤ 3)) (by decide) noints_int (fun _ => rfl) rfl (eqF_cons (nm := "Used") (E24.mono (by decide : 1 ≤ 3)) (by decide) noints_int (fun _ => rfl) rfl (eqF_cons (nm := "BaseFee") (E26.mono (by decide : 3 ≤ 3)) (by decide) noints_agg (fun h => by cases h) rfl (eqF_cons (nm := "Coinbase") (E28.mono (by decide : 3 ≤ 3)) (by decide) noints_agg (fun h => by cases h) rfl (eqF_cons (nm := "Random") (E26.mono (by decide : 3 ≤ 3)) (by decide) noints_agg (fun h => by cases h) rfl (eqF_cons (nm := "Txs") (E23.mono (by decide : 3 ≤ 3)) (by decide) noints_agg (fun h => by cases h) rfl (eqF_one (nm := "Receipts") (E23.mono (by decide : 3 ≤ 3)) (by decide) noints_agg (fun h => by cases h)))))))))))
theorem Q30 : Tryd.prog.eqGuardType Tryd.prog.depth 30 = false := by kernel_rfl
theorem N17 : Fn_ Tryd.prog 17 := ⟨_, func17, rfl, by decide⟩
theorem N18 : Fn_ Tryd.prog 18 := ⟨_, func18, rfl, by decide⟩
theorem I39_3 : fieldI Tryd.prog 39 3 = some (22, 24) := by kernel_rfl
theorem I39_2 : fieldI Tryd.prog 39 2 = some (21, 4) := by kernel_rfl
theorem I39_0 : fieldI Tryd.prog 39 0 = some (0, 28) := by kernel_rfl
theorem I39_1 : fieldI Tryd.prog 39 1 = some (20, 24) := by kernel_rfl
theorem I39_4 : fieldI Tryd.prog 39 4 = some (23, 26) := by kernel_rfl
theorem I39_5 : fieldI Tryd.prog 39 5 = some (27, 28) := by kernel_rfl
theorem Z68 : zeroI Tryd.prog 68 = some (D.val (.agg [.b20 z20, .s none 0 0, .s none 0 0])) := by kernel_rfl
theorem I68_0 : fieldI Tryd.prog 68 0 = some (0, 28) := by kernel_rfl
theorem N51 : Fn_ Tryd.prog 51 := ⟨_, func51, rfl, by decide⟩
theorem N35 : Fn_ Tryd.prog 35 := ⟨_, func35, rfl, by decide⟩
theorem N13 : Fn_ Tryd.prog 13 := ⟨_, func13, rfl, by decide⟩
theorem N19 : Fn_ Tryd.prog 19 := ⟨_, func19, rfl, by decide⟩
theorem N12 : Fn_ Tryd.prog 12 := ⟨_, func12, rfl, by decide⟩
theorem N20 : Fn_ Tryd.prog 20 := ⟨_, func20, rfl, by decide⟩
def Gd23 : (List Int) → Prop := fun xs => xs.length = 32 ∧ ∀ y ∈ xs, inK .u8 y
def Gd24 : Int → Prop := fun x => inK .u64 x
def Gd26 : (List Int) → Prop := fun xs => xs.length = 4 ∧ ∀ y ∈ xs, inK .u64 y
def Gd28 : (List Int) → Prop := fun xs => xs.length = 20 ∧ ∀ y ∈ xs, inK .u8 y
def Gd30 : L30 → Prop := fun y => Gd23 y.1 ∧ (Gd24 y.2.1 ∧ (Gd24 y.2.2.1 ∧ (Gd24 y.2.2.2.1 ∧ (Gd24 y.2.2.2.2.1 ∧ (Gd26 y.2.2.2.2.2.1 ∧ (Gd28 y.2.2.2.2.2.2.1 ∧ (Gd26 y.2.2.2.2.2.2.2.1 ∧ (Gd23 y.2.2.2.2.2.2.2.2.1 ∧ (Gd23 y.2.2.2.2.2.2.2.2.2)))))))))
def Gd4 : Bool → Prop := fun _ => True
def Gd66 : (List (List Int)) → Prop := fun xs => (∀ y ∈ xs, Gd26 y) ∧ xs.length ≤ maxLen
def Gd5 : Int → Prop := fun x => inK .u8 x
def Gd37 : (List Int) → Prop := fun xs => (∀ y ∈ xs, Gd5 y) ∧ xs.length ≤ maxLen
def Gd68 : L68 → Prop := fun y => Gd28 y.1 ∧ (Gd66 y.2.1 ∧ (Gd37 y.2.2))
def Gd36 : (List L68) → Prop := fun xs => (∀ y ∈ xs, Gd68 y) ∧ xs.length ≤ maxLen
def Gd39 : L39 → Prop := fun y => Gd28 y.1 ∧ (Gd24 y.2.1 ∧ (Gd4 y.2.2.1 ∧ (Gd24 y.2.2.2.1 ∧ (Gd26 y.2.2.2.2.1 ∧ (Gd28 y.2.2.2.2.2.1 ∧ (Gd36 y.2.2.2.2.2.2.1 ∧ (Gd37 y.2.2.2.2.2.2.2)))))))
def Gd42 : (List L39) → Prop := fun xs => (∀ y ∈ xs, Gd39 y) ∧ xs.length ≤ maxLen
def Gd31 : (List (List Int)) → Prop := fun xs => (∀ y ∈ xs, Gd23 y) ∧ xs.length ≤ maxLen
abbrev block_item.Ty : Type := (List Int) → Option ((Bool × (List Int) × Int))
def block_item.Ctr (s : block_item.Ty) : Prop := ∀ (x1 : List Int) (ch_0_0 : Option Addr) (ch_0_1 : Nat) (r : (Bool × (List Int) × Int)), Ct (C := ((Option Addr) × Nat)) Tryd.prog 23 (s x1 = some r) [] [(.q yb ch_0_0 ch_0_1 x1)] (fun ch => (.agg [.b r.1, .q yb ch.1 ch.2 r.2.1, .i r.2.2])) fun _ => []
def block_item.f (x1 : List Int) : Option ((Bool × (List Int) × Int)) := some (false, x1, 0)
theorem block_item.ok : block_item.Ctr (block_item.f) := by
 intro x1 ch_0_0 ch_0_1 r h0 mi w0 ok hm
 delta block_item.f at h0
 refine c_enterZ (n := 5) ok hm func23 rfl rfl rfl fun b0 hb a S => c_region (s_alloc S Z54 rfl ⟨rfl, rfl, rfl, trivial⟩ rfl fun g1 a w S => c_end (c_region (s_move S rfl rfl fun a S => s_bldS S (ds := [(1, (.q yb ch_0_0 ch_0_1 x1))]) (zs := [.b false, .s none 0 0, .i 0]) (s' := [.b false, .q yb ch_0_0 ch_0_1 x1, .i 0]) rfl underlying54 P54 Z54 ⟨rfl, rfl, rfl, trivial⟩ rfl rfl fun a S => s_store S rfl rfl rfl (s' := [.b false, .q yb ch_0_0 ch_0_1 x1, .i 0]) .h T54 rfl rfl fun w S => c_end (wp_ret ?_))))
 obtain rfl := Option.some.inj h0
 exact b_ret1 (d := (.agg [.b false, .q yb ch_0_0 ch_0_1 x1, .i 0])) S rfl (resD_cell rfl .h T54 rfl rfl) fun ok => S.retX (Hx := []) hb _ _ ((ch_0_0, ch_0_1) : (Option Addr) × Nat) .nil ok
abbrev word_Of.Ty : Type := Int → Option ((List Int))
def word_Of.Ctr (s : word_Of.Ty) : Prop := ∀ (x1 : Int) (r : (List Int)), Ct (C := Unit) Tryd.prog 43 (s x1 = some r) [] [(.w x1)] (fun _ => (.a4 r)) fun _ => []
def word_Of.f (x1 : Int) : Option ((List Int)) := some [x1, 0, 0, 0]
theorem word_Of.ok : word_Of.Ctr (word_Of.f) := by
 intro x1 r h0 mi w0 ok hm
 delta word_Of.f at h0
 refine c_enterZ (n := 5) ok hm func43 rfl rfl rfl fun b0 hb a S => c_region (s_alloc S Z26 rfl ⟨rfl, trivial⟩ rfl fun g1 a w S => c_end (c_region (s_move S rfl rfl fun a S => s_build S (ds := [(0, (.w x1))]) (dv := (.a4 [x1, 0, 0, 0])) rfl (fun _ => by kernel_rfl) ⟨rfl, trivial⟩ rfl fun a S => s_store S rfl rfl rfl (s' := [.w4 [x1, 0, 0, 0]]) .h T26 rfl rfl fun w S => c_end (wp_ret ?_))))
 obtain rfl := Option.some.inj h0
 exact b_ret1 (d := (.a4 [x1, 0, 0, 0])) S rfl (resD_cell rfl .h T26 rfl rfl) (S.rt hb)
abbrev word_Bytes.Ty : Type := (List Int) → Option ((List Int))
def word_Bytes.Ctr (s : word_Bytes.Ty) : Prop := ∀ (x1 : List Int) (r : (List Int)), Ct (C := Unit) Tryd.prog 45 (s x1 = some r) [] [(.a4 x1)] (fun _ => (.a32 r)) fun _ => []
def word_Bytes.j1 (y1 : List Int) : Option ((List Int)) := some y1
def word_Bytes.j2 (y14 : Int) (rec1 : Int → (List Int) → Option ((List Int))) (y20 : List Int) : Option ((List Int)) := rec1 (wr .i64 (y14 + 1)) y20
def word_Bytes.b2 (x1 : List Int) (y14 : Int) (rec1 : Int → (List Int) → Option ((List Int))) (rec2 : Int → (List Int) → Option ((List Int))) (y23 : Int) (y24 : List Int) : Option ((List Int)) := if (decide (y23 < 8)) = true then (if (0 : Int) ≤ (wr .i64 (8 * y23)) then (if (0 : Int) ≤ (wr .i64 ((wr .i64 (31 - (wr .i64 (8 * y14)))) - y23)) ∧ (wr .i64 ((wr .i64 (31 - (wr .i64 (8 * y14)))) - y23)) < 32 then (rec2 (wr .i64 (y23 + 1)) (y24.set (Int.toNat (wr .i64 ((wr .i64 (31 - (wr .i64 (8 * y14)))) - y23))) (wr .u8 (shr (rd x1 y14) (min (Int.toNat (wr .i64 (8 * y23))) 64))))) else none) else none) else (word_Bytes.j2 y14 rec1 y24)
def word_Bytes.l2 (x1 : List Int) (y14 : Int) (rec1 : Int → (List Int) → Option ((List Int))) : Nat → Int → (List Int) → Option ((List Int))
  | 0, _, _ => none
  | q + 1, y23, y24 => word_Bytes.b2 x1 y14 rec1 (word_Bytes.l2 x1 y14 rec1 q) y23 y24
def word_Bytes.b1 (k : Nat) (x1 : List Int) (rec1 : Int → (List Int) → Option ((List Int))) (y14 : Int) (y15 : List Int) : Option ((List Int)) := if (decide (y14 < 4)) = true then (if (0 : Int) ≤ y14 ∧ y14 < 4 then (word_Bytes.l2 x1 y14 rec1 k 0 y15) else none) else (word_Bytes.j1 y15)
def word_Bytes.l1 (k : Nat) (x1 : List Int) : Nat → Int → (List Int) → Option ((List Int))
  | 0, _, _ => none
  | q + 1, y14, y15 => word_Bytes.b1 k x1 (word_Bytes.l1 k x1 q) y14 y15
def word_Bytes.f (k : Nat) (x1 : List Int) : Option ((List Int)) := word_Bytes.l1 k x1 k 0 [0, 0, 0, 0, 0, 0, 0, 0, 0, 0, 0, 0, 0, 0, 0, 0, 0, 0, 0, 0, 0, 0, 0, 0, 0, 0, 0, 0, 0, 0, 0, 0]
theorem word_Bytes.ok (k : Nat) : word_Bytes.Ctr (word_Bytes.f k) := by
 intro x1 r h0 mi w0 ok hm
 delta word_Bytes.f at h0
 refine c_enterZ (n := 29) ok hm func45 rfl rfl rfl fun b0 hb a S => c_region (s_box S rfl rfl rfl fun g1 a w S => s_alloc S Z22 rfl ⟨rfl, trivial⟩ rfl fun g2 a w S => c_end (c_region (s_alloc S Z22 rfl ⟨rfl, trivial⟩ rfl fun g3 a w S => c_end (wp_seq_k fun K1 hK1 => ?_))))
 have j1 : ∀ m g26 g27 y1 a w, St 29 m b0 [(3, (.p g26)), (2, (.p g27))] [Res.cells g26 22 [.b32 y1], Res.cells g27 22 [.b32 z32]] a w → word_Bytes.j1 y1 = some r → K1 a w := by
  intro m g26 g27 y1 a w S h0
  delta word_Bytes.j1 at h0
  refine hK1 a w (c_region (s_loada S rfl .h T22 (s' := [.b32 y1]) rfl rfl fun a S => s_store S rfl rfl rfl (s' := [.b32 y1]) .h1 T22 rfl rfl fun w S => c_end (wp_ret ?_)))
  obtain rfl := Option.some.inj h0
  exact b_ret1 (d := (.a32 y1)) S rfl (resD_cell rfl .h1 T22 rfl rfl) (S.rt hb)
 refine c_region (s_loada S rfl .h2 T26 (s' := [.w4 x1]) rfl rfl fun a S => s_move S rfl rfl fun a S => c_end (wp_block ?_))
 refine c_loop (fun q1 a w => ∃ m y14 g48 g49 y15, St 29 m b0 [(8, (.i y14)), (7, (.a4 x1)), (3, (.p g48)), (2, (.p g49))] [Res.cells g48 22 [.b32 y15], Res.cells g49 22 [.b32 z32]] a w ∧ word_Bytes.l1 k x1 q1 y14 y15 = some r) ?_ ?_ (k := k) ⟨_, 0, g3, g2, z32, (S.sb rfl (.c0 (.c0 .n))), h0⟩
 ·rintro a w ⟨m, y14, g48, g49, y15, S, h0⟩
  exact (nomatch (show (none : Option ((List Int))) = some r from h0))
 ·clear S h0
  rintro q1 a w ⟨m, y14, g48, g49, y15, S, h0⟩
  replace h0 : word_Bytes.b1 k x1 (word_Bytes.l1 k x1 q1) y14 y15 = some r := h0
  delta word_Bytes.b1 at h0
  refine c_region (s_bin S rfl rfl rfl rfl fun a S => c_end (wp_seq ?_))
  rcases ite_of h0 with ⟨c1, h1⟩ | ⟨c1, h1⟩
  ·refine c_condT S rfl c1 (wp_skip (x_thenN (wp_seq_k fun K2 hK2 => ?_)))
   have j2 : ∀ m g56 g57 y20 a w, St 29 m b0 [(8, (.i y14)), (7, (.a4 x1)), (3, (.p g56)), (2, (.p g57))] [Res.cells g56 22 [.b32 y20], Res.cells g57 22 [.b32 z32]] a w → word_Bytes.j2 y14 (word_Bytes.l1 k x1 q1) y20 = some r → K2 a w := by
    intro m g56 g57 y20 a w S h0
    delta word_Bytes.j2 at h0
    refine hK2 a w (c_region' (s_bin S rfl rfl rfl rfl fun a S => s_move S rfl rfl fun a S => c_end' (x_thenN ?_)))
    exact ⟨_, (wr .i64 (y14 + 1)), g56, g57, y20, (S.sb rfl (.c0 (.c0 .n))), h0⟩
   refine wp_block (c_region (s_move S rfl rfl fun a S => ?_))
   obtain ⟨c2, h2⟩ := chk_of h1; clear h1
   refine s_index S rfl rfl underlying26 T24 c2.1 c2.2 rfl fun a S => s_assign S rfl rfl fun a S => s_assign S rfl rfl fun a S => c_end (c_region (s_move S rfl rfl fun a S => c_end (wp_block ?_)))
   refine c_loop (fun q2 a w => ∃ m y23 g62 g63 y24, St 29 m b0 [(12, (.i y23)), (5, (.w (rd x1 y14))), (4, (.i y14)), (8, (.i y14)), (7, (.a4 x1)), (3, (.p g62)), (2, (.p g63))] [Res.cells g62 22 [.b32 y24], Res.cells g63 22 [.b32 z32]] a w ∧ word_Bytes.l2 x1 y14 (word_Bytes.l1 k x1 q1) q2 y23 y24 = some r) ?_ ?_ (k := k) ⟨_, 0, g48, g49, y15, (S.sb rfl (.c0 (.c0 .n))), h2⟩
   ·rintro a w ⟨m, y23, g62, g63, y24, S, h0⟩
    exact (nomatch (show (none : Option ((List Int))) = some r from h0))
   ·clear S h2
    rintro q2 a w ⟨m, y23, g62, g63, y24, S, h0⟩
    replace h0 : word_Bytes.b2 x1 y14 (word_Bytes.l1 k x1 q1) (word_Bytes.l2 x1 y14 (word_Bytes.l1 k x1 q1) q2) y23 y24 = some r := h0
    delta word_Bytes.b2 at h0
    refine c_region (s_bin S rfl rfl rfl rfl fun a S => c_end (wp_seq ?_))
    rcases ite_of h0 with ⟨c3, h1⟩ | ⟨c3, h1⟩
    ·refine c_condT S rfl c3 (wp_skip (x_thenN (wp_seq (wp_block (c_region (s_move S rfl rfl fun a S => s_assign S rfl rfl fun a S => c_end (c_region' (s_move S rfl rfl fun a S => s_bin S rfl rfl rfl rfl fun a S => s_bin S rfl rfl rfl rfl fun a S => s_move S rfl rfl fun a S => s_bin S rfl rfl rfl rfl fun a S => s_move S rfl rfl fun a S => s_move S rfl rfl fun a S => s_bin S rfl rfl rfl rfl fun a S => ?_))))))))
     obtain ⟨c4, h2⟩ := chk_of h1; clear h1
     refine s_shr S (e := (min (Int.toNat (wr .i64 (8 * y23))) 64)) rfl rfl c4 rfl rfl fun a S => s_conv S rfl rfl underlying5 rfl fun a S => ?_
     obtain ⟨c5, h3⟩ := chk_of h2; clear h2
     refine s_iaddr S rfl rfl underlying22 T5 c5.1 c5.2 (mul1 _ _) rfl fun a S => s_storei S (i := (wr .i64 ((wr .i64 (31 - (wr .i64 (8 * y14)))) - y23))) rfl rfl .h T5 .h rfl c5.1 c5.2 fun w S => c_end' (x_blockN (x_thenN (c_region' (s_bin S rfl rfl rfl rfl fun a S => s_move S rfl rfl fun a S => c_end' (x_thenN ?_)))))
     exact ⟨_, (wr .i64 (y23 + 1)), g62, g63, (y24.set (Int.toNat (wr .i64 ((wr .i64 (31 - (wr .i64 (8 * y14)))) - y23))) (wr .u8 (shr (rd x1 y14) (min (Int.toNat (wr .i64 (8 * y23))) 64)))), (S.sb rfl (.c0 (.c0 .n))), h3⟩
    ·refine c_condF S rfl c3 (wp_exit (x_thenX (x_thenX (x_blockX (x_blockN (x_thenN ?_))))))
     exact j2 _ g62 g63 y24 a w (S.sb rfl (.c0 (.c0 .n))) h1
  ·refine c_condF S rfl c1 (wp_exit (x_thenX (x_thenX (x_blockX (x_thenN ?_)))))
   exact j1 _ g48 g49 y15 a w (S.sb rfl (.c0 (.c0 .n))) h1
abbrev bits_Len64.Ty : Type := Int → Option Int
def bits_Len64.Ctr (s : bits_Len64.Ty) : Prop := ∀ (x1 : Int) (r : Int), Ct (C := Unit) Tryd.prog 93 (s x1 = some r) [] [(.w x1)] (fun _ => (.i r)) fun _ => []
def bits_Len64.j3 (y5 : Int) (y6 : Int) : Option Int := if (0 : Int) ≤ (wr .u8 y6) ∧ (wr .u8 y6) < (txt0.size : Int) then (some (wr .i64 (y5 + (wr .i64 (bt txt0 (wr .u8 y6)))))) else none
def bits_Len64.j2 (y3 : Int) (y4 : Int) : Option Int := if (decide (256 ≤ y4)) = true then (bits_Len64.j3 (wr .i64 (y3 + 8)) (shr y4 8)) else (bits_Len64.j3 y3 y4)
def bits_Len64.j1 (y1 : Int) (y2 : Int) : Option Int := if (decide (65536 ≤ y2)) = true then (bits_Len64.j2 (wr .i64 (y1 + 16)) (shr y2 16)) else (bits_Len64.j2 y1 y2)
def bits_Len64.f (x1 : Int) : Option Int := if (decide (4294967296 ≤ x1)) = true then (bits_Len64.j1 32 (shr x1 32)) else (bits_Len64.j1 0 x1)
theorem bits_Len64.ok : bits_Len64.Ctr (bits_Len64.f) := by
 intro x1 r h0 mi w0 ok hm
 delta bits_Len64.f at h0
 refine c_enterZ (n := 25) ok hm func93 rfl rfl rfl fun b0 hb a S => c_region (s_assign S rfl rfl fun a S => c_end (wp_seq_k fun K1 hK1 => ?_))
 have j1 : ∀ m y1 y2 a w, St 25 m b0 [(2, (.i y1)), (0, (.w y2))] [] a w → bits_Len64.j1 y1 y2 = some r → K1 a w := by
  intro m y1 y2 a w S h0
  delta bits_Len64.j1 at h0
  refine hK1 a w (wp_seq_k fun K2 hK2 => ?_)
  have j2 : ∀ m y3 y4 a w, St 25 m b0 [(2, (.i y3)), (0, (.w y4))] [] a w → bits_Len64.j2 y3 y4 = some r → K2 a w := by
   intro m y3 y4 a w S h0
   delta bits_Len64.j2 at h0
   refine hK2 a w (wp_seq_k fun K3 hK3 => ?_)
   have j3 : ∀ m y5 y6 a w, St 25 m b0 [(2, (.i y5)), (0, (.w y6))] [] a w → bits_Len64.j3 y5 y6 = some r → K3 a w := by
    intro m y5 y6 a w S h0
    delta bits_Len64.j3 at h0
    refine hK3 a w (c_region (s_move S rfl rfl fun a S => s_move S rfl rfl fun a S => s_conv S rfl rfl underlying5 rfl fun a S => ?_))
    obtain ⟨c1, h1⟩ := chk_of h0; clear h0
    refine s_indexT S rfl rfl underlying9 c1.1 c1.2 rfl fun a S => s_conv S rfl rfl underlying3 rfl fun a S => s_bin S rfl rfl rfl rfl fun a S => s_assign S rfl rfl fun a S => c_end (wp_ret ?_)
    obtain rfl := Option.some.inj h1
    exact b_ret1 (d := (.i (wr .i64 (y5 + (wr .i64 (bt txt0 (wr .u8 y6))))))) S rfl rfl (S.rt hb)
   refine c_region (s_move S rfl rfl fun a S => s_bin S rfl rfl rfl rfl fun a S => c_end ?_)
   rcases ite_of h0 with ⟨c2, h1⟩ | ⟨c2, h1⟩
   ·refine c_condT S rfl c2 (c_region (s_move S rfl rfl fun a S => s_shr S (e := 8) rfl rfl (by decide) rfl rfl fun a S => s_assign S rfl rfl fun a S => c_end (c_region' (s_move S rfl rfl fun a S => s_bin S rfl rfl rfl rfl fun a S => s_assign S rfl rfl fun a S => c_end' (x_thenN ?_)))))
    exact j3 _ (wr .i64 (y3 + 8)) (shr y4 8) a w (S.sb rfl .nil) h1
   ·refine c_condF S rfl c2 (wp_skip (x_thenN ?_))
    exact j3 _ y3 y4 a w (S.sb rfl .nil) h1
  refine c_region (s_move S rfl rfl fun a S => s_bin S rfl rfl rfl rfl fun a S => c_end ?_)
  rcases ite_of h0 with ⟨c3, h1⟩ | ⟨c3, h1⟩
  ·refine c_condT S rfl c3 (c_region (s_move S rfl rfl fun a S => s_shr S (e := 16) rfl rfl (by decide) rfl rfl fun a S => s_assign S rfl rfl fun a S => c_end (c_region' (s_move S rfl rfl fun a S => s_bin S rfl rfl rfl rfl fun a S => s_assign S rfl rfl fun a S => c_end' (x_thenN ?_)))))
   exact j2 _ (wr .i64 (y1 + 16)) (shr y2 16) a w (S.sb rfl .nil) h1
  ·refine c_condF S rfl c3 (wp_skip (x_thenN ?_))
   exact j2 _ y1 y2 a w (S.sb rfl .nil) h1
 refine c_region (s_move S rfl rfl fun a S => s_bin S rfl rfl rfl rfl fun a S => c_end ?_)
 rcases ite_of h0 with ⟨c4, h1⟩ | ⟨c4, h1⟩
 ·refine c_condT S rfl c4 (c_region (s_move S rfl rfl fun a S => s_shr S (e := 32) rfl rfl (by decide) rfl rfl fun a S => s_assign S rfl rfl fun a S => c_end (c_region' (s_assign S rfl rfl fun a S => c_end' (x_thenN ?_)))))
  exact j1 _ 32 (shr x1 32) a w0 (S.sb rfl .nil) h1
 ·refine c_condF S rfl c4 (wp_skip (x_thenN ?_))
  exact j1 _ 0 x1 a w0 (S.sb rfl .nil) h1
abbrev word_Len.Ty : Type := (List Int) → Option Int
def word_Len.Ctr (s : word_Len.Ty) : Prop := ∀ (x1 : List Int) (r : Int), Ct (C := Unit) Tryd.prog 86 (s x1 = some r) [] [(.a4 x1)] (fun _ => (.i r)) fun _ => []
def word_Len.j1 : Option Int := some 0
def word_Len.b1 (x1 : List Int) (rec1 : Int → Option Int) (y1 : Int) : Option Int := if (decide (0 ≤ y1)) = true then (if (0 : Int) ≤ y1 ∧ y1 < 4 then (if ((rd x1 y1) != 0) = true then ((bits_Len64.f (rd x1 y1)).bind fun t1 => (some (wr .i64 ((wr .i64 (64 * y1)) + t1)))) else (rec1 (wr .i64 (y1 - 1)))) else none) else word_Len.j1
def word_Len.l1 (x1 : List Int) : Nat → Int → Option Int
  | 0, _ => none
  | q + 1, y1 => word_Len.b1 x1 (word_Len.l1 x1 q) y1
def word_Len.f (k : Nat) (x1 : List Int) : Option Int := word_Len.l1 x1 k 3
theorem word_Len.ok (k : Nat) : word_Len.Ctr (word_Len.f k) := by
 intro x1 r h0 mi w0 ok hm
 delta word_Len.f at h0
 refine c_enterZ (n := 19) ok hm func86 rfl rfl rfl fun b0 hb a S => c_region (s_box S rfl rfl rfl fun g1 a w S => s_assign S rfl rfl fun a S => c_end (wp_seq_k fun K1 hK1 => ?_))
 have j1 : ∀ m a w, St 19 m b0 [] [] a w → word_Len.j1 = some r → K1 a w := by
  intro m a w S h0
  delta word_Len.j1 at h0
  refine hK1 a w (c_region (s_assign S rfl rfl fun a S => c_end (wp_ret ?_)))
  obtain rfl := Option.some.inj h0
  exact b_ret1 (d := (.i 0)) S rfl rfl (S.rt hb)
 refine c_region (s_assign S rfl rfl fun a S => c_end (wp_block ?_))
 refine c_loop (fun q1 a w => ∃ m y1 g7, St 19 m b0 [(3, (.i y1)), (1, (.p g7))] [Res.cells g7 26 [.w4 x1]] a w ∧ word_Len.l1 x1 q1 y1 = some r) ?_ ?_ (k := k) ⟨_, 3, g1, (S.sb rfl (.c0 .n)), h0⟩
 ·rintro a w ⟨m, y1, g7, S, h0⟩
  exact (nomatch (show (none : Option Int) = some r from h0))
 ·clear S h0
  rintro q1 a w ⟨m, y1, g7, S, h0⟩
  replace h0 : word_Len.b1 x1 (word_Len.l1 x1 q1) y1 = some r := h0
  delta word_Len.b1 at h0
  refine wp_seq (c_region (s_move S rfl rfl fun a S => s_bin S rfl rfl rfl rfl fun a S => c_end ?_))
  rcases ite_of h0 with ⟨c1, h1⟩ | ⟨c1, h1⟩
  ·refine c_condT S rfl c1 (wp_skip (x_thenN (wp_seq (wp_block (c_region (s_move S rfl rfl fun a S => ?_))))))
   obtain ⟨c2, h2⟩ := chk_of h1; clear h1
   refine s_iaddr S rfl rfl underlying26 T24 c2.1 c2.2 (mul1 _ _) rfl fun a S => s_loadi S (i := y1) rfl .h T24 .h rfl c2.1 c2.2 rfl fun a S => s_bin S rfl rfl rfl rfl fun a S => c_end ?_
   rcases ite_of h2 with ⟨c3, h3⟩ | ⟨c3, h3⟩
   ·refine c_condT S rfl c3 (c_region (s_move S rfl rfl fun a S => s_bin S rfl rfl rfl rfl fun a S => s_move S rfl rfl fun a S => s_iaddr S rfl rfl underlying26 T24 c2.1 c2.2 (mul1 _ _) rfl fun a S => s_loadi S (i := y1) rfl .h T24 .h rfl c2.1 c2.2 rfl fun a S => bindX h3 fun t1 et1 h4 => s_callP S _ N93 rfl rfl (bits_Len64.ok (rd x1 y1) t1 et1 _ _) fun ch1 m le1 a w S => s_bin S rfl rfl rfl rfl fun a S => s_assign S rfl rfl fun a S => c_end (wp_ret (x_blockR (x_thenR (x_thenR (x_blockR (x_thenR ?_))))))))
    obtain rfl := Option.some.inj h4
    exact b_ret1 (d := (.i (wr .i64 ((wr .i64 (64 * y1)) + t1)))) S rfl rfl (S.rt hb)
   ·refine c_condF S rfl c3 (wp_skip (x_blockN (x_thenN (c_region' (s_move S rfl rfl fun a S => s_bin S rfl rfl rfl rfl fun a S => s_assign S rfl rfl fun a S => c_end' (x_thenN ?_))))))
    exact ⟨_, (wr .i64 (y1 - 1)), g7, (S.sb rfl (.c0 .n)), h3⟩
  ·refine c_condF S rfl c1 (wp_exit (x_thenX (x_thenX (x_blockX (x_thenN ?_)))))
   exact j1 _ a w (S.sub trivial .nil) h1
abbrev word_Size.Ty : Type := (List Int) → Option Int
def word_Size.Ctr (s : word_Size.Ty) : Prop := ∀ (x1 : List Int) (r : Int), Ct (C := Unit) Tryd.prog 70 (s x1 = some r) [] [(.a4 x1)] (fun _ => (.i r)) fun _ => []
def word_Size.f (k : Nat) (x1 : List Int) : Option Int := (word_Len.f k x1).bind fun t1 => (some (wr .i64 (Int.tdiv (wr .i64 (t1 + 7)) 8)))
theorem word_Size.ok (k : Nat) : word_Size.Ctr (word_Size.f k) := by
 intro x1 r h0 mi w0 ok hm
 delta word_Size.f at h0
 refine c_enterZ (n := 7) ok hm func70 rfl rfl rfl fun b0 hb a S => c_region (s_box S rfl rfl rfl fun g1 a w S => s_assign S rfl rfl fun a S => c_end (c_region (s_loada S rfl .h T26 (s' := [.w4 x1]) rfl rfl fun a S => bindX h0 fun t1 et1 h1 => s_callP S _ N86 rfl rfl (word_Len.ok k x1 t1 et1 _ _) fun ch1 m le1 a w S => s_bin S rfl rfl rfl rfl fun a S => s_quo S rfl rfl (by decide) rfl fun a S => s_assign S rfl rfl fun a S => c_end (wp_ret ?_))))
 obtain rfl := Option.some.inj h1
 exact b_ret1 (d := (.i (wr .i64 (Int.tdiv (wr .i64 (t1 + 7)) 8)))) S rfl rfl (S.rt hb)
abbrev rlp_Number.Ty : Type := (List Int) → Option ((List Int))
def rlp_Number.Ctr (s : rlp_Number.Ty) : Prop := ∀ (x1 : List Int) (r : (List Int)), Ct (C := ((Option Addr) × Nat × Nat)) Tryd.prog 44 (s x1 = some r) [] [(.a4 x1)] (fun ch => (.s ch.1 ch.2.1 ch.2.2)) fun ch => [Res.row yb 5 ch.1 ch.2.1 ch.2.2 r]
def rlp_Number.f (k : Nat) (x1 : List Int) : Option ((List Int)) := (word_Bytes.f k x1).bind fun t1 => ((word_Size.f k x1).bind fun t2 => (if (0 : Int) ≤ (wr .i64 (32 - t2)) ∧ ((wr .i64 (32 - t2)) : Int) ≤ 32 ∧ 32 ≤ ((32 : Nat) : Int) then (if ((([] : List Int)).length + (((t1).drop (Int.toNat (wr .i64 (32 - t2)))).take (Int.toNat 32 - Int.toNat (wr .i64 (32 - t2)))).length) * 1 ≤ 140737488355328 then (some (([] : List Int) ++ (((t1).drop (Int.toNat (wr .i64 (32 - t2)))).take (Int.toNat 32 - Int.toNat (wr .i64 (32 - t2)))))) else none) else none))
theorem rlp_Number.ok (k : Nat) : rlp_Number.Ctr (rlp_Number.f k) := by
 intro x1 r h0 mi w0 ok hm
 delta rlp_Number.f at h0
 refine c_enterZ (n := 12) ok hm func44 rfl rfl rfl fun b0 hb a S => c_region (s_box S rfl rfl rfl fun g1 a w S => s_assign S rfl rfl fun a S => c_end (c_region (s_loada S rfl .h T26 (s' := [.w4 x1]) rfl rfl fun a S => bindX h0 fun t1 et1 h1 => s_callP S _ N45 rfl rfl (word_Bytes.ok k x1 t1 et1 _ _) fun ch1 m le1 a w S => s_alloc S Z22 rfl ⟨rfl, trivial⟩ rfl fun g2 a w S => s_store S rfl rfl rfl (s' := [.b32 t1]) .h T22 rfl rfl fun w S => c_end (c_region (s_bldSl S (ty' := yb) (ds := []) (z := 0) (c0 := ()) (ys := ([] : List Int)) (cs := []) rfl underlying37 J5 Z5 rfl ⟨rfl, trivial⟩ rfl rfl rfl rfl rfl rfl fun g3 a w S => s_loada S rfl .h2 T26 (s' := [.w4 x1]) rfl rfl fun a S => bindX h1 fun t2 et2 h2 => s_callP S _ N70 rfl rfl (word_Size.ok k x1 t2 et2 _ _) fun ch2 m le1 a w S => s_bin S rfl rfl rfl rfl fun a S => ?_)))))
 obtain ⟨c1, h3⟩ := chk_of h2; clear h2
 refine s_sliceA S (i := (wr .i64 (32 - t2))) (j := 32) (o' := if 32 = Int.toNat (wr .i64 (32 - t2)) then 0 else 0 + Int.toNat (wr .i64 (32 - t2)) * 1) (len := Int.toNat 32 - Int.toNat (wr .i64 (32 - t2))) (cap := 32 - Int.toNat (wr .i64 (32 - t2))) rfl underlying22 T5 (.inr ⟨_, _, rfl, rfl⟩) (.inl ⟨rfl, rfl⟩) c1 rfl rfl rfl rfl fun a S => ?_
 replace S := S.freeze .h1
 obtain ⟨m, le1, S⟩ := S
 replace S := (S.slup' (u := 10) (lo := Int.toNat (wr .i64 (32 - t2))) (c := 32) (ys := ((t1).drop (Int.toNat (wr .i64 (32 - t2)))).take (Int.toNat 32 - Int.toNat (wr .i64 (32 - t2)))) rfl (Pull.mem .h1).1 .h (ho_if c1) (hl_if c1) (hcap_if c1 rfl) rfl).2
 obtain ⟨c2, h4⟩ := chk_of h3; clear h3
 refine s_app S (k2 := ((((t1).drop (Int.toNat (wr .i64 (32 - t2)))).take (Int.toNat 32 - Int.toNat (wr .i64 (32 - t2)))).length)) (ys := (((t1).drop (Int.toNat (wr .i64 (32 - t2)))).take (Int.toNat 32 - Int.toNat (wr .i64 (32 - t2))))) rfl (fun _ _ => .h) rfl rfl rfl (RdS.src (S.get 10 (.q yb (some ⟨g2, if 32 = Int.toNat (wr .i64 (32 - t2)) then 0 else 0 + Int.toNat (wr .i64 (32 - t2)) * 1, none⟩) (32 - Int.toNat (wr .i64 (32 - t2))) (((t1).drop (Int.toNat (wr .i64 (32 - t2)))).take (Int.toNat 32 - Int.toNat (wr .i64 (32 - t2))))) rfl).2.2.2.1 (by decide) S.frz) underlying37 J5 c2 rfl fun A1 cp1 a w S => s_assign S rfl rfl fun a S => c_end (wp_ret ?_)
 obtain rfl := Option.some.inj h4
 exact b_ret1 (d := (.s A1 (0 + ((((t1).drop (Int.toNat (wr .i64 (32 - t2)))).take (Int.toNat 32 - Int.toNat (wr .i64 (32 - t2)))).length)) cp1)) S rfl rfl fun ok => S.retX (Hx := []) hb _ _ ((A1, 0 + ((((t1).drop (Int.toNat (wr .i64 (32 - t2)))).take (Int.toNat 32 - Int.toNat (wr .i64 (32 - t2)))).length), cp1) : (Option Addr) × Nat × Nat) (.c0 .n) ok
abbrev block_number.Ty : Type := (List Int) → Option ((Bool × (List Int) × Int))
def block_number.Ctr (s : block_number.Ty) : Prop := ∀ (x1 : List Int) (r : (Bool × (List Int) × Int)), Ct (C := ((Option Addr) × Nat)) Tryd.prog 25 (s x1 = some r) [] [(.a4 x1)] (fun ch => (.agg [.b r.1, .q yb ch.1 ch.2 r.2.1, .i r.2.2])) fun _ => []
def block_number.f (k : Nat) (x1 : List Int) : Option ((Bool × (List Int) × Int)) := (rlp_Number.f k x1).bind fun t1 => ((block_item.f t1).bind fun t2 => (some (t2.1, t2.2.1, t2.2.2)))
theorem block_number.ok (k : Nat) : block_number.Ctr (block_number.f k) := by
 intro x1 r h0 mi w0 ok hm
 delta block_number.f at h0
 refine c_enterZ (n := 6) ok hm func25 rfl rfl rfl fun b0 hb a S => c_region (s_box S rfl rfl rfl fun g1 a w S => s_alloc S Z54 rfl ⟨rfl, rfl, rfl, trivial⟩ rfl fun g2 a w S => c_end (c_region (s_loada S rfl .h1 T26 (s' := [.w4 x1]) rfl rfl fun a S => bindX h0 fun t1 et1 h1 => s_callR S (fun (ch : (Option Addr) × Nat × Nat) => ((.s ch.1 ch.2.1 ch.2.2) : D)) (fun (ch : (Option Addr) × Nat × Nat) => Res.row yb 5 ch.1 ch.2.1 ch.2.2 t1) N44 rfl rfl (rlp_Number.ok k x1 t1 et1 _ _) fun ch1 m le1 a w S => ?_)))
 replace S := S.rowfro .h
 obtain ⟨m, le1, S, hro⟩ := S
 replace S := S.slotro (u := 4) rfl hro
 refine bindX h1 fun t2 et2 h2 => s_callP S _ N23 rfl rfl (block_item.ok t1 ch1.1 ch1.2.2 t2 et2 _ _) fun ch2 m le1 a w S => s_store S rfl rfl rfl (s' := [.b t2.1, .q yb ch2.1 ch2.2 t2.2.1, .i t2.2.2]) .h T54 rfl rfl fun w S => c_end (wp_ret ?_)
 obtain rfl := Option.some.inj h2
 exact b_ret1 (d := (.agg [.b t2.1, .q yb ch2.1 ch2.2 t2.2.1, .i t2.2.2])) S rfl (resD_cell rfl .h T54 rfl rfl) fun ok => S.retX (Hx := []) hb _ _ ((ch2.1, ch2.2) : (Option Addr) × Nat) .nil ok
abbrev block_count.Ty : Type := Int → Option ((Bool × (List Int) × Int))
def block_count.Ctr (s : block_count.Ty) : Prop := ∀ (x1 : Int) (r : (Bool × (List Int) × Int)), Ct (C := ((Option Addr) × Nat)) Tryd.prog 24 (s x1 = some r) [] [(.w x1)] (fun ch => (.agg [.b r.1, .q yb ch.1 ch.2 r.2.1, .i r.2.2])) fun _ => []
def block_count.f (k : Nat) (x1 : Int) : Option ((Bool × (List Int) × Int)) := (word_Of.f x1).bind fun t1 => ((block_number.f k t1).bind fun t2 => (some (t2.1, t2.2.1, t2.2.2)))
theorem block_count.ok (k : Nat) : block_count.Ctr (block_count.f k) := by
 intro x1 r h0 mi w0 ok hm
 delta block_count.f at h0
 refine c_enterZ (n := 6) ok hm func24 rfl rfl rfl fun b0 hb a S => c_region (s_alloc S Z54 rfl ⟨rfl, rfl, rfl, trivial⟩ rfl fun g1 a w S => c_end (c_region (s_move S rfl rfl fun a S => bindX h0 fun t1 et1 h1 => s_callP S _ N43 rfl rfl (word_Of.ok x1 t1 et1 _ _) fun ch1 m le1 a w S => bindX h1 fun t2 et2 h2 => s_callP S _ N25 rfl rfl (block_number.ok k t1 t2 et2 _ _) fun ch2 m le1 a w S => s_store S rfl rfl rfl (s' := [.b t2.1, .q yb ch2.1 ch2.2 t2.2.1, .i t2.2.2]) .h T54 rfl rfl fun w S => c_end (wp_ret ?_))))
 obtain rfl := Option.some.inj h2
 exact b_ret1 (d := (.agg [.b t2.1, .q yb ch2.1 ch2.2 t2.2.1, .i t2.2.2])) S rfl (resD_cell rfl .h T54 rfl rfl) fun ok => S.retX (Hx := []) hb _ _ ((ch2.1, ch2.2) : (Option Addr) × Nat) .nil ok
abbrev block_full.Ty : Type := (List Int) → Option ((Bool × (List Int) × Int))
def block_full.Ctr (s : block_full.Ty) : Prop := ∀ (x1 : List Int) (r : (Bool × (List Int) × Int)), Ct (C := ((Option Addr) × Nat)) Tryd.prog 26 (s x1 = some r) [] [(.a4 x1)] (fun ch => (.agg [.b r.1, .q yb ch.1 ch.2 r.2.1, .i r.2.2])) fun _ => []
def block_full.f (k : Nat) (x1 : List Int) : Option ((Bool × (List Int) × Int)) := (word_Bytes.f k x1).bind fun t1 => ((block_item.f (((t1).drop 0).take 32)).bind fun t2 => (some (t2.1, t2.2.1, t2.2.2)))
theorem block_full.ok (k : Nat) : block_full.Ctr (block_full.f k) := by
 intro x1 r h0 mi w0 ok hm
 delta block_full.f at h0
 refine c_enterZ (n := 8) ok hm func26 rfl rfl rfl fun b0 hb a S => c_region (s_box S rfl rfl rfl fun g1 a w S => s_alloc S Z54 rfl ⟨rfl, rfl, rfl, trivial⟩ rfl fun g2 a w S => c_end (c_region (s_loada S rfl .h1 T26 (s' := [.w4 x1]) rfl rfl fun a S => bindX h0 fun t1 et1 h1 => s_callP S _ N45 rfl rfl (word_Bytes.ok k x1 t1 et1 _ _) fun ch1 m le1 a w S => s_alloc S Z22 rfl ⟨rfl, trivial⟩ rfl fun g3 a w S => s_store S rfl rfl rfl (s' := [.b32 t1]) .h T22 rfl rfl fun w S => c_end (c_region (s_sliceA S (i := 0) (j := 32) (o' := 0) (len := 32) (cap := 32) rfl underlying22 T5 (.inl ⟨rfl, rfl⟩) (.inl ⟨rfl, rfl⟩) (by decide) rfl rfl rfl rfl fun a S => ?_)))))
 replace S := S.freeze .h
 obtain ⟨m, le1, S⟩ := S
 replace S := (S.slup' (u := 6) (lo := 0) (c := 32) (ys := ((t1).drop 0).take 32) rfl (Pull.mem .h).1 .h (.inl rfl) (by decide) (by decide) rfl).2
 refine bindX h1 fun t2 et2 h2 => s_callP S _ N23 rfl rfl (block_item.ok (((t1).drop 0).take 32) (ad g3) 32 t2 et2 _ _) fun ch2 m le1 a w S => s_store S rfl rfl rfl (s' := [.b t2.1, .q yb ch2.1 ch2.2 t2.2.1, .i t2.2.2]) .h1 T54 rfl rfl fun w S => c_end (wp_ret ?_)
 obtain rfl := Option.some.inj h2
 exact b_ret1 (d := (.agg [.b t2.1, .q yb ch2.1 ch2.2 t2.2.1, .i t2.2.2])) S rfl (resD_cell rfl .h1 T54 rfl rfl) fun ok => S.retX (Hx := []) hb _ _ ((ch2.1, ch2.2) : (Option Addr) × Nat) .nil ok
abbrev block_list.Ty : Type := (List (List (Bool × (List Int) × Int))) → Option ((List (Bool × (List Int) × Int)))
def block_list.Ctr (s : block_list.Ty) : Prop := ∀ (x1 : List (List (Bool × (List Int) × Int))) (ch_0_0 : Option Addr) (ch_0_1 : Nat) (r : (List (Bool × (List Int) × Int))), Ct (C := ((Option Addr) × Nat × Nat)) Tryd.prog 22 (s x1 = some r) [] [(.q (Ty.slice Y54) ch_0_0 ch_0_1 x1)] (fun ch => (.s ch.1 ch.2.1 ch.2.2)) fun ch => [Res.row Y54 54 ch.1 ch.2.1 ch.2.2 r]
def block_list.j1 (y1 : List (Bool × (List Int) × Int)) : Option ((List (Bool × (List Int) × Int))) := if (0 : Int) ≤ 0 ∧ 0 < ((y1).length : Int) then (some (y1.set (Int.toNat 0) ((gt y1 0).1, (gt y1 0).2.1, wr .i64 (((y1).length : Int) - 1)))) else none
def block_list.b1 (x1 : List (List (Bool × (List Int) × Int))) (rec1 : Int → (List (Bool × (List Int) × Int)) → Option ((List (Bool × (List Int) × Int)))) (y4 : Int) (y5 : List (Bool × (List Int) × Int)) : Option ((List (Bool × (List Int) × Int))) := if (decide (y4 < ((x1).length : Int))) = true then (if (0 : Int) ≤ y4 ∧ y4 < ((x1).length : Int) then (if ((y5).length + (gt x1 y4).length) * 40 ≤ 140737488355328 then (rec1 (wr .i64 (y4 + 1)) (y5 ++ (gt x1 y4))) else none) else none) else (block_list.j1 y5)
def block_list.l1 (x1 : List (List (Bool × (List Int) × Int))) : Nat → Int → (List (Bool × (List Int) × Int)) → Option ((List (Bool × (List Int) × Int)))
  | 0, _, _ => none
  | q + 1, y4, y5 => block_list.b1 x1 (block_list.l1 x1 q) y4 y5
def block_list.f (k : Nat) (x1 : List (List (Bool × (List Int) × Int))) : Option ((List (Bool × (List Int) × Int))) := block_list.l1 x1 k 0 [(true, ([] : List Int), 0)]
theorem block_list.ok (k : Nat) : block_list.Ctr (block_list.f k) := by
 intro x1 ch_0_0 ch_0_1 r h0 mi w0 ok hm
 delta block_list.f at h0
 refine c_enterZ (n := 25) ok hm func22 rfl rfl rfl fun b0 hb a S => c_region (s_assign S rfl rfl fun a S => c_end (c_region (s_bldS S (ds := [(0, (.b true))]) (zs := [.b false, .s none 0 0, .i 0]) (s' := [.b true, .s none 0 0, .i 0]) rfl underlying54 P54 Z54 ⟨rfl, rfl, rfl, trivial⟩ rfl rfl fun a S => ?_)))
 replace S := S.slot (u := 6) (d' := (.agg [.b true, .q yb none 0 ([] : List Int), .i 0])) rfl rfl (by have h := (S.get 6 (.agg [.b true, .s none 0 0, .i 0]) rfl).2; exact ⟨h.1, ok_nil, h.2.2.1, trivial⟩)
 refine s_bldSl S (ty' := Y54) (ds := [(0, (.agg [.b true, .q yb none 0 ([] : List Int), .i 0]))]) (z := (false, ([] : List Int), 0)) (c0 := ((), (none, 0), ())) (ys := [(true, ([] : List Int), 0)]) (cs := [((), (none, 0), ())]) rfl underlying51 J54 Z54 rfl ⟨rfl, ⟨Nat.le_refl _, Nat.zero_le _, RdS.nil _ _ _, RdS.mono _ _ _⟩, rfl, trivial⟩ rfl rfl rfl rfl rfl rfl fun g1 a w S => s_assign S rfl rfl fun a S => c_end (wp_seq_k fun K1 hK1 => ?_)
 have j1 : ∀ m A1 nn1 cp1 y1 a w, St 25 m b0 [(3, (.s A1 nn1 cp1))] [Res.row Y54 54 A1 nn1 cp1 y1] a w → block_list.j1 y1 = some r → K1 a w := by
  intro m A1 nn1 cp1 y1 a w S h0
  delta block_list.j1 at h0
  refine hK1 a w (c_region (s_move S rfl rfl fun a S => s_move S rfl rfl fun a S => s_lenO S rfl .h underlying51 rfl fun a S => s_bin S rfl rfl rfl rfl fun a S => ?_))
  obtain ⟨c1, h1⟩ := chk_of h0; clear h0
  refine s_iaddrO S (ty' := Y54) rfl .h rfl underlying51 T54 c1.1 c1.2 rfl fun g2 a hA1 S => s_fieldAddr S rfl I54_2 T3 (by decide) rfl rfl fun a S => s_stR S (ty' := Y54) (i := 0) (off := 2) (u := ((gt y1 0).1, (gt y1 0).2.1, wr .i64 (((y1).length : Int) - 1))) (fun (c : Unit × (Option Addr × Nat) × Unit) => ((), (c.2.1.1, c.2.1.2), ())) rfl rfl rfl hA1 .h T3 c1.1 c1.2 rfl (by decide) rfl (fun _ => rfl) fun w S => c_end (c_region (s_move S rfl rfl fun a S => s_assign S rfl rfl fun a S => c_end (wp_ret ?_)))
  obtain rfl := Option.some.inj h1
  exact b_ret1 (d := (.s A1 nn1 cp1)) S rfl rfl fun ok => S.retX (Hx := []) hb _ _ ((A1, nn1, cp1) : (Option Addr) × Nat × Nat) (.c0 .n) ok
 refine c_region (s_move S rfl rfl fun a S => s_lenS S rfl underlying76 rfl fun a S => s_move S rfl rfl fun a S => c_end (wp_block ?_))
 refine c_loop (fun q1 a w => ∃ m y4 A2 nn3 cp7 y5, St 25 m b0 [(10, (.i y4)), (9, (.i ((x1).length : Int))), (8, (.q (Ty.slice Y54) ch_0_0 ch_0_1 x1)), (3, (.s A2 nn3 cp7))] [Res.row Y54 54 A2 nn3 cp7 y5] a w ∧ block_list.l1 x1 q1 y4 y5 = some r) ?_ ?_ (k := k) ⟨_, 0, (ad g1), 1, 1, [(true, ([] : List Int), 0)], (S.sb rfl (.c0 .n)), h0⟩
 ·rintro a w ⟨m, y4, A2, nn3, cp7, y5, S, h0⟩
  exact (nomatch (show (none : Option ((List (Bool × (List Int) × Int)))) = some r from h0))
 ·clear S h0
  rintro q1 a w ⟨m, y4, A2, nn3, cp7, y5, S, h0⟩
  replace h0 : block_list.b1 x1 (block_list.l1 x1 q1) y4 y5 = some r := h0
  delta block_list.b1 at h0
  refine c_region (s_bin S rfl rfl rfl rfl fun a S => c_end (wp_seq ?_))
  rcases ite_of h0 with ⟨c2, h1⟩ | ⟨c2, h1⟩
  ·refine c_condT S rfl c2 (wp_skip (x_thenN (wp_seq (wp_block (c_region ?_)))))
   obtain ⟨c3, h2⟩ := chk_of h1; clear h1
   refine s_iaddrS S rfl rfl rfl underlying76 T51 c3.1 c3.2 rfl fun p1 a S => s_ldS S (fun c => c) rfl T51 (fun _ => rfl) rfl fun A3 cp8 a S => s_assign S rfl rfl fun a S => c_end (c_region' (s_move S rfl rfl fun a S => s_move S rfl rfl fun a S => ?_))
   obtain ⟨c4, h3⟩ := chk_of h2; clear h2
   refine s_app S (k2 := ((gt x1 y4).length)) (ys := (gt x1 y4)) rfl (fun _ _ => .h) rfl rfl rfl (RdS.src (S.get 15 (.q Y54 A3 cp8 (gt x1 y4)) rfl).2.2.2.1 (by decide) S.frz) underlying51 J54 c4 rfl fun A4 cp9 a w S => s_assign S rfl rfl fun a S => c_end' (x_blockN (x_thenN (c_region' (s_bin S rfl rfl rfl rfl fun a S => s_move S rfl rfl fun a S => c_end' (x_thenN ?_)))))
   exact ⟨_, (wr .i64 (y4 + 1)), A4, (nn3 + ((gt x1 y4).length)), cp9, (y5 ++ (gt x1 y4)), (S.sb rfl (.c0 .n)), h3⟩
  ·refine c_condF S rfl c2 (wp_exit (x_thenX (x_thenX (x_blockX (x_thenN ?_)))))
   exact j1 _ A2 nn3 cp7 y5 a w (S.sub ⟨rfl, trivial⟩ (.c0 .n)) h1
abbrev rlp_one.Ty : Type := (List (Bool × (List Int) × Int)) → Option Bool
def rlp_one.Ctr (s : rlp_one.Ty) : Prop := ∀ (x1 : List (Bool × (List Int) × Int)) (ch_0_0 : Option Addr) (ch_0_1 : Nat) (r : Bool), Ct (C := Unit) Tryd.prog 67 (s x1 = some r) [] [(.q Y54 ch_0_0 ch_0_1 x1)] (fun _ => (.b r)) fun _ => []
def rlp_one.j2 : Option Bool := some true
def rlp_one.j3 (y27 : Int) (rec1 : (List Int) → Int → Option Bool) (y36 : List Int) : Option Bool := rec1 y36 (wr .i64 (y27 + 1))
def rlp_one.j6 (x1 : List (Bool × (List Int) × Int)) (y27 : Int) (rec1 : (List Int) → Int → Option Bool) (y42 : List Int) (y44 : Bool) : Option Bool := if y44 = true then (some false) else (if ((y42).length + ([wr .i64 ((wr .i64 (y27 + 1)) + ((gt x1 y27).2.2))]).length) * 8 ≤ 140737488355328 then (rlp_one.j3 y27 rec1 (y42 ++ [wr .i64 ((wr .i64 (y27 + 1)) + ((gt x1 y27).2.2))])) else none)
def rlp_one.j5 (x1 : List (Bool × (List Int) × Int)) (y27 : Int) (rec1 : (List Int) → Int → Option Bool) (y42 : List Int) (y43 : Bool) : Option Bool := if y43 = true then (some false) else (if (decide (0 < ((y42).length : Int))) = true then (if (0 : Int) ≤ (wr .i64 (((y42).length : Int) - 1)) ∧ (wr .i64 (((y42).length : Int) - 1)) < ((y42).length : Int) then (rlp_one.j6 x1 y27 rec1 y42 (decide ((rd y42 (wr .i64 (((y42).length : Int) - 1))) < (wr .i64 ((wr .i64 (y27 + 1)) + ((gt x1 y27).2.2)))))) else none) else (rlp_one.j6 x1 y27 rec1 y42 false))
def rlp_one.j4 (x1 : List (Bool × (List Int) × Int)) (y27 : Int) (rec1 : (List Int) → Int → Option Bool) (y42 : List Int) : Option Bool := if (!((gt x1 y27).1)) = true then (if (((gt x1 y27).2.2) != 0) = true then (rlp_one.j5 x1 y27 rec1 y42 true) else (if ((gt x1 y27).1) = true then (if (decide (0 < (((gt x1 y27).2.1).length : Int))) = true then (rlp_one.j5 x1 y27 rec1 y42 true) else (if (decide (((gt x1 y27).2.2) < 0)) = true then (rlp_one.j5 x1 y27 rec1 y42 true) else (rlp_one.j5 x1 y27 rec1 y42 (decide ((wr .i64 ((wr .i64 (((x1).length : Int) - 1)) - y27)) < ((gt x1 y27).2.2)))))) else (if (decide (((gt x1 y27).2.2) < 0)) = true then (rlp_one.j5 x1 y27 rec1 y42 true) else (rlp_one.j5 x1 y27 rec1 y42 (decide ((wr .i64 ((wr .i64 (((x1).length : Int) - 1)) - y27)) < ((gt x1 y27).2.2))))))) else (if ((gt x1 y27).1) = true then (if (decide (0 < (((gt x1 y27).2.1).length : Int))) = true then (rlp_one.j5 x1 y27 rec1 y42 true) else (if (decide (((gt x1 y27).2.2) < 0)) = true then (rlp_one.j5 x1 y27 rec1 y42 true) else (rlp_one.j5 x1 y27 rec1 y42 (decide ((wr .i64 ((wr .i64 (((x1).length : Int) - 1)) - y27)) < ((gt x1 y27).2.2)))))) else (if (decide (((gt x1 y27).2.2) < 0)) = true then (rlp_one.j5 x1 y27 rec1 y42 true) else (rlp_one.j5 x1 y27 rec1 y42 (decide ((wr .i64 ((wr .i64 (((x1).length : Int) - 1)) - y27)) < ((gt x1 y27).2.2))))))
def rlp_one.j7 (x1 : List (Bool × (List Int) × Int)) (y27 : Int) (rec1 : (List Int) → Int → Option Bool) (y48 : List Int) (rec2 : (List Int) → Option Bool) (y49 : Bool) : Option Bool := if y49 = true then (if (0 : Int) ≤ (wr .i64 (((y48).length : Int) - 1)) ∧ (wr .i64 (((y48).length : Int) - 1)) ≤ ((y48).length : Int) then (rec2 (y48.take (Int.toNat (wr .i64 (((y48).length : Int) - 1))))) else none) else (rlp_one.j4 x1 y27 rec1 y48)
def rlp_one.b2 (x1 : List (Bool × (List Int) × Int)) (y27 : Int) (rec1 : (List Int) → Int → Option Bool) (rec2 : (List Int) → Option Bool) (y48 : List Int) : Option Bool := if (decide (0 < ((y48).length : Int))) = true then (if (0 : Int) ≤ (wr .i64 (((y48).length : Int) - 1)) ∧ (wr .i64 (((y48).length : Int) - 1)) < ((y48).length : Int) then (rlp_one.j7 x1 y27 rec1 y48 rec2 ((rd y48 (wr .i64 (((y48).length : Int) - 1))) == y27)) else none) else (rlp_one.j7 x1 y27 rec1 y48 rec2 false)
def rlp_one.l2 (x1 : List (Bool × (List Int) × Int)) (y27 : Int) (rec1 : (List Int) → Int → Option Bool) : Nat → (List Int) → Option Bool
  | 0, _ => none
  | q + 1, y48 => rlp_one.b2 x1 y27 rec1 (rlp_one.l2 x1 y27 rec1 q) y48
def rlp_one.b1 (k : Nat) (x1 : List (Bool × (List Int) × Int)) (rec1 : (List Int) → Int → Option Bool) (y26 : List Int) (y27 : Int) : Option Bool := if (decide (y27 < ((x1).length : Int))) = true then (if (0 : Int) ≤ y27 ∧ y27 < ((x1).length : Int) then (rlp_one.l2 x1 y27 rec1 k y26) else none) else rlp_one.j2
def rlp_one.l1 (k : Nat) (x1 : List (Bool × (List Int) × Int)) : Nat → (List Int) → Int → Option Bool
  | 0, _, _ => none
  | q + 1, y26, y27 => rlp_one.b1 k x1 (rlp_one.l1 k x1 q) y26 y27
def rlp_one.j1 (k : Nat) (x1 : List (Bool × (List Int) × Int)) (y1 : Bool) : Option Bool := if y1 = true then (some false) else (rlp_one.l1 k x1 k ([] : List Int) 0)
def rlp_one.f (k : Nat) (x1 : List (Bool × (List Int) × Int)) : Option Bool := if (((x1).length : Int) == 0) = true then (rlp_one.j1 k x1 true) else (if (0 : Int) ≤ 0 ∧ 0 < ((x1).length : Int) then (rlp_one.j1 k x1 (((gt x1 0).2.2) != (wr .i64 (((x1).length : Int) - 1)))) else none)
theorem rlp_one.ok (k : Nat) : rlp_one.Ctr (rlp_one.f k) := by
 intro x1 ch_0_0 ch_0_1 r h0 mi w0 ok hm
 delta rlp_one.f at h0
 refine c_enterZ (n := 101) ok hm func67 rfl rfl rfl fun b0 hb a S => c_region (s_assign S rfl rfl fun a S => c_end (wp_seq (wp_seq_k fun K1 hK1 => ?_)))
 have j1 : ∀ m y1 a w, St 101 m b0 [(19, (.b y1)), (0, (.q Y54 ch_0_0 ch_0_1 x1))] [] a w → rlp_one.j1 k x1 y1 = some r → K1 a w := by
  intro m y1 a w S h0
  delta rlp_one.j1 at h0
  refine hK1 a w ?_
  rcases ite_of h0 with ⟨c1, h1⟩ | ⟨c1, h1⟩
  ·refine c_condT S rfl c1 (c_region (s_assign S rfl rfl fun a S => c_end (wp_ret (x_thenR ?_))))
   obtain rfl := Option.some.inj h1
   exact b_ret1 (d := (.b false)) S rfl rfl (S.rt hb)
  ·refine c_condF S rfl c1 (wp_skip (x_thenN (c_region (s_assign S rfl rfl fun a S => c_end (wp_seq_k fun K2 hK2 => ?_)))))
   have j2 : ∀ m a w, St 101 m b0 [] [] a w → rlp_one.j2 = some r → K2 a w := by
    intro m a w S h0
    delta rlp_one.j2 at h0
    refine hK2 a w (c_region (s_assign S rfl rfl fun a S => c_end (wp_ret ?_)))
    obtain rfl := Option.some.inj h0
    exact b_ret1 (d := (.b true)) S rfl rfl (S.rt hb)
   refine c_region (s_move S rfl rfl fun a S => s_lenS S rfl underlying51 rfl fun a S => s_move S rfl rfl fun a S => c_end (wp_block ?_))
   replace S := S.nilrow yi 3
   refine c_loop (fun q1 a w => ∃ m A1 nn1 cp1 y26 y27, St 101 m b0 [(3, (.s A1 nn1 cp1)), (22, (.i y27)), (21, (.i ((x1).length : Int))), (20, (.q Y54 ch_0_0 ch_0_1 x1)), (0, (.q Y54 ch_0_0 ch_0_1 x1))] [Res.row yi 3 A1 nn1 cp1 y26] a w ∧ rlp_one.l1 k x1 q1 y26 y27 = some r) ?_ ?_ (k := k) ⟨_, none, 0, 0, ([] : List Int), 0, (S.sb rfl (.c0 .n)), h1⟩
   ·rintro a w ⟨m, A1, nn1, cp1, y26, y27, S, h0⟩
    exact (nomatch (show (none : Option Bool) = some r from h0))
   ·clear S h1
    rintro q1 a w ⟨m, A1, nn1, cp1, y26, y27, S, h0⟩
    replace h0 : rlp_one.b1 k x1 (rlp_one.l1 k x1 q1) y26 y27 = some r := h0
    delta rlp_one.b1 at h0
    refine c_region (s_bin S rfl rfl rfl rfl fun a S => c_end (wp_seq ?_))
    rcases ite_of h0 with ⟨c2, h1⟩ | ⟨c2, h1⟩
    ·refine c_condT S rfl c2 (wp_skip (x_thenN (wp_seq_k fun K3 hK3 => ?_)))
     have j3 : ∀ m A2 nn5 cp7 y36 a w, St 101 m b0 [(3, (.s A2 nn5 cp7)), (22, (.i y27)), (21, (.i ((x1).length : Int))), (20, (.q Y54 ch_0_0 ch_0_1 x1)), (0, (.q Y54 ch_0_0 ch_0_1 x1))] [Res.row yi 3 A2 nn5 cp7 y36] a w → rlp_one.j3 y27 (rlp_one.l1 k x1 q1) y36 = some r → K3 a w := by
      intro m A2 nn5 cp7 y36 a w S h0
      delta rlp_one.j3 at h0
      refine hK3 a w (c_region' (s_bin S rfl rfl rfl rfl fun a S => s_move S rfl rfl fun a S => c_end' (x_thenN ?_)))
      exact ⟨_, A2, nn5, cp7, y36, (wr .i64 (y27 + 1)), (S.sb rfl (.c0 .n)), h0⟩
     refine wp_block (c_region (s_move S rfl rfl fun a S => ?_))
     obtain ⟨c3, h2⟩ := chk_of h1; clear h1
     refine s_iaddrS S rfl rfl rfl underlying51 T54 c3.1 c3.2 rfl fun p1 a S => s_ldA S (fun (c : Unit × (Option Addr × Nat) × Unit) => [.b ((gt x1 y27).1), .q yb c.2.1.1 c.2.1.2 ((gt x1 y27).2.1), .i ((gt x1 y27).2.2)]) rfl T54 (fun _ => rfl) rfl fun ch1 a S => s_alloc S Z54 rfl ⟨rfl, rfl, rfl, trivial⟩ rfl fun g1 a w S => s_assign S rfl rfl fun a S => s_store S rfl rfl rfl (s' := [.b ((gt x1 y27).1), .q yb ch1.2.1.1 ch1.2.1.2 ((gt x1 y27).2.1), .i ((gt x1 y27).2.2)]) .h T54 rfl rfl fun w S => c_end (wp_seq_k fun K4 hK4 => ?_)
     have j4 : ∀ m g11 nn8 y42 A3 cp11 a w, St 101 m b0 [(4, (.i y27)), (5, (.p g11)), (3, (.s A1 nn8 cp1)), (22, (.i y27)), (21, (.i ((x1).length : Int))), (20, (.q Y54 ch_0_0 ch_0_1 x1)), (0, (.q Y54 ch_0_0 ch_0_1 x1))] [Res.cells g11 54 [.b ((gt x1 y27).1), .q yb A3 cp11 ((gt x1 y27).2.1), .i ((gt x1 y27).2.2)], Res.row yi 3 A1 nn8 cp1 y42] a w → rlp_one.j4 x1 y27 (rlp_one.l1 k x1 q1) y42 = some r → K4 a w := by
      intro m g11 nn8 y42 A3 cp11 a w S h0
      delta rlp_one.j4 at h0
      refine hK4 a w (wp_seq (wp_seq_k fun K5 hK5 => ?_))
      have j5 : ∀ m y43 g12 a w, St 101 m b0 [(77, (.b y43)), (4, (.i y27)), (5, (.p g12)), (3, (.s A1 nn8 cp1)), (22, (.i y27)), (21, (.i ((x1).length : Int))), (20, (.q Y54 ch_0_0 ch_0_1 x1)), (0, (.q Y54 ch_0_0 ch_0_1 x1))] [Res.cells g12 54 [.b ((gt x1 y27).1), .q yb A3 cp11 ((gt x1 y27).2.1), .i ((gt x1 y27).2.2)], Res.row yi 3 A1 nn8 cp1 y42] a w → rlp_one.j5 x1 y27 (rlp_one.l1 k x1 q1) y42 y43 = some r → K5 a w := by
       intro m y43 g12 a w S h0
       delta rlp_one.j5 at h0
       refine hK5 a w ?_
       rcases ite_of h0 with ⟨c4, h1⟩ | ⟨c4, h1⟩
       ·refine c_condT S rfl c4 (c_region (s_assign S rfl rfl fun a S => c_end (wp_ret (x_thenR (x_blockR (x_thenR (x_thenR (x_blockR (x_thenR ?_)))))))))
        obtain rfl := Option.some.inj h1
        exact b_ret1 (d := (.b false)) S rfl rfl (S.rt hb)
       ·refine c_condF S rfl c4 (wp_skip (x_thenN (c_region (s_move S rfl rfl fun a S => s_bin S rfl rfl rfl rfl fun a S => s_fieldAddr S rfl I54_2 T3 (by decide) rfl rfl fun a S => s_load1 S rfl .h T3 (v := (.int .i64 ((gt x1 y27).2.2))) rfl rfl fun a S => s_bin S rfl rfl rfl rfl fun a S => s_assign S rfl rfl fun a S => c_end (wp_seq (wp_seq_k fun K6 hK6 => ?_))))))
        have j6 : ∀ m y44 a w, St 101 m b0 [(95, (.b y44)), (6, (.i (wr .i64 ((wr .i64 (y27 + 1)) + ((gt x1 y27).2.2))))), (3, (.s A1 nn8 cp1)), (22, (.i y27)), (21, (.i ((x1).length : Int))), (20, (.q Y54 ch_0_0 ch_0_1 x1)), (0, (.q Y54 ch_0_0 ch_0_1 x1))] [Res.row yi 3 A1 nn8 cp1 y42] a w → rlp_one.j6 x1 y27 (rlp_one.l1 k x1 q1) y42 y44 = some r → K6 a w := by
         intro m y44 a w S h0
         delta rlp_one.j6 at h0
         refine hK6 a w ?_
         rcases ite_of h0 with ⟨c5, h1⟩ | ⟨c5, h1⟩
         ·refine c_condT S rfl c5 (c_region (s_assign S rfl rfl fun a S => c_end (wp_ret (x_thenR (x_blockR (x_thenR (x_thenR (x_blockR (x_thenR ?_)))))))))
          obtain rfl := Option.some.inj h1
          exact b_ret1 (d := (.b false)) S rfl rfl (S.rt hb)
         ·refine c_condF S rfl c5 (wp_skip (x_thenN (c_region' (s_move S rfl rfl fun a S => s_move S rfl rfl fun a S => s_bldSl S (ty' := yi) (ds := [(0, (.i (wr .i64 ((wr .i64 (y27 + 1)) + ((gt x1 y27).2.2)))))]) (z := 0) (c0 := ()) (ys := [wr .i64 ((wr .i64 (y27 + 1)) + ((gt x1 y27).2.2))]) (cs := [()]) rfl underlying88 J3 Z3 rfl ⟨rfl, trivial⟩ rfl rfl rfl rfl rfl rfl fun g14 a w S => ?_))))
          obtain ⟨c6, h2⟩ := chk_of h1; clear h1
          refine s_app S (k2 := 1) (ys := [wr .i64 ((wr .i64 (y27 + 1)) + ((gt x1 y27).2.2))]) rfl (fun _ _ => .h1) rfl rfl (S.holds _ (Pull.mem .h).1).1 (Res.row.src (S.holds _ (Pull.mem .h).1)) underlying88 J3 c6 rfl fun A4 cp12 a w S => s_assign S rfl rfl fun a S => c_end' (x_blockN (x_thenN ?_))
          exact j3 _ A4 (nn8 + 1) cp12 (y42 ++ [wr .i64 ((wr .i64 (y27 + 1)) + ((gt x1 y27).2.2))]) a w (S.sb rfl (.c1 .n)) h2
        refine c_region' (s_move S rfl rfl fun a S => s_lenO S rfl .h1 underlying88 rfl fun a S => s_bin S rfl rfl rfl rfl fun a S => s_move S rfl rfl fun a S => ?_)
        rcases ite_of h1 with ⟨c7, h2⟩ | ⟨c7, h2⟩
        ·refine s_gT S (b := (decide (0 < ((y42).length : Int)))) rfl rfl c7 (s_move S rfl rfl fun a S => s_gT S (b := (decide (0 < ((y42).length : Int)))) rfl rfl c7 (s_move S rfl rfl fun a S => s_gT S (b := (decide (0 < ((y42).length : Int)))) rfl rfl c7 (s_move S rfl rfl fun a S => s_gT S (b := (decide (0 < ((y42).length : Int)))) rfl rfl c7 (s_lenO S rfl .h1 underlying88 rfl fun a S => s_gT S (b := (decide (0 < ((y42).length : Int)))) rfl rfl c7 (s_bin S rfl rfl rfl rfl fun a S => s_gT S (b := (decide (0 < ((y42).length : Int)))) rfl rfl c7 ?_)))))
         obtain ⟨c8, h3⟩ := chk_of h2; clear h2
         refine s_iaddrO S (ty' := yi) rfl .h1 rfl underlying88 T3 c8.1 c8.2 rfl fun g15 a hA1 S => s_gT S (b := (decide (0 < ((y42).length : Int)))) rfl rfl c7 (s_ldR1 S (ty' := yi) (i := (wr .i64 (((y42).length : Int) - 1))) (off := 0) (v := (.int .i64 (rd y42 (wr .i64 (((y42).length : Int) - 1))))) rfl hA1 .h1 T3 c8.1 c8.2 rfl (fun _ => rfl) rfl fun a S => s_gT S (b := (decide (0 < ((y42).length : Int)))) rfl rfl c7 (s_bin S rfl rfl rfl rfl fun a S => s_pick S (b := true) (hc_of rfl c7) rfl rfl fun a S => c_end' (x_thenN ?_)))
         exact j6 _ (decide ((rd y42 (wr .i64 (((y42).length : Int) - 1))) < (wr .i64 ((wr .i64 (y27 + 1)) + ((gt x1 y27).2.2))))) a w (S.sb rfl (.c1 .n)) h3
        ·refine s_gF S (b := (decide (0 < ((y42).length : Int)))) rfl rfl c7 rfl fun a S => s_gF S (b := (decide (0 < ((y42).length : Int)))) rfl rfl c7 rfl fun a S => s_gF S (b := (decide (0 < ((y42).length : Int)))) rfl rfl c7 rfl fun a S => s_gF S (b := (decide (0 < ((y42).length : Int)))) rfl rfl c7 rfl fun a S => s_gF S (b := (decide (0 < ((y42).length : Int)))) rfl rfl c7 rfl fun a S => s_gF S (b := (decide (0 < ((y42).length : Int)))) rfl rfl c7 rfl fun a S => s_gF S (b := (decide (0 < ((y42).length : Int)))) rfl rfl c7 rfl fun a S => s_gF S (b := (decide (0 < ((y42).length : Int)))) rfl rfl c7 rfl fun a S => s_pick S (b := false) (hc_of rfl c7) rfl rfl fun a S => c_end' (x_thenN ?_)
         exact j6 _ false a w (S.sb rfl (.c1 .n)) h2
      refine c_region' (s_fieldAddr S rfl I54_0 T4 (by decide) rfl rfl fun a S => s_load1 S rfl .h T4 (v := (.bool ((gt x1 y27).1))) rfl rfl fun a S => s_not S rfl rfl fun a S => s_move S rfl rfl fun a S => ?_)
      rcases ite_of h0 with ⟨c9, h1⟩ | ⟨c9, h1⟩
      ·refine s_gT S (b := (!((gt x1 y27).1))) rfl rfl c9 (s_fieldAddr S rfl I54_2 T3 (by decide) rfl rfl fun a S => s_gT S (b := (!((gt x1 y27).1))) rfl rfl c9 (s_load1 S rfl .h T3 (v := (.int .i64 ((gt x1 y27).2.2))) rfl rfl fun a S => s_gT S (b := (!((gt x1 y27).1))) rfl rfl c9 (s_bin S rfl rfl rfl rfl fun a S => s_pick S (b := true) (hc_of rfl c9) rfl rfl fun a S => s_move S rfl rfl fun a S => ?_)))
       rcases ite_of h1 with ⟨c10, h2⟩ | ⟨c10, h2⟩
       ·refine s_gF S (b := (((gt x1 y27).2.2) != 0)) rfl rfl c10 rfl fun a S => s_gF S (b := (((gt x1 y27).2.2) != 0)) rfl rfl c10 rfl fun a S => s_gF S (b := (((gt x1 y27).2.2) != 0)) rfl rfl c10 rfl fun a S => s_gU S rfl rfl rfl fun a S => s_gU S rfl rfl rfl fun a S => s_gU S rfl rfl rfl fun a S => s_gU S rfl rfl rfl fun a S => s_gF S (b := (((gt x1 y27).2.2) != 0)) rfl rfl c10 rfl fun a S => s_pick S (b := true) (hc_of rfl c10) rfl rfl fun a S => s_move S rfl rfl fun a S => s_gF S (b := true) rfl rfl rfl rfl fun a S => s_gF S (b := true) rfl rfl rfl rfl fun a S => s_gF S (b := true) rfl rfl rfl rfl fun a S => s_pick S (b := true) (hc_of rfl rfl) rfl rfl fun a S => s_move S rfl rfl fun a S => s_gF S (b := true) rfl rfl rfl rfl fun a S => s_gF S (b := true) rfl rfl rfl rfl fun a S => s_gF S (b := true) rfl rfl rfl rfl fun a S => s_gF S (b := true) rfl rfl rfl rfl fun a S => s_gF S (b := true) rfl rfl rfl rfl fun a S => s_gF S (b := true) rfl rfl rfl rfl fun a S => s_gF S (b := true) rfl rfl rfl rfl fun a S => s_gF S (b := true) rfl rfl rfl rfl fun a S => s_pick S (b := true) (hc_of rfl rfl) rfl rfl fun a S => c_end' (x_thenN ?_)
        exact j5 _ true g11 a w (S.sb rfl (.c0 (.c0 .n))) h2
       ·refine s_gT S (b := (((gt x1 y27).2.2) != 0)) rfl rfl c10 (s_fieldAddr S rfl I54_0 T4 (by decide) rfl rfl fun a S => s_gT S (b := (((gt x1 y27).2.2) != 0)) rfl rfl c10 (s_load1 S rfl .h T4 (v := (.bool ((gt x1 y27).1))) rfl rfl fun a S => s_gT S (b := (((gt x1 y27).2.2) != 0)) rfl rfl c10 (s_move S rfl rfl fun a S => ?_)))
        rcases ite_of h2 with ⟨c11, h3⟩ | ⟨c11, h3⟩
        ·refine s_gT S (b := ((gt x1 y27).1)) rfl rfl c11 (s_fieldAddr S rfl I54_1 T37 (by decide) rfl rfl fun a S => s_gT S (b := ((gt x1 y27).1)) rfl rfl c11 (s_loadSl S rfl .h T37 (A := A3) (len := ((gt x1 y27).2.1).length) (cap := cp11) rfl rfl fun a S => s_gT S (b := ((gt x1 y27).1)) rfl rfl c11 (s_lenS S rfl underlying37 rfl fun a S => s_gT S (b := ((gt x1 y27).1)) rfl rfl c11 (s_bin S rfl rfl rfl rfl fun a S => s_gT S (b := (((gt x1 y27).2.2) != 0)) rfl rfl c10 (s_pick S (b := true) (hc_of rfl c11) rfl rfl fun a S => s_pick S (b := false) (hc_of rfl c10) rfl rfl fun a S => s_move S rfl rfl fun a S => ?_)))))
         rcases ite_of h3 with ⟨c12, h4⟩ | ⟨c12, h4⟩
         ·refine s_gF S (b := (decide (0 < (((gt x1 y27).2.1).length : Int)))) rfl rfl c12 rfl fun a S => s_gF S (b := (decide (0 < (((gt x1 y27).2.1).length : Int)))) rfl rfl c12 rfl fun a S => s_gF S (b := (decide (0 < (((gt x1 y27).2.1).length : Int)))) rfl rfl c12 rfl fun a S => s_pick S (b := true) (hc_of rfl c12) rfl rfl fun a S => s_move S rfl rfl fun a S => s_gF S (b := true) rfl rfl rfl rfl fun a S => s_gF S (b := true) rfl rfl rfl rfl fun a S => s_gF S (b := true) rfl rfl rfl rfl fun a S => s_gF S (b := true) rfl rfl rfl rfl fun a S => s_gF S (b := true) rfl rfl rfl rfl fun a S => s_gF S (b := true) rfl rfl rfl rfl fun a S => s_gF S (b := true) rfl rfl rfl rfl fun a S => s_gF S (b := true) rfl rfl rfl rfl fun a S => s_pick S (b := true) (hc_of rfl rfl) rfl rfl fun a S => c_end' (x_thenN ?_)
          exact j5 _ true g11 a w (S.sb rfl (.c0 (.c0 .n))) h4
         ·refine s_gT S (b := (decide (0 < (((gt x1 y27).2.1).length : Int)))) rfl rfl c12 (s_fieldAddr S rfl I54_2 T3 (by decide) rfl rfl fun a S => s_gT S (b := (decide (0 < (((gt x1 y27).2.1).length : Int)))) rfl rfl c12 (s_load1 S rfl .h T3 (v := (.int .i64 ((gt x1 y27).2.2))) rfl rfl fun a S => s_gT S (b := (decide (0 < (((gt x1 y27).2.1).length : Int)))) rfl rfl c12 (s_bin S rfl rfl rfl rfl fun a S => s_pick S (b := false) (hc_of rfl c12) rfl rfl fun a S => s_move S rfl rfl fun a S => ?_)))
          rcases ite_of h4 with ⟨c13, h5⟩ | ⟨c13, h5⟩
          ·refine s_gF S (b := (decide (((gt x1 y27).2.2) < 0))) rfl rfl c13 rfl fun a S => s_gF S (b := (decide (((gt x1 y27).2.2) < 0))) rfl rfl c13 rfl fun a S => s_gF S (b := (decide (((gt x1 y27).2.2) < 0))) rfl rfl c13 rfl fun a S => s_gF S (b := (decide (((gt x1 y27).2.2) < 0))) rfl rfl c13 rfl fun a S => s_gF S (b := (decide (((gt x1 y27).2.2) < 0))) rfl rfl c13 rfl fun a S => s_gF S (b := (decide (((gt x1 y27).2.2) < 0))) rfl rfl c13 rfl fun a S => s_gF S (b := (decide (((gt x1 y27).2.2) < 0))) rfl rfl c13 rfl fun a S => s_gF S (b := (decide (((gt x1 y27).2.2) < 0))) rfl rfl c13 rfl fun a S => s_pick S (b := true) (hc_of rfl c13) rfl rfl fun a S => c_end' (x_thenN ?_)
           exact j5 _ true g11 a w (S.sb rfl (.c0 (.c0 .n))) h5
          ·refine s_gT S (b := (decide (((gt x1 y27).2.2) < 0))) rfl rfl c13 (s_fieldAddr S rfl I54_2 T3 (by decide) rfl rfl fun a S => s_gT S (b := (decide (((gt x1 y27).2.2) < 0))) rfl rfl c13 (s_load1 S rfl .h T3 (v := (.int .i64 ((gt x1 y27).2.2))) rfl rfl fun a S => s_gT S (b := (decide (((gt x1 y27).2.2) < 0))) rfl rfl c13 (s_move S rfl rfl fun a S => s_gT S (b := (decide (((gt x1 y27).2.2) < 0))) rfl rfl c13 (s_lenS S rfl underlying51 rfl fun a S => s_gT S (b := (decide (((gt x1 y27).2.2) < 0))) rfl rfl c13 (s_bin S rfl rfl rfl rfl fun a S => s_gT S (b := (decide (((gt x1 y27).2.2) < 0))) rfl rfl c13 (s_move S rfl rfl fun a S => s_gT S (b := (decide (((gt x1 y27).2.2) < 0))) rfl rfl c13 (s_bin S rfl rfl rfl rfl fun a S => s_gT S (b := (decide (((gt x1 y27).2.2) < 0))) rfl rfl c13 (s_bin S rfl rfl rfl rfl fun a S => s_pick S (b := false) (hc_of rfl c13) rfl rfl fun a S => c_end' (x_thenN ?_)))))))))
           exact j5 _ (decide ((wr .i64 ((wr .i64 (((x1).length : Int) - 1)) - y27)) < ((gt x1 y27).2.2))) g11 a w (S.sb rfl (.c0 (.c0 .n))) h5
        ·refine s_gF S (b := ((gt x1 y27).1)) rfl rfl c11 rfl fun a S => s_gF S (b := ((gt x1 y27).1)) rfl rfl c11 rfl fun a S => s_gF S (b := ((gt x1 y27).1)) rfl rfl c11 rfl fun a S => s_gF S (b := ((gt x1 y27).1)) rfl rfl c11 rfl fun a S => s_gT S (b := (((gt x1 y27).2.2) != 0)) rfl rfl c10 (s_pick S (b := false) (hc_of rfl c11) rfl rfl fun a S => s_pick S (b := false) (hc_of rfl c10) rfl rfl fun a S => s_move S rfl rfl fun a S => s_gT S (b := false) rfl rfl rfl (s_fieldAddr S rfl I54_2 T3 (by decide) rfl rfl fun a S => s_gT S (b := false) rfl rfl rfl (s_load1 S rfl .h T3 (v := (.int .i64 ((gt x1 y27).2.2))) rfl rfl fun a S => s_gT S (b := false) rfl rfl rfl (s_bin S rfl rfl rfl rfl fun a S => s_pick S (b := false) (hc_of rfl rfl) rfl rfl fun a S => s_move S rfl rfl fun a S => ?_))))
         rcases ite_of h3 with ⟨c14, h4⟩ | ⟨c14, h4⟩
         ·refine s_gF S (b := (decide (((gt x1 y27).2.2) < 0))) rfl rfl c14 rfl fun a S => s_gF S (b := (decide (((gt x1 y27).2.2) < 0))) rfl rfl c14 rfl fun a S => s_gF S (b := (decide (((gt x1 y27).2.2) < 0))) rfl rfl c14 rfl fun a S => s_gF S (b := (decide (((gt x1 y27).2.2) < 0))) rfl rfl c14 rfl fun a S => s_gF S (b := (decide (((gt x1 y27).2.2) < 0))) rfl rfl c14 rfl fun a S => s_gF S (b := (decide (((gt x1 y27).2.2) < 0))) rfl rfl c14 rfl fun a S => s_gF S (b := (decide (((gt x1 y27).2.2) < 0))) rfl rfl c14 rfl fun a S => s_gF S (b := (decide (((gt x1 y27).2.2) < 0))) rfl rfl c14 rfl fun a S => s_pick S (b := true) (hc_of rfl c14) rfl rfl fun a S => c_end' (x_thenN ?_)
          exact j5 _ true g11 a w (S.sb rfl (.c0 (.c0 .n))) h4
         ·refine s_gT S (b := (decide (((gt x1 y27).2.2) < 0))) rfl rfl c14 (s_fieldAddr S rfl I54_2 T3 (by decide) rfl rfl fun a S => s_gT S (b := (decide (((gt x1 y27).2.2) < 0))) rfl rfl c14 (s_load1 S rfl .h T3 (v := (.int .i64 ((gt x1 y27).2.2))) rfl rfl fun a S => s_gT S (b := (decide (((gt x1 y27).2.2) < 0))) rfl rfl c14 (s_move S rfl rfl fun a S => s_gT S (b := (decide (((gt x1 y27).2.2) < 0))) rfl rfl c14 (s_lenS S rfl underlying51 rfl fun a S => s_gT S (b := (decide (((gt x1 y27).2.2) < 0))) rfl rfl c14 (s_bin S rfl rfl rfl rfl fun a S => s_gT S (b := (decide (((gt x1 y27).2.2) < 0))) rfl rfl c14 (s_move S rfl rfl fun a S => s_gT S (b := (decide (((gt x1 y27).2.2) < 0))) rfl rfl c14 (s_bin S rfl rfl rfl rfl fun a S => s_gT S (b := (decide (((gt x1 y27).2.2) < 0))) rfl rfl c14 (s_bin S rfl rfl rfl rfl fun a S => s_pick S (b := false) (hc_of rfl c14) rfl rfl fun a S => c_end' (x_thenN ?_)))))))))
          exact j5 _ (decide ((wr .i64 ((wr .i64 (((x1).length : Int) - 1)) - y27)) < ((gt x1 y27).2.2))) g11 a w (S.sb rfl (.c0 (.c0 .n))) h4
      ·refine s_gF S (b := (!((gt x1 y27).1))) rfl rfl c9 rfl fun a S => s_gF S (b := (!((gt x1 y27).1))) rfl rfl c9 rfl fun a S => s_gF S (b := (!((gt x1 y27).1))) rfl rfl c9 rfl fun a S => s_pick S (b := false) (hc_of rfl c9) rfl rfl fun a S => s_move S rfl rfl fun a S => s_gT S (b := false) rfl rfl rfl (s_fieldAddr S rfl I54_0 T4 (by decide) rfl rfl fun a S => s_gT S (b := false) rfl rfl rfl (s_load1 S rfl .h T4 (v := (.bool ((gt x1 y27).1))) rfl rfl fun a S => s_gT S (b := false) rfl rfl rfl (s_move S rfl rfl fun a S => ?_)))
       rcases ite_of h1 with ⟨c15, h2⟩ | ⟨c15, h2⟩
       ·refine s_gT S (b := ((gt x1 y27).1)) rfl rfl c15 (s_fieldAddr S rfl I54_1 T37 (by decide) rfl rfl fun a S => s_gT S (b := ((gt x1 y27).1)) rfl rfl c15 (s_loadSl S rfl .h T37 (A := A3) (len := ((gt x1 y27).2.1).length) (cap := cp11) rfl rfl fun a S => s_gT S (b := ((gt x1 y27).1)) rfl rfl c15 (s_lenS S rfl underlying37 rfl fun a S => s_gT S (b := ((gt x1 y27).1)) rfl rfl c15 (s_bin S rfl rfl rfl rfl fun a S => s_gT S (b := false) rfl rfl rfl (s_pick S (b := true) (hc_of rfl c15) rfl rfl fun a S => s_pick S (b := false) (hc_of rfl rfl) rfl rfl fun a S => s_move S rfl rfl fun a S => ?_)))))
        rcases ite_of h2 with ⟨c16, h3⟩ | ⟨c16, h3⟩
        ·refine s_gF S (b := (decide (0 < (((gt x1 y27).2.1).length : Int)))) rfl rfl c16 rfl fun a S => s_gF S (b := (decide (0 < (((gt x1 y27).2.1).length : Int)))) rfl rfl c16 rfl fun a S => s_gF S (b := (decide (0 < (((gt x1 y27).2.1).length : Int)))) rfl rfl c16 rfl fun a S => s_pick S (b := true) (hc_of rfl c16) rfl rfl fun a S => s_move S rfl rfl fun a S => s_gF S (b := true) rfl rfl rfl rfl fun a S => s_gF S (b := true) rfl rfl rfl rfl fun a S => s_gF S (b := true) rfl rfl rfl rfl fun a S => s_gF S (b := true) rfl rfl rfl rfl fun a S => s_gF S (b := true) rfl rfl rfl rfl fun a S => s_gF S (b := true) rfl rfl rfl rfl fun a S => s_gF S (b := true) rfl rfl rfl rfl fun a S => s_gF S (b := true) rfl rfl rfl rfl fun a S => s_pick S (b := true) (hc_of rfl rfl) rfl rfl fun a S => c_end' (x_thenN ?_)
         exact j5 _ true g11 a w (S.sb rfl (.c0 (.c0 .n))) h3
        ·refine s_gT S (b := (decide (0 < (((gt x1 y27).2.1).length : Int)))) rfl rfl c16 (s_fieldAddr S rfl I54_2 T3 (by decide) rfl rfl fun a S => s_gT S (b := (decide (0 < (((gt x1 y27).2.1).length : Int)))) rfl rfl c16 (s_load1 S rfl .h T3 (v := (.int .i64 ((gt x1 y27).2.2))) rfl rfl fun a S => s_gT S (b := (decide (0 < (((gt x1 y27).2.1).length : Int)))) rfl rfl c16 (s_bin S rfl rfl rfl rfl fun a S => s_pick S (b := false) (hc_of rfl c16) rfl rfl fun a S => s_move S rfl rfl fun a S => ?_)))
         rcases ite_of h3 with ⟨c17, h4⟩ | ⟨c17, h4⟩
         ·refine s_gF S (b := (decide (((gt x1 y27).2.2) < 0))) rfl rfl c17 rfl fun a S => s_gF S (b := (decide (((gt x1 y27).2.2) < 0))) rfl rfl c17 rfl fun a S => s_gF S (b := (decide (((gt x1 y27).2.2) < 0))) rfl rfl c17 rfl fun a S => s_gF S (b := (decide (((gt x1 y27).2.2) < 0))) rfl rfl c17 rfl fun a S => s_gF S (b := (decide (((gt x1 y27).2.2) < 0))) rfl rfl c17 rfl fun a S => s_gF S (b := (decide (((gt x1 y27).2.2) < 0))) rfl rfl c17 rfl fun a S => s_gF S (b := (decide (((gt x1 y27).2.2) < 0))) rfl rfl c17 rfl fun a S => s_gF S (b := (decide (((gt x1 y27).2.2) < 0))) rfl rfl c17 rfl fun a S => s_pick S (b := true) (hc_of rfl c17) rfl rfl fun a S => c_end' (x_thenN ?_)
          exact j5 _ true g11 a w (S.sb rfl (.c0 (.c0 .n))) h4
         ·refine s_gT S (b := (decide (((gt x1 y27).2.2) < 0))) rfl rfl c17 (s_fieldAddr S rfl I54_2 T3 (by decide) rfl rfl fun a S => s_gT S (b := (decide (((gt x1 y27).2.2) < 0))) rfl rfl c17 (s_load1 S rfl .h T3 (v := (.int .i64 ((gt x1 y27).2.2))) rfl rfl fun a S => s_gT S (b := (decide (((gt x1 y27).2.2) < 0))) rfl rfl c17 (s_move S rfl rfl fun a S => s_gT S (b := (decide (((gt x1 y27).2.2) < 0))) rfl rfl c17 (s_lenS S rfl underlying51 rfl fun a S => s_gT S (b := (decide (((gt x1 y27).2.2) < 0))) rfl rfl c17 (s_bin S rfl rfl rfl rfl fun a S => s_gT S (b := (decide (((gt x1 y27).2.2) < 0))) rfl rfl c17 (s_move S rfl rfl fun a S => s_gT S (b := (decide (((gt x1 y27).2.2) < 0))) rfl rfl c17 (s_bin S rfl rfl rfl rfl fun a S => s_gT S (b := (decide (((gt x1 y27).2.2) < 0))) rfl rfl c17 (s_bin S rfl rfl rfl rfl fun a S => s_pick S (b := false) (hc_of rfl c17) rfl rfl fun a S => c_end' (x_thenN ?_)))))))))
          exact j5 _ (decide ((wr .i64 ((wr .i64 (((x1).length : Int) - 1)) - y27)) < ((gt x1 y27).2.2))) g11 a w (S.sb rfl (.c0 (.c0 .n))) h4
       ·refine s_gF S (b := ((gt x1 y27).1)) rfl rfl c15 rfl fun a S => s_gF S (b := ((gt x1 y27).1)) rfl rfl c15 rfl fun a S => s_gF S (b := ((gt x1 y27).1)) rfl rfl c15 rfl fun a S => s_gF S (b := ((gt x1 y27).1)) rfl rfl c15 rfl fun a S => s_gT S (b := false) rfl rfl rfl (s_pick S (b := false) (hc_of rfl c15) rfl rfl fun a S => s_pick S (b := false) (hc_of rfl rfl) rfl rfl fun a S => s_move S rfl rfl fun a S => s_gT S (b := false) rfl rfl rfl (s_fieldAddr S rfl I54_2 T3 (by decide) rfl rfl fun a S => s_gT S (b := false) rfl rfl rfl (s_load1 S rfl .h T3 (v := (.int .i64 ((gt x1 y27).2.2))) rfl rfl fun a S => s_gT S (b := false) rfl rfl rfl (s_bin S rfl rfl rfl rfl fun a S => s_pick S (b := false) (hc_of rfl rfl) rfl rfl fun a S => s_move S rfl rfl fun a S => ?_))))
        rcases ite_of h2 with ⟨c18, h3⟩ | ⟨c18, h3⟩
        ·refine s_gF S (b := (decide (((gt x1 y27).2.2) < 0))) rfl rfl c18 rfl fun a S => s_gF S (b := (decide (((gt x1 y27).2.2) < 0))) rfl rfl c18 rfl fun a S => s_gF S (b := (decide (((gt x1 y27).2.2) < 0))) rfl rfl c18 rfl fun a S => s_gF S (b := (decide (((gt x1 y27).2.2) < 0))) rfl rfl c18 rfl fun a S => s_gF S (b := (decide (((gt x1 y27).2.2) < 0))) rfl rfl c18 rfl fun a S => s_gF S (b := (decide (((gt x1 y27).2.2) < 0))) rfl rfl c18 rfl fun a S => s_gF S (b := (decide (((gt x1 y27).2.2) < 0))) rfl rfl c18 rfl fun a S => s_gF S (b := (decide (((gt x1 y27).2.2) < 0))) rfl rfl c18 rfl fun a S => s_pick S (b := true) (hc_of rfl c18) rfl rfl fun a S => c_end' (x_thenN ?_)
         exact j5 _ true g11 a w (S.sb rfl (.c0 (.c0 .n))) h3
        ·refine s_gT S (b := (decide (((gt x1 y27).2.2) < 0))) rfl rfl c18 (s_fieldAddr S rfl I54_2 T3 (by decide) rfl rfl fun a S => s_gT S (b := (decide (((gt x1 y27).2.2) < 0))) rfl rfl c18 (s_load1 S rfl .h T3 (v := (.int .i64 ((gt x1 y27).2.2))) rfl rfl fun a S => s_gT S (b := (decide (((gt x1 y27).2.2) < 0))) rfl rfl c18 (s_move S rfl rfl fun a S => s_gT S (b := (decide (((gt x1 y27).2.2) < 0))) rfl rfl c18 (s_lenS S rfl underlying51 rfl fun a S => s_gT S (b := (decide (((gt x1 y27).2.2) < 0))) rfl rfl c18 (s_bin S rfl rfl rfl rfl fun a S => s_gT S (b := (decide (((gt x1 y27).2.2) < 0))) rfl rfl c18 (s_move S rfl rfl fun a S => s_gT S (b := (decide (((gt x1 y27).2.2) < 0))) rfl rfl c18 (s_bin S rfl rfl rfl rfl fun a S => s_gT S (b := (decide (((gt x1 y27).2.2) < 0))) rfl rfl c18 (s_bin S rfl rfl rfl rfl fun a S => s_pick S (b := false) (hc_of rfl c18) rfl rfl fun a S => c_end' (x_thenN ?_)))))))))
         exact j5 _ (decide ((wr .i64 ((wr .i64 (((x1).length : Int) - 1)) - y27)) < ((gt x1 y27).2.2))) g11 a w (S.sb rfl (.c0 (.c0 .n))) h3
     refine wp_block ?_
     refine c_loop (fun q2 a w => ∃ m g22 nn10 y48 A5 cp15, St 101 m b0 [(4, (.i y27)), (5, (.p g22)), (3, (.s A1 nn10 cp1)), (22, (.i y27)), (21, (.i ((x1).length : Int))), (20, (.q Y54 ch_0_0 ch_0_1 x1)), (0, (.q Y54 ch_0_0 ch_0_1 x1))] [Res.cells g22 54 [.b ((gt x1 y27).1), .q yb A5 cp15 ((gt x1 y27).2.1), .i ((gt x1 y27).2.2)], Res.row yi 3 A1 nn10 cp1 y48] a w ∧ rlp_one.l2 x1 y27 (rlp_one.l1 k x1 q1) q2 y48 = some r) ?_ ?_ (k := k) ⟨_, g1, nn1, y26, ch1.2.1.1, ch1.2.1.2, (S.sb rfl (.c0 (.c0 .n))), h2⟩
     ·rintro a w ⟨m, g22, nn10, y48, A5, cp15, S, h0⟩
      exact (nomatch (show (none : Option Bool) = some r from h0))
     ·clear S h2
      rintro q2 a w ⟨m, g22, nn10, y48, A5, cp15, S, h0⟩
      replace h0 : rlp_one.b2 x1 y27 (rlp_one.l1 k x1 q1) (rlp_one.l2 x1 y27 (rlp_one.l1 k x1 q1) q2) y48 = some r := h0
      delta rlp_one.b2 at h0
      refine wp_seq (wp_seq_k fun K7 hK7 => ?_)
      have j7 : ∀ m y49 g24 a w, St 101 m b0 [(39, (.b y49)), (4, (.i y27)), (5, (.p g24)), (3, (.s A1 nn10 cp1)), (22, (.i y27)), (21, (.i ((x1).length : Int))), (20, (.q Y54 ch_0_0 ch_0_1 x1)), (0, (.q Y54 ch_0_0 ch_0_1 x1))] [Res.cells g24 54 [.b ((gt x1 y27).1), .q yb A5 cp15 ((gt x1 y27).2.1), .i ((gt x1 y27).2.2)], Res.row yi 3 A1 nn10 cp1 y48] a w → rlp_one.j7 x1 y27 (rlp_one.l1 k x1 q1) y48 (rlp_one.l2 x1 y27 (rlp_one.l1 k x1 q1) q2) y49 = some r → K7 a w := by
       intro m y49 g24 a w S h0
       delta rlp_one.j7 at h0
       refine hK7 a w ?_
       rcases ite_of h0 with ⟨c19, h1⟩ | ⟨c19, h1⟩
       ·refine c_condT S rfl c19 (wp_skip (x_thenN (wp_block (c_region' (s_move S rfl rfl fun a S => s_move S rfl rfl fun a S => s_lenO S rfl .h1 underlying88 rfl fun a S => s_bin S rfl rfl rfl rfl fun a S => ?_)))))
        obtain ⟨c20, h2⟩ := chk_of h1; clear h1
        refine s_cutO S (j := (wr .i64 (((y48).length : Int) - 1))) rfl .h1 underlying88 T3 (.inl rfl) rfl c20.1 c20.2 rfl fun a S => s_assign S rfl rfl fun a S => c_end' (x_blockN (x_thenN ?_))
        exact ⟨_, g24, (Int.toNat (wr .i64 (((y48).length : Int) - 1))), (y48.take (Int.toNat (wr .i64 (((y48).length : Int) - 1)))), A5, cp15, (S.sb rfl (.c0 (.c0 .n))), h2⟩
       ·refine c_condF S rfl c19 (wp_exit (x_thenX (x_thenX (x_blockX (x_thenN ?_)))))
        exact j4 _ g24 nn10 y48 A5 cp15 a w (S.sb rfl (.c0 (.c0 .n))) h1
      refine c_region' (s_move S rfl rfl fun a S => s_lenO S rfl .h1 underlying88 rfl fun a S => s_bin S rfl rfl rfl rfl fun a S => s_move S rfl rfl fun a S => ?_)
      rcases ite_of h0 with ⟨c21, h1⟩ | ⟨c21, h1⟩
      ·refine s_gT S (b := (decide (0 < ((y48).length : Int)))) rfl rfl c21 (s_move S rfl rfl fun a S => s_gT S (b := (decide (0 < ((y48).length : Int)))) rfl rfl c21 (s_move S rfl rfl fun a S => s_gT S (b := (decide (0 < ((y48).length : Int)))) rfl rfl c21 (s_lenO S rfl .h1 underlying88 rfl fun a S => s_gT S (b := (decide (0 < ((y48).length : Int)))) rfl rfl c21 (s_bin S rfl rfl rfl rfl fun a S => s_gT S (b := (decide (0 < ((y48).length : Int)))) rfl rfl c21 ?_))))
       obtain ⟨c22, h2⟩ := chk_of h1; clear h1
       refine s_iaddrO S (ty' := yi) rfl .h1 rfl underlying88 T3 c22.1 c22.2 rfl fun g25 a hA2 S => s_gT S (b := (decide (0 < ((y48).length : Int)))) rfl rfl c21 (s_ldR1 S (ty' := yi) (i := (wr .i64 (((y48).length : Int) - 1))) (off := 0) (v := (.int .i64 (rd y48 (wr .i64 (((y48).length : Int) - 1))))) rfl hA2 .h1 T3 c22.1 c22.2 rfl (fun _ => rfl) rfl fun a S => s_gT S (b := (decide (0 < ((y48).length : Int)))) rfl rfl c21 (s_move S rfl rfl fun a S => s_gT S (b := (decide (0 < ((y48).length : Int)))) rfl rfl c21 (s_bin S rfl rfl rfl rfl fun a S => s_pick S (b := true) (hc_of rfl c21) rfl rfl fun a S => c_end' (x_thenN ?_))))
       exact j7 _ ((rd y48 (wr .i64 (((y48).length : Int) - 1))) == y27) g22 a w (S.sb rfl (.c0 (.c0 .n))) h2
      ·refine s_gF S (b := (decide (0 < ((y48).length : Int)))) rfl rfl c21 rfl fun a S => s_gF S (b := (decide (0 < ((y48).length : Int)))) rfl rfl c21 rfl fun a S => s_gF S (b := (decide (0 < ((y48).length : Int)))) rfl rfl c21 rfl fun a S => s_gF S (b := (decide (0 < ((y48).length : Int)))) rfl rfl c21 rfl fun a S => s_gF S (b := (decide (0 < ((y48).length : Int)))) rfl rfl c21 rfl fun a S => s_gF S (b := (decide (0 < ((y48).length : Int)))) rfl rfl c21 rfl fun a S => s_gF S (b := (decide (0 < ((y48).length : Int)))) rfl rfl c21 rfl fun a S => s_gF S (b := (decide (0 < ((y48).length : Int)))) rfl rfl c21 rfl fun a S => s_pick S (b := false) (hc_of rfl c21) rfl rfl fun a S => c_end' (x_thenN ?_)
       exact j7 _ false g22 a w (S.sb rfl (.c0 (.c0 .n))) h1
    ·refine c_condF S rfl c2 (wp_exit (x_thenX (x_thenX (x_blockX (x_thenN ?_)))))
     exact j2 _ a w (S.sub trivial .nil) h1
 refine c_region' (s_move S rfl rfl fun a S => s_lenS S rfl underlying51 rfl fun a S => s_bin S rfl rfl rfl rfl fun a S => s_move S rfl rfl fun a S => ?_)
 rcases ite_of h0 with ⟨c23, h1⟩ | ⟨c23, h1⟩
 ·refine s_gF S (b := (((x1).length : Int) == 0)) rfl rfl c23 rfl fun a S => s_gF S (b := (((x1).length : Int) == 0)) rfl rfl c23 rfl fun a S => s_gF S (b := (((x1).length : Int) == 0)) rfl rfl c23 rfl fun a S => s_gF S (b := (((x1).length : Int) == 0)) rfl rfl c23 rfl fun a S => s_gF S (b := (((x1).length : Int) == 0)) rfl rfl c23 rfl fun a S => s_gF S (b := (((x1).length : Int) == 0)) rfl rfl c23 rfl fun a S => s_gF S (b := (((x1).length : Int) == 0)) rfl rfl c23 rfl fun a S => s_gF S (b := (((x1).length : Int) == 0)) rfl rfl c23 rfl fun a S => s_pick S (b := true) (hc_of rfl c23) rfl rfl fun a S => c_end' (x_thenN ?_)
  exact j1 _ true a w0 (S.sb rfl .nil) h1
 ·refine s_gT S (b := (((x1).length : Int) == 0)) rfl rfl c23 (s_move S rfl rfl fun a S => s_gT S (b := (((x1).length : Int) == 0)) rfl rfl c23 ?_)
  obtain ⟨c24, h2⟩ := chk_of h1; clear h1
  refine s_iaddrS S rfl rfl rfl underlying51 T54 c24.1 c24.2 rfl fun p2 a S => s_gT S (b := (((x1).length : Int) == 0)) rfl rfl c23 (s_faddrP S (tF := yi) (y := (gt x1 0).2.2) rfl I54_2 T3 (by decide) (fun m h => (at_snd (at_snd (at_0 h)))) rfl fun a S => s_gT S (b := (((x1).length : Int) == 0)) rfl rfl c23 (s_ld1 S (v := (.int .i64 ((gt x1 0).2.2))) rfl T3 (fun _ => rfl) rfl fun a S => s_gT S (b := (((x1).length : Int) == 0)) rfl rfl c23 (s_move S rfl rfl fun a S => s_gT S (b := (((x1).length : Int) == 0)) rfl rfl c23 (s_lenS S rfl underlying51 rfl fun a S => s_gT S (b := (((x1).length : Int) == 0)) rfl rfl c23 (s_bin S rfl rfl rfl rfl fun a S => s_gT S (b := (((x1).length : Int) == 0)) rfl rfl c23 (s_bin S rfl rfl rfl rfl fun a S => s_pick S (b := false) (hc_of rfl c23) rfl rfl fun a S => c_end' (x_thenN ?_)))))))
  exact j1 _ (((gt x1 0).2.2) != (wr .i64 (((x1).length : Int) - 1))) a w0 (S.sb rfl .nil) h2
abbrev rlp_writer_fail.Ty : Type := ((List (Bool × (List Int) × Int)) × Int) → Int → Option ((List Int) × ((List (Bool × (List Int) × Int)) × Int))
def rlp_writer_fail.Ctr (s : rlp_writer_fail.Ty) : Prop := ∀ (x1 : (List (Bool × (List Int) × Int)) × Int) (x2 : Int) (ch_0_0 : Nat) (ch_0_1 : Option Addr) (ch_0_2 : Nat) (r : (List Int) × ((List (Bool × (List Int) × Int)) × Int)), Ct (C := ((Option Addr) × Nat × (Option Addr) × Nat)) Tryd.prog 83 (s x1 x2 = some r) [Res.cells ch_0_0 98 [.q Y54 ch_0_1 ch_0_2 x1.1, .i x1.2]] [(.p ch_0_0), (.i x2)] (fun ch => (.q yb ch.1 ch.2.1 r.1)) fun ch => [Res.cells ch_0_0 98 [.q Y54 ch.2.2.1 ch.2.2.2 r.2.1, .i r.2.2]]
def rlp_writer_fail.j1 (x1 : (List (Bool × (List Int) × Int)) × Int) (y1 : Int) : Option ((List Int) × ((List (Bool × (List Int) × Int)) × Int)) := some (([] : List Int), (x1.1, y1))
def rlp_writer_fail.f (x1 : (List (Bool × (List Int) × Int)) × Int) (x2 : Int) : Option ((List Int) × ((List (Bool × (List Int) × Int)) × Int)) := if (x1.2 == 0) = true then (rlp_writer_fail.j1 x1 x2) else (rlp_writer_fail.j1 x1 x1.2)
theorem rlp_writer_fail.ok : rlp_writer_fail.Ctr (rlp_writer_fail.f) := by
 intro x1 x2 ch_0_0 ch_0_1 ch_0_2 r h0 mi w0 ok hm
 delta rlp_writer_fail.f at h0
 refine c_enterZ (n := 14) ok hm func83 rfl rfl rfl fun b0 hb a S => c_region (s_assign S rfl rfl fun a S => c_end (wp_seq_k fun K1 hK1 => ?_))
 have j1 : ∀ m y1 a w, St 14 m b0 [] [Res.cells ch_0_0 98 [.q Y54 ch_0_1 ch_0_2 x1.1, .i y1]] a w → rlp_writer_fail.j1 x1 y1 = some r → K1 a w := by
  intro m y1 a w S h0
  delta rlp_writer_fail.j1 at h0
  refine hK1 a w (c_region (s_assign S rfl rfl fun a S => c_end (wp_ret ?_)))
  replace S := S.slot (u := 4) (d' := (.q yb none 0 ([] : List Int))) rfl rfl ok_nil
  obtain rfl := Option.some.inj h0
  exact b_ret1 (d := (.q yb none 0 ([] : List Int))) S rfl rfl fun ok => S.retX (Hx := []) hb _ _ ((none, 0, ch_0_1, ch_0_2) : (Option Addr) × Nat × (Option Addr) × Nat) (.c0 .n) ok
 refine c_region (s_move S rfl rfl fun a S => s_nilchk S rfl rfl fun a S => s_fieldAddr S rfl I98_1 T73 (by decide) rfl rfl fun a S => s_load1 S rfl .h T73 (v := (.int .i64 x1.2)) rfl rfl fun a S => s_bin S rfl rfl rfl rfl fun a S => c_end ?_)
 rcases ite_of h0 with ⟨c1, h1⟩ | ⟨c1, h1⟩
 ·refine c_condT S rfl c1 (c_region' (s_move S rfl rfl fun a S => s_move S rfl rfl fun a S => s_nilchk S rfl rfl fun a S => s_fieldAddr S rfl I98_1 T73 (by decide) rfl rfl fun a S => s_store S rfl rfl rfl (s' := [.q Y54 ch_0_1 ch_0_2 x1.1, .i x2]) .h T73 rfl rfl fun w S => c_end' (x_thenN ?_)))
  exact j1 _ x2 a w (S.sub trivial (.c0 .n)) h1
 ·refine c_condF S rfl c1 (wp_skip (x_thenN ?_))
  exact j1 _ x1.2 a w0 (S.sub trivial (.c0 .n)) h1
abbrev rlp_head.Ty : Type := Int → Int → Option ((List Int))
def rlp_head.Ctr (s : rlp_head.Ty) : Prop := ∀ (x1 : Int) (x2 : Int) (r : (List Int)), Ct (C := ((Option Addr) × Nat × Nat)) Tryd.prog 84 (s x1 x2 = some r) [] [(.i x1), (.v (.int .u8 x2))] (fun ch => (.s ch.1 ch.2.1 ch.2.2)) fun ch => [Res.row yb 5 ch.1 ch.2.1 ch.2.2 r]
def rlp_head.f (k : Nat) (x1 : Int) (x2 : Int) : Option ((List Int)) := if (decide (x1 ≤ 55)) = true then (some [wr .u8 ((wr .u8 (128 + x2)) + (wr .u8 x1))]) else ((word_Of.f (wr .u64 x1)).bind fun t1 => ((rlp_Number.f k t1).bind fun t2 => (if (([wr .u8 ((wr .u8 (183 + x2)) + (wr .u8 ((t2).length : Int)))]).length + (t2).length) * 1 ≤ 140737488355328 then (some ([wr .u8 ((wr .u8 (183 + x2)) + (wr .u8 ((t2).length : Int)))] ++ t2)) else none)))
theorem rlp_head.ok (k : Nat) : rlp_head.Ctr (rlp_head.f k) := by
 intro x1 x2 r h0 mi w0 ok hm
 delta rlp_head.f at h0
 refine c_enterZ (n := 27) ok hm func84 rfl rfl rfl fun b0 hb a S => c_region (s_assign S rfl rfl fun a S => c_end (wp_seq (c_region (s_move S rfl rfl fun a S => s_bin S rfl rfl rfl rfl fun a S => c_end ?_))))
 rcases ite_of h0 with ⟨c1, h1⟩ | ⟨c1, h1⟩
 ·refine c_condT S rfl c1 (c_region (s_move S rfl rfl fun a S => s_bin S rfl rfl rfl rfl fun a S => s_move S rfl rfl fun a S => s_conv S rfl rfl underlying5 rfl fun a S => s_bin S rfl rfl rfl rfl fun a S => s_bldSl S (ty' := yb) (ds := [(0, (.v (.int .u8 (wr .u8 ((wr .u8 (128 + x2)) + (wr .u8 x1))))))]) (z := 0) (c0 := ()) (ys := [wr .u8 ((wr .u8 (128 + x2)) + (wr .u8 x1))]) (cs := [()]) rfl underlying37 J5 Z5 rfl ⟨rfl, trivial⟩ rfl rfl rfl rfl rfl rfl fun g1 a w S => s_assign S rfl rfl fun a S => c_end (wp_ret (x_thenR ?_))))
  obtain rfl := Option.some.inj h1
  exact b_ret1 (d := (.s (ad g1) 1 1)) S rfl rfl fun ok => S.retX (Hx := []) hb _ _ (((ad g1), 1, 1) : (Option Addr) × Nat × Nat) (.c0 .n) ok
 ·refine c_condF S rfl c1 (wp_skip (x_thenN (c_region (s_move S rfl rfl fun a S => s_conv S rfl rfl underlying24 rfl fun a S => bindX h1 fun t1 et1 h2 => s_callP S _ N43 rfl rfl (word_Of.ok (wr .u64 x1) t1 et1 _ _) fun ch1 m le1 a w S => bindX h2 fun t2 et2 h3 => s_callR S (fun (ch : (Option Addr) × Nat × Nat) => ((.s ch.1 ch.2.1 ch.2.2) : D)) (fun (ch : (Option Addr) × Nat × Nat) => Res.row yb 5 ch.1 ch.2.1 ch.2.2 t2) N44 rfl rfl (rlp_Number.ok k t1 t2 et2 _ _) fun ch2 m le1 a w S => s_assign S rfl rfl fun a S => c_end (c_region (s_move S rfl rfl fun a S => s_bin S rfl rfl rfl rfl fun a S => s_move S rfl rfl fun a S => s_lenO S rfl .h underlying37 rfl fun a S => s_conv S rfl rfl underlying5 rfl fun a S => s_bin S rfl rfl rfl rfl fun a S => s_bldSl S (ty' := yb) (ds := [(0, (.v (.int .u8 (wr .u8 ((wr .u8 (183 + x2)) + (wr .u8 ((t2).length : Int)))))))]) (z := 0) (c0 := ()) (ys := [wr .u8 ((wr .u8 (183 + x2)) + (wr .u8 ((t2).length : Int)))]) (cs := [()]) rfl underlying37 J5 Z5 rfl ⟨rfl, trivial⟩ rfl rfl rfl rfl rfl rfl fun g2 a w S => s_move S rfl rfl fun a S => ?_))))))
  obtain ⟨c2, h4⟩ := chk_of h3; clear h3
  refine s_app S (k2 := ch2.2.1) (ys := t2) rfl (fun _ _ => .h) rfl rfl (S.holds _ (Pull.mem .h1).1).1 (Res.row.src (S.holds _ (Pull.mem .h1).1)) underlying37 J5 c2 rfl fun A1 cp1 a w S => s_assign S rfl rfl fun a S => c_end (wp_ret ?_)
  obtain rfl := Option.some.inj h4
  exact b_ret1 (d := (.s A1 (1 + ch2.2.1) cp1)) S rfl rfl fun ok => S.retX (Hx := []) hb _ _ ((A1, 1 + ch2.2.1, cp1) : (Option Addr) × Nat × Nat) (.c0 .n) ok
abbrev rlp_writer_item.Ty : Type := ((List (Bool × (List Int) × Int)) × Int) → Int → Option ((List Int) × ((List (Bool × (List Int) × Int)) × Int))
def rlp_writer_item.Ctr (s : rlp_writer_item.Ty) : Prop := ∀ (x1 : (List (Bool × (List Int) × Int)) × Int) (x2 : Int) (ch_0_0 : Nat) (ch_0_1 : Option Addr) (ch_0_2 : Nat) (r : (List Int) × ((List (Bool × (List Int) × Int)) × Int)), Ct (C := ((Option Addr) × Nat × (Option Addr) × Nat)) Tryd.prog 68 (s x1 x2 = some r) [Res.cells ch_0_0 98 [.q Y54 ch_0_1 ch_0_2 x1.1, .i x1.2]] [(.p ch_0_0), (.i x2)] (fun ch => (.q yb ch.1 ch.2.1 r.1)) fun ch => [Res.cells ch_0_0 98 [.q Y54 ch.2.2.1 ch.2.2.2 r.2.1, .i r.2.2]]
def rlp_writer_item.j4 (k : Nat) (x1 : (List (Bool × (List Int) × Int)) × Int) (y15 : List Int) (y16 : List (Bool × (List Int) × Int)) (y17 : Int) : Option ((List Int) × ((List (Bool × (List Int) × Int)) × Int)) := if (decide (((y16).length : Int) < (wr .i64 (((x1.1.drop (Int.toNat 1)).length : Int) - ((gt x1.1 0).2.2))))) = true then ((rlp_writer_fail.f (y16, y17) 2).bind fun t5 => (some (t5.1, (t5.2.1, t5.2.2)))) else ((rlp_head.f k ((y15).length : Int) 64).bind fun t6 => (if ((t6).length + (y15).length) * 1 ≤ 140737488355328 then (some (t6 ++ y15, (y16, y17))) else none))
def rlp_writer_item.j5 (k : Nat) (self0 : rlp_writer_item.Ty) (x1 : (List (Bool × (List Int) × Int)) × Int) (x2 : Int) (y23 : List Int) (y24 : List (Bool × (List Int) × Int)) (y25 : Int) (rec1 : (List Int) → (List (Bool × (List Int) × Int)) → Int → Option ((List Int) × ((List (Bool × (List Int) × Int)) × Int))) (y26 : Bool) : Option ((List Int) × ((List (Bool × (List Int) × Int)) × Int)) := if y26 = true then ((self0 (y24, y25) (wr .i64 (x2 + 1))).bind fun t9 => (if ((y23).length + (t9.1).length) * 1 ≤ 140737488355328 then (if (decide (1048576 < ((y23 ++ t9.1).length : Int))) = true then ((rlp_writer_fail.f (t9.2.1, t9.2.2) 4).bind fun t10 => (some (t10.1, (t10.2.1, t10.2.2)))) else (rec1 (y23 ++ t9.1) t9.2.1 t9.2.2)) else none)) else (rlp_writer_item.j4 k x1 y23 y24 y25)
def rlp_writer_item.b1 (k : Nat) (self0 : rlp_writer_item.Ty) (x1 : (List (Bool × (List Int) × Int)) × Int) (x2 : Int) (rec1 : (List Int) → (List (Bool × (List Int) × Int)) → Int → Option ((List Int) × ((List (Bool × (List Int) × Int)) × Int))) (y23 : List Int) (y24 : List (Bool × (List Int) × Int)) (y25 : Int) : Option ((List Int) × ((List (Bool × (List Int) × Int)) × Int)) := if (decide ((wr .i64 (((x1.1.drop (Int.toNat 1)).length : Int) - ((gt x1.1 0).2.2))) < ((y24).length : Int))) = true then (rlp_writer_item.j5 k self0 x1 x2 y23 y24 y25 rec1 (y25 == 0)) else (rlp_writer_item.j5 k self0 x1 x2 y23 y24 y25 rec1 false)
def rlp_writer_item.l1 (k : Nat) (self0 : rlp_writer_item.Ty) (x1 : (List (Bool × (List Int) × Int)) × Int) (x2 : Int) : Nat → (List Int) → (List (Bool × (List Int) × Int)) → Int → Option ((List Int) × ((List (Bool × (List Int) × Int)) × Int))
  | 0, _, _, _ => none
  | q + 1, y23, y24, y25 => rlp_writer_item.b1 k self0 x1 x2 (rlp_writer_item.l1 k self0 x1 x2 q) y23 y24 y25
def rlp_writer_item.j3 (k : Nat) (self0 : rlp_writer_item.Ty) (x1 : (List (Bool × (List Int) × Int)) × Int) (x2 : Int) (y5 : Bool) : Option ((List Int) × ((List (Bool × (List Int) × Int)) × Int)) := if y5 = true then (if (0 : Int) ≤ 0 ∧ 0 < (((gt x1.1 0).2.1).length : Int) then (some ([rd ((gt x1.1 0).2.1) 0], (x1.1.drop (Int.toNat 1), x1.2))) else none) else (if (!((gt x1.1 0).1)) = true then ((rlp_head.f k (((gt x1.1 0).2.1).length : Int) 0).bind fun t3 => (if ((t3).length + ((gt x1.1 0).2.1).length) * 1 ≤ 140737488355328 then (some (t3 ++ ((gt x1.1 0).2.1), (x1.1.drop (Int.toNat 1), x1.2))) else none)) else (if (x2 == 64) = true then ((rlp_writer_fail.f (x1.1.drop (Int.toNat 1), x1.2) 4).bind fun t4 => (some (t4.1, (t4.2.1, t4.2.2)))) else (rlp_writer_item.l1 k self0 x1 x2 k ([] : List Int) (x1.1.drop (Int.toNat 1)) x1.2)))
def rlp_writer_item.j2 (k : Nat) (self0 : rlp_writer_item.Ty) (x1 : (List (Bool × (List Int) × Int)) × Int) (x2 : Int) (y4 : Bool) : Option ((List Int) × ((List (Bool × (List Int) × Int)) × Int)) := if y4 = true then ((rlp_writer_fail.f (x1.1.drop (Int.toNat 1), x1.2) 2).bind fun t2 => (some (t2.1, (t2.2.1, t2.2.2)))) else (if (!((gt x1.1 0).1)) = true then (if ((((gt x1.1 0).2.1).length : Int) == 1) = true then (if (0 : Int) ≤ 0 ∧ 0 < (((gt x1.1 0).2.1).length : Int) then (rlp_writer_item.j3 k self0 x1 x2 (decide ((rd ((gt x1.1 0).2.1) 0) < 128))) else none) else (rlp_writer_item.j3 k self0 x1 x2 false)) else (rlp_writer_item.j3 k self0 x1 x2 false))
def rlp_writer_item.j7 (k : Nat) (self0 : rlp_writer_item.Ty) (x1 : (List (Bool × (List Int) × Int)) × Int) (x2 : Int) (y28 : Bool) : Option ((List Int) × ((List (Bool × (List Int) × Int)) × Int)) := if y28 = true then (rlp_writer_item.j2 k self0 x1 x2 y28) else (if (decide (((gt x1.1 0).2.2) < 0)) = true then (rlp_writer_item.j2 k self0 x1 x2 true) else (rlp_writer_item.j2 k self0 x1 x2 (decide (((x1.1.drop (Int.toNat 1)).length : Int) < ((gt x1.1 0).2.2)))))
def rlp_writer_item.j6 (k : Nat) (self0 : rlp_writer_item.Ty) (x1 : (List (Bool × (List Int) × Int)) × Int) (x2 : Int) (y27 : Bool) : Option ((List Int) × ((List (Bool × (List Int) × Int)) × Int)) := if y27 = true then (rlp_writer_item.j2 k self0 x1 x2 y27) else (if ((gt x1.1 0).1) = true then (rlp_writer_item.j7 k self0 x1 x2 (decide (0 < (((gt x1.1 0).2.1).length : Int)))) else (rlp_writer_item.j7 k self0 x1 x2 false))
def rlp_writer_item.j1 (k : Nat) (self0 : rlp_writer_item.Ty) (x1 : (List (Bool × (List Int) × Int)) × Int) (x2 : Int) (y1 : Bool) : Option ((List Int) × ((List (Bool × (List Int) × Int)) × Int)) := if y1 = true then ((rlp_writer_fail.f (x1.1, x1.2) 2).bind fun t1 => (some (t1.1, (t1.2.1, t1.2.2)))) else (if (0 : Int) ≤ 0 ∧ 0 < ((x1.1).length : Int) then (if (0 : Int) ≤ 1 ∧ (1 : Int) ≤ ((x1.1).length : Int) ∧ ((x1.1).length : Int) ≤ ((x1.1).length : Int) then (if (!((gt x1.1 0).1)) = true then (rlp_writer_item.j6 k self0 x1 x2 (((gt x1.1 0).2.2) != 0)) else (rlp_writer_item.j6 k self0 x1 x2 false)) else none) else none)
def rlp_writer_item.body (self0 : rlp_writer_item.Ty) (k : Nat) (x1 : (List (Bool × (List Int) × Int)) × Int) (x2 : Int) : Option ((List Int) × ((List (Bool × (List Int) × Int)) × Int)) := if (x1.2 != 0) = true then (rlp_writer_item.j1 k self0 x1 x2 true) else (rlp_writer_item.j1 k self0 x1 x2 (((x1.1).length : Int) == 0))
theorem rlp_writer_item.okb (self0 : rlp_writer_item.Ty) (c_0 : rlp_writer_item.Ctr self0) (k : Nat) : rlp_writer_item.Ctr (rlp_writer_item.body self0 k) := by
 intro x1 x2 ch_0_0 ch_0_1 ch_0_2 r h0 mi w0 ok hm
 delta rlp_writer_item.body at h0
 refine c_enterZ (n := 154) ok hm func68 rfl rfl rfl fun b0 hb a S => c_region (s_assign S rfl rfl fun a S => c_end (wp_seq (wp_seq_k fun K1 hK1 => ?_)))
 have j1 : ∀ m y1 a w, St 154 m b0 [(20, (.b y1)), (0, (.p ch_0_0)), (1, (.i x2))] [Res.cells ch_0_0 98 [.q Y54 ch_0_1 ch_0_2 x1.1, .i x1.2]] a w → rlp_writer_item.j1 k self0 x1 x2 y1 = some r → K1 a w := by
  intro m y1 a w S h0
  delta rlp_writer_item.j1 at h0
  refine hK1 a w ?_
  rcases ite_of h0 with ⟨c1, h1⟩ | ⟨c1, h1⟩
  ·refine c_condT S rfl c1 (c_region (s_move S rfl rfl fun a S => bindX h1 fun t1 et1 h2 => s_callX S (ds' := [(.p ch_0_0), (.i 2)]) (ds := [(.p ch_0_0), (.i 2)]) [Res.cells ch_0_0 98 [.q Y54 ch_0_1 ch_0_2 x1.1, .i x1.2]] [] (fun (ch : (Option Addr) × Nat × (Option Addr) × Nat) => ((.q yb ch.1 ch.2.1 t1.1) : D)) (fun (ch : (Option Addr) × Nat × (Option Addr) × Nat) => [Res.cells ch_0_0 98 [.q Y54 ch.2.2.1 ch.2.2.2 t1.2.1, .i t1.2.2]]) (fun (ch : (Option Addr) × Nat × (Option Addr) × Nat) => [Res.cells ch_0_0 98 [.q Y54 ch.2.2.1 ch.2.2.2 t1.2.1, .i t1.2.2]]) (fun _ => rfl) N83 rfl rfl (fun ok => ok) (.c0 .n) rfl (rlp_writer_fail.ok (x1.1, x1.2) 2 ch_0_0 ch_0_1 ch_0_2 t1 et1 _ _) fun ch1 m le1 a w S => s_assign S rfl rfl fun a S => c_end (wp_ret (x_thenR ?_))))
   obtain rfl := Option.some.inj h2
   exact b_ret1 (d := (.q yb ch1.1 ch1.2.1 t1.1)) S rfl rfl fun ok => S.retX (Hx := []) hb _ _ ((ch1.1, ch1.2.1, ch1.2.2.1, ch1.2.2.2) : (Option Addr) × Nat × (Option Addr) × Nat) (.c0 .n) ok
  ·refine c_condF S rfl c1 (wp_skip (x_thenN (c_region (s_move S rfl rfl fun a S => s_nilchk S rfl rfl fun a S => s_fieldAddr S rfl I98_0 T51 (by decide) rfl rfl fun a S => s_loadSl S rfl .h T51 (A := ch_0_1) (len := (x1.1).length) (cap := ch_0_2) rfl rfl fun a S => ?_))))
   obtain ⟨c2, h2⟩ := chk_of h1; clear h1
   refine s_iaddrS S rfl rfl rfl underlying51 T54 c2.1 c2.2 rfl fun p1 a S => s_ldA S (fun (c : Unit × (Option Addr × Nat) × Unit) => [.b ((gt x1.1 0).1), .q yb c.2.1.1 c.2.1.2 ((gt x1.1 0).2.1), .i ((gt x1.1 0).2.2)]) rfl T54 (fun _ => rfl) rfl fun ch2 a S => s_alloc S Z54 rfl ⟨rfl, rfl, rfl, trivial⟩ rfl fun g1 a w S => s_store S rfl rfl rfl (s' := [.b ((gt x1.1 0).1), .q yb ch2.2.1.1 ch2.2.1.2 ((gt x1.1 0).2.1), .i ((gt x1.1 0).2.2)]) .h T54 rfl rfl fun w S => c_end (c_region (s_move S rfl rfl fun a S => s_move S rfl rfl fun a S => s_nilchk S rfl rfl fun a S => s_fieldAddr S rfl I98_0 T51 (by decide) rfl rfl fun a S => s_loadSl S rfl .h1 T51 (A := ch_0_1) (len := (x1.1).length) (cap := ch_0_2) rfl rfl fun a S => ?_))
   obtain ⟨c3, h3⟩ := chk_of h2; clear h2
   refine s_cutS S (i := 1) (j := ((x1.1).length : Int)) (ys := x1.1.drop (Int.toNat 1)) rfl rfl underlying51 T54 (.inr ⟨_, _, rfl, rfl⟩) (.inl ⟨rfl, rfl⟩) c3 rfl (cut_end rfl) fun A1 cp1 a S => s_nilchk S rfl rfl fun a S => s_fieldAddr S rfl I98_0 T51 (by decide) rfl rfl fun a S => s_store S rfl rfl rfl (s' := [.q Y54 A1 cp1 (x1.1.drop (Int.toNat 1)), .i x1.2]) .h1 T51 rfl rfl fun w S => c_end (wp_seq (wp_block (wp_seq_k fun K2 hK2 => ?_)))
   have j2 : ∀ m y4 g4 A2 cp4 A3 cp5 a w, St 154 m b0 [(37, (.b y4)), (5, (.p g4)), (0, (.p ch_0_0)), (1, (.i x2))] [Res.cells g4 54 [.b ((gt x1.1 0).1), .q yb A3 cp5 ((gt x1.1 0).2.1), .i ((gt x1.1 0).2.2)], Res.cells ch_0_0 98 [.q Y54 A2 cp4 (x1.1.drop (Int.toNat 1)), .i x1.2]] a w → rlp_writer_item.j2 k self0 x1 x2 y4 = some r → K2 a w := by
    intro m y4 g4 A2 cp4 A3 cp5 a w S h0
    delta rlp_writer_item.j2 at h0
    refine hK2 a w ?_
    rcases ite_of h0 with ⟨c4, h1⟩ | ⟨c4, h1⟩
    ·refine c_condT S rfl c4 (c_region (s_move S rfl rfl fun a S => bindX h1 fun t2 et2 h2 => s_callX S (ds' := [(.p ch_0_0), (.i 2)]) (ds := [(.p ch_0_0), (.i 2)]) [Res.cells ch_0_0 98 [.q Y54 A2 cp4 (x1.1.drop (Int.toNat 1)), .i x1.2]] [Res.cells g4 54 [.b ((gt x1.1 0).1), .q yb A3 cp5 ((gt x1.1 0).2.1), .i ((gt x1.1 0).2.2)]] (fun (ch : (Option Addr) × Nat × (Option Addr) × Nat) => ((.q yb ch.1 ch.2.1 t2.1) : D)) (fun (ch : (Option Addr) × Nat × (Option Addr) × Nat) => [Res.cells ch_0_0 98 [.q Y54 ch.2.2.1 ch.2.2.2 t2.2.1, .i t2.2.2]]) (fun (ch : (Option Addr) × Nat × (Option Addr) × Nat) => [Res.cells ch_0_0 98 [.q Y54 ch.2.2.1 ch.2.2.2 t2.2.1, .i t2.2.2], Res.cells g4 54 [.b ((gt x1.1 0).1), .q yb A3 cp5 ((gt x1.1 0).2.1), .i ((gt x1.1 0).2.2)]]) (fun _ => rfl) N83 rfl rfl (fun ok => ok) (.c1 (.c0 .n)) rfl (rlp_writer_fail.ok (x1.1.drop (Int.toNat 1), x1.2) 2 ch_0_0 A2 cp4 t2 et2 _ _) fun ch3 m le1 a w S => s_assign S rfl rfl fun a S => c_end (wp_ret (x_blockR (x_thenR ?_)))))
     obtain rfl := Option.some.inj h2
     exact b_ret1 (d := (.q yb ch3.1 ch3.2.1 t2.1)) S rfl rfl fun ok => S.retX (Hx := []) hb _ _ ((ch3.1, ch3.2.1, ch3.2.2.1, ch3.2.2.2) : (Option Addr) × Nat × (Option Addr) × Nat) (.c0 .n) ok
    ·refine c_condF S rfl c4 (wp_seq_k fun K3 hK3 => ?_)
     have j3 : ∀ m y5 g5 a w, St 154 m b0 [(69, (.b y5)), (5, (.p g5)), (0, (.p ch_0_0)), (1, (.i x2))] [Res.cells g5 54 [.b ((gt x1.1 0).1), .q yb A3 cp5 ((gt x1.1 0).2.1), .i ((gt x1.1 0).2.2)], Res.cells ch_0_0 98 [.q Y54 A2 cp4 (x1.1.drop (Int.toNat 1)), .i x1.2]] a w → rlp_writer_item.j3 k self0 x1 x2 y5 = some r → K3 a w := by
      intro m y5 g5 a w S h0
      delta rlp_writer_item.j3 at h0
      refine hK3 a w ?_
      rcases ite_of h0 with ⟨c5, h1⟩ | ⟨c5, h1⟩
      ·refine c_condT S rfl c5 (c_region (s_fieldAddr S rfl I54_1 T37 (by decide) rfl rfl fun a S => s_loadSl S rfl .h T37 (A := A3) (len := ((gt x1.1 0).2.1).length) (cap := cp5) rfl rfl fun a S => ?_))
       obtain ⟨c6, h2⟩ := chk_of h1; clear h1
       refine s_iaddrS S rfl rfl rfl underlying37 T5 c6.1 c6.2 rfl fun p3 a S => s_ld1 S (v := (.int .u8 (rd ((gt x1.1 0).2.1) 0))) rfl T5 (fun _ => rfl) rfl fun a S => s_bldSl S (ty' := yb) (ds := [(0, (.v (.int .u8 (rd ((gt x1.1 0).2.1) 0))))]) (z := 0) (c0 := ()) (ys := [rd ((gt x1.1 0).2.1) 0]) (cs := [()]) rfl underlying37 J5 Z5 rfl ⟨rfl, trivial⟩ rfl rfl rfl rfl rfl rfl fun g6 a w S => s_assign S rfl rfl fun a S => c_end (wp_ret (x_blockR (x_thenR ?_)))
       replace S := S.rowfro .h
       obtain ⟨m, le1, S, hro⟩ := S
       replace S := S.slotro (u := 4) rfl hro
       replace S := S.slotro (u := 90) rfl hro
       obtain rfl := Option.some.inj h2
       exact b_ret1 (d := (.q yb (ad g6) 1 [rd ((gt x1.1 0).2.1) 0])) S rfl rfl fun ok => S.retX (Hx := []) hb _ _ (((ad g6), 1, A2, cp4) : (Option Addr) × Nat × (Option Addr) × Nat) (.c1 .n) ok
      ·refine c_condF S rfl c5 (c_region (s_fieldAddr S rfl I54_0 T4 (by decide) rfl rfl fun a S => s_load1 S rfl .h T4 (v := (.bool ((gt x1.1 0).1))) rfl rfl fun a S => s_not S rfl rfl fun a S => s_assign S rfl rfl fun a S => c_end ?_))
       rcases ite_of h1 with ⟨c7, h2⟩ | ⟨c7, h2⟩
       ·refine c_condT S rfl c7 ?_
        refine wp_seq (c_heldS S (.take 0 (.take 1 (.take 2 (.take 4 (.take 5 (.alts (.run 3 true (.alts (.run 6 true (.take 7 .done) .nil)) .nil))))))) 8 [Res.cells g5 54 [.b ((gt x1.1 0).1), .q yb A3 cp5 ((gt x1.1 0).2.1), .i ((gt x1.1 0).2.2)], Res.cells ch_0_0 98 [.q Y54 A2 cp4 (x1.1.drop (Int.toNat 1)), .i x1.2]] (.c0 (.c0 .n)) ⟨Res.stay_cells, Res.stay_cells, trivial⟩ [(5, (.p g5))] ⟨rfl, trivial⟩ (by kernel_rfl) (by kernel_rfl) ?_); clear S; intro w S CL hw le
        refine h_fieldAddr S CL hw le ⟨rfl, trivial⟩ rfl I54_1 T37 (by decide) rfl rfl rfl trivial fun a S CL => h_loadSl S CL hw le (subR rfl) rfl .h T37 (A := A3) (len := ((gt x1.1 0).2.1).length) (cap := cp5) rfl rfl rfl trivial fun a S CL => h_lenS S CL hw le (subR rfl) rfl underlying37 rfl rfl trivial fun a S CL => h_fieldAddr S CL hw le (subR rfl) rfl I54_1 T37 (by decide) rfl rfl rfl trivial fun a S CL => h_loadSl S CL hw le (subR rfl) rfl .h T37 (A := A3) (len := ((gt x1.1 0).2.1).length) (cap := cp5) rfl rfl rfl trivial fun a S CL => h_run' S rfl trivial (bindX h2 fun t3 et3 h3 => s_callR S (fun (ch : (Option Addr) × Nat × Nat) => ((.s ch.1 ch.2.1 ch.2.2) : D)) (fun (ch : (Option Addr) × Nat × Nat) => Res.row yb 5 ch.1 ch.2.1 ch.2.2 t3) N84 rfl rfl (rlp_head.ok k (((gt x1.1 0).2.1).length : Int) 0 t3 et3 _ _) fun ch4 m le1 a w S => ?_)
        replace le := le.trans le1
        replace hw := CL.again hw S (.c1 (.c1 .n)) le
        refine h_back ⟨fun _ => hw, ?_⟩
        refine h_run' S rfl trivial ?_
        obtain ⟨c8, h4⟩ := chk_of h3; clear h3
        refine s_app S (k2 := (((gt x1.1 0).2.1).length)) (ys := ((gt x1.1 0).2.1)) rfl (fun _ _ => .h) rfl rfl rfl (RdS.src (S.get 100 (.q yb A3 cp5 ((gt x1.1 0).2.1)) rfl).2.2.2.1 (by decide) S.frz) underlying37 J5 c8 rfl fun A4 cp6 a w S => ?_
        replace hw := CL.again hw S (.c1 (.c1 .n)) le
        refine h_back ⟨fun _ => hw, ?_⟩
        replace CL := CL.add (t := 101) (d := (.s A4 (ch4.2.1 + (((gt x1.1 0).2.1).length)) cp6)) S rfl rfl
        refine h_assign S CL hw le (subR rfl) rfl rfl rfl trivial fun a S CL => ?_
        refine h_done ?_; clear CL hw le
        refine x_thenN (wp_ret (x_blockR (x_thenR ?_)))
        replace S := S.rowfro .h
        obtain ⟨m, le1, S, hro⟩ := S
        replace S := S.slotro (u := 4) rfl hro
        replace S := S.slotro (u := 101) rfl hro
        obtain rfl := Option.some.inj h4
        exact b_ret1 (d := (.q yb A4 cp6 (t3 ++ ((gt x1.1 0).2.1)))) S rfl rfl fun ok => S.retX (Hx := []) hb _ _ ((A4, cp6, A2, cp4) : (Option Addr) × Nat × (Option Addr) × Nat) (.c1 .n) ok
       ·refine c_condF S rfl c7 (c_region (s_move S rfl rfl fun a S => s_bin S rfl rfl rfl rfl fun a S => s_assign S rfl rfl fun a S => c_end ?_))
        rcases ite_of h2 with ⟨c9, h3⟩ | ⟨c9, h3⟩
        ·refine c_condT S rfl c9 (c_region (s_move S rfl rfl fun a S => bindX h3 fun t4 et4 h4 => s_callX S (ds' := [(.p ch_0_0), (.i 4)]) (ds := [(.p ch_0_0), (.i 4)]) [Res.cells ch_0_0 98 [.q Y54 A2 cp4 (x1.1.drop (Int.toNat 1)), .i x1.2]] [Res.cells g5 54 [.b ((gt x1.1 0).1), .q yb A3 cp5 ((gt x1.1 0).2.1), .i ((gt x1.1 0).2.2)]] (fun (ch : (Option Addr) × Nat × (Option Addr) × Nat) => ((.q yb ch.1 ch.2.1 t4.1) : D)) (fun (ch : (Option Addr) × Nat × (Option Addr) × Nat) => [Res.cells ch_0_0 98 [.q Y54 ch.2.2.1 ch.2.2.2 t4.2.1, .i t4.2.2]]) (fun (ch : (Option Addr) × Nat × (Option Addr) × Nat) => [Res.cells ch_0_0 98 [.q Y54 ch.2.2.1 ch.2.2.2 t4.2.1, .i t4.2.2], Res.cells g5 54 [.b ((gt x1.1 0).1), .q yb A3 cp5 ((gt x1.1 0).2.1), .i ((gt x1.1 0).2.2)]]) (fun _ => rfl) N83 rfl rfl (fun ok => ok) (.c1 (.c0 .n)) rfl (rlp_writer_fail.ok (x1.1.drop (Int.toNat 1), x1.2) 4 ch_0_0 A2 cp4 t4 et4 _ _) fun ch5 m le1 a w S => s_assign S rfl rfl fun a S => c_end (wp_ret (x_blockR (x_thenR ?_)))))
         obtain rfl := Option.some.inj h4
         exact b_ret1 (d := (.q yb ch5.1 ch5.2.1 t4.1)) S rfl rfl fun ok => S.retX (Hx := []) hb _ _ ((ch5.1, ch5.2.1, ch5.2.2.1, ch5.2.2.2) : (Option Addr) × Nat × (Option Addr) × Nat) (.c0 .n) ok
        ·refine c_condF S rfl c9 (wp_skip (x_blockN (x_thenN ?_)))
         refine wp_seq (c_heldS S (.take 0 (.take 1 (.take 2 (.take 3 (.take 4 (.take 5 (.take 6 (.take 7 (.take 8 .done))))))))) 9 [Res.cells g5 54 [.b ((gt x1.1 0).1), .q yb A3 cp5 ((gt x1.1 0).2.1), .i ((gt x1.1 0).2.2)], Res.cells ch_0_0 98 [.q Y54 A2 cp4 (x1.1.drop (Int.toNat 1)), .i x1.2]] (.c0 (.c0 .n)) ⟨Res.stay_cells, Res.stay_cells, trivial⟩ [(5, (.p g5)), (0, (.p ch_0_0))] (subR rfl) (by kernel_rfl) (by kernel_rfl) ?_); clear S; intro w S CL hw le
         refine h_move S CL hw le (subR rfl) rfl rfl rfl trivial fun a S CL => h_nilchk S CL hw le (subR rfl) rfl rfl rfl rfl trivial fun a S CL => h_fieldAddr S CL hw le (subR rfl) rfl I98_0 T51 (by decide) rfl rfl rfl trivial fun a S CL => h_loadSl S CL hw le (subR rfl) rfl .h1 T51 (A := A2) (len := (x1.1.drop (Int.toNat 1)).length) (cap := cp4) rfl rfl rfl trivial fun a S CL => h_lenS S CL hw le (subR rfl) rfl underlying51 rfl rfl trivial fun a S CL => h_fieldAddr S CL hw le (subR rfl) rfl I54_2 T3 (by decide) rfl rfl rfl trivial fun a S CL => h_load1 S CL hw le (subR rfl) rfl .h T3 (v := (.int .i64 ((gt x1.1 0).2.2))) rfl rfl rfl trivial fun a S CL => h_bin S CL hw le (subR rfl) rfl rfl rfl rfl rfl trivial fun a S CL => h_assign S CL hw le (subR rfl) rfl rfl rfl trivial fun a S CL => ?_
         refine h_done ?_; clear CL hw le
         refine x_thenN (c_region (s_assign S rfl rfl fun a S => c_end (wp_seq_k fun K4 hK4 => ?_)))
         have j4 : ∀ m A5 nn1 cp13 y15 A6 cp14 y16 y17 a w, St 154 m b0 [(7, (.s A5 nn1 cp13)), (6, (.i (wr .i64 (((x1.1.drop (Int.toNat 1)).length : Int) - ((gt x1.1 0).2.2))))), (0, (.p ch_0_0))] [Res.row yb 5 A5 nn1 cp13 y15, Res.cells ch_0_0 98 [.q Y54 A6 cp14 y16, .i y17]] a w → rlp_writer_item.j4 k x1 y15 y16 y17 = some r → K4 a w := by
          intro m A5 nn1 cp13 y15 A6 cp14 y16 y17 a w S h0
          delta rlp_writer_item.j4 at h0
          refine hK4 a w (wp_seq (c_region (s_move S rfl rfl fun a S => s_nilchk S rfl rfl fun a S => s_fieldAddr S rfl I98_0 T51 (by decide) rfl rfl fun a S => s_loadSl S rfl .h1 T51 (A := A6) (len := (y16).length) (cap := cp14) rfl rfl fun a S => s_lenS S rfl underlying51 rfl fun a S => s_move S rfl rfl fun a S => s_bin S rfl rfl rfl rfl fun a S => c_end ?_)))
          rcases ite_of h0 with ⟨c10, h1⟩ | ⟨c10, h1⟩
          ·refine c_condT S rfl c10 (c_region (s_move S rfl rfl fun a S => bindX h1 fun t5 et5 h2 => s_callX S (ds' := [(.p ch_0_0), (.i 2)]) (ds := [(.p ch_0_0), (.i 2)]) [Res.cells ch_0_0 98 [.q Y54 A6 cp14 y16, .i y17]] [Res.row yb 5 A5 nn1 cp13 y15] (fun (ch : (Option Addr) × Nat × (Option Addr) × Nat) => ((.q yb ch.1 ch.2.1 t5.1) : D)) (fun (ch : (Option Addr) × Nat × (Option Addr) × Nat) => [Res.cells ch_0_0 98 [.q Y54 ch.2.2.1 ch.2.2.2 t5.2.1, .i t5.2.2]]) (fun (ch : (Option Addr) × Nat × (Option Addr) × Nat) => [Res.cells ch_0_0 98 [.q Y54 ch.2.2.1 ch.2.2.2 t5.2.1, .i t5.2.2], Res.row yb 5 A5 nn1 cp13 y15]) (fun _ => rfl) N83 rfl rfl (fun ok => ok) (.c1 (.c0 .n)) rfl (rlp_writer_fail.ok (y16, y17) 2 ch_0_0 A6 cp14 t5 et5 _ _) fun ch6 m le1 a w S => s_assign S rfl rfl fun a S => c_end (wp_ret (x_thenR ?_))))
           obtain rfl := Option.some.inj h2
           exact b_ret1 (d := (.q yb ch6.1 ch6.2.1 t5.1)) S rfl rfl fun ok => S.retX (Hx := []) hb _ _ ((ch6.1, ch6.2.1, ch6.2.2.1, ch6.2.2.2) : (Option Addr) × Nat × (Option Addr) × Nat) (.c0 .n) ok
          ·refine c_condF S rfl c10 (wp_skip (x_thenN (c_region (s_move S rfl rfl fun a S => s_lenO S rfl .h underlying37 rfl fun a S => bindX h1 fun t6 et6 h2 => s_callR S (fun (ch : (Option Addr) × Nat × Nat) => ((.s ch.1 ch.2.1 ch.2.2) : D)) (fun (ch : (Option Addr) × Nat × Nat) => Res.row yb 5 ch.1 ch.2.1 ch.2.2 t6) N84 rfl rfl (rlp_head.ok k ((y15).length : Int) 64 t6 et6 _ _) fun ch7 m le1 a w S => s_move S rfl rfl fun a S => ?_))))
           obtain ⟨c11, h3⟩ := chk_of h2; clear h2
           refine s_app S (k2 := nn1) (ys := y15) rfl (fun _ _ => .h) rfl rfl (S.holds _ (Pull.mem .h1).1).1 (Res.row.src (S.holds _ (Pull.mem .h1).1)) underlying37 J5 c11 rfl fun A7 cp15 a w S => s_assign S rfl rfl fun a S => c_end (wp_ret ?_)
           replace S := S.rowfro .h
           obtain ⟨m, le1, S, hro⟩ := S
           replace S := S.slotro (u := 4) rfl hro
           replace S := S.slotro (u := 153) rfl hro
           obtain rfl := Option.some.inj h3
           exact b_ret1 (d := (.q yb A7 cp15 (t6 ++ y15))) S rfl rfl fun ok => S.retX (Hx := []) hb _ _ ((A7, cp15, A6, cp14) : (Option Addr) × Nat × (Option Addr) × Nat) (.c1 .n) ok
         refine wp_block ?_
         replace S := S.nilrow yb 5
         refine c_loop (fun q1 a w => ∃ m A8 nn3 cp20 y23 A9 cp21 y24 y25, St 154 m b0 [(7, (.s A8 nn3 cp20)), (6, (.i (wr .i64 (((x1.1.drop (Int.toNat 1)).length : Int) - ((gt x1.1 0).2.2))))), (0, (.p ch_0_0)), (1, (.i x2))] [Res.row yb 5 A8 nn3 cp20 y23, Res.cells ch_0_0 98 [.q Y54 A9 cp21 y24, .i y25]] a w ∧ rlp_writer_item.l1 k self0 x1 x2 q1 y23 y24 y25 = some r) ?_ ?_ (k := k) ⟨_, none, 0, 0, ([] : List Int), A2, cp4, (x1.1.drop (Int.toNat 1)), x1.2, (S.sb rfl (.c0 (.c1 .n))), h3⟩
         ·rintro a w ⟨m, A8, nn3, cp20, y23, A9, cp21, y24, y25, S, h0⟩
          exact (nomatch (show (none : Option ((List Int) × ((List (Bool × (List Int) × Int)) × Int))) = some r from h0))
         ·clear S h3
          rintro q1 a w ⟨m, A8, nn3, cp20, y23, A9, cp21, y24, y25, S, h0⟩
          replace h0 : rlp_writer_item.b1 k self0 x1 x2 (rlp_writer_item.l1 k self0 x1 x2 q1) y23 y24 y25 = some r := h0
          delta rlp_writer_item.b1 at h0
          refine wp_seq (wp_seq_k fun K5 hK5 => ?_)
          have j5 : ∀ m y26 a w, St 154 m b0 [(128, (.b y26)), (7, (.s A8 nn3 cp20)), (6, (.i (wr .i64 (((x1.1.drop (Int.toNat 1)).length : Int) - ((gt x1.1 0).2.2))))), (0, (.p ch_0_0)), (1, (.i x2))] [Res.row yb 5 A8 nn3 cp20 y23, Res.cells ch_0_0 98 [.q Y54 A9 cp21 y24, .i y25]] a w → rlp_writer_item.j5 k self0 x1 x2 y23 y24 y25 (rlp_writer_item.l1 k self0 x1 x2 q1) y26 = some r → K5 a w := by
           intro m y26 a w S h0
           delta rlp_writer_item.j5 at h0
           refine hK5 a w ?_
           rcases ite_of h0 with ⟨c12, h1⟩ | ⟨c12, h1⟩
           ·refine c_condT S rfl c12 (wp_skip (x_thenN (wp_block (c_region (s_move S rfl rfl fun a S => s_move S rfl rfl fun a S => s_move S rfl rfl fun a S => s_bin S rfl rfl rfl rfl fun a S => bindX h1 fun t9 et9 h2 => s_callX S (ds' := [(.p ch_0_0), (.i (wr .i64 (x2 + 1)))]) (ds := [(.p ch_0_0), (.i (wr .i64 (x2 + 1)))]) [Res.cells ch_0_0 98 [.q Y54 A9 cp21 y24, .i y25]] [Res.row yb 5 A8 nn3 cp20 y23] (fun (ch : (Option Addr) × Nat × (Option Addr) × Nat) => ((.q yb ch.1 ch.2.1 t9.1) : D)) (fun (ch : (Option Addr) × Nat × (Option Addr) × Nat) => [Res.cells ch_0_0 98 [.q Y54 ch.2.2.1 ch.2.2.2 t9.2.1, .i t9.2.2]]) (fun (ch : (Option Addr) × Nat × (Option Addr) × Nat) => [Res.cells ch_0_0 98 [.q Y54 ch.2.2.1 ch.2.2.2 t9.2.1, .i t9.2.2], Res.row yb 5 A8 nn3 cp20 y23]) (fun _ => rfl) N68 rfl rfl (fun ok => ok) (.c1 (.c0 .n)) rfl (c_0 (y24, y25) (wr .i64 (x2 + 1)) ch_0_0 A9 cp21 t9 et9 _ _) fun ch10 m le1 a w S => ?_)))))
            obtain ⟨c13, h3⟩ := chk_of h2; clear h2
            refine s_app S (k2 := ((t9.1).length)) (ys := t9.1) rfl (fun _ _ => .h1) rfl rfl rfl (RdS.src (S.get 133 (.q yb ch10.1 ch10.2.1 t9.1) rfl).2.2.2.1 (by decide) S.frz) underlying37 J5 c13 rfl fun A10 cp22 a w S => s_assign S rfl rfl fun a S => c_end (c_region (s_move S rfl rfl fun a S => s_lenO S rfl .h1 underlying37 rfl fun a S => s_bin S rfl rfl rfl rfl fun a S => c_end ?_))
            rcases ite_of h3 with ⟨c14, h4⟩ | ⟨c14, h4⟩
            ·refine c_condT S rfl c14 (c_region (s_move S rfl rfl fun a S => bindX h4 fun t10 et10 h5 => s_callX S (ds' := [(.p ch_0_0), (.i 4)]) (ds := [(.p ch_0_0), (.i 4)]) [Res.cells ch_0_0 98 [.q Y54 ch10.2.2.1 ch10.2.2.2 t9.2.1, .i t9.2.2]] [Res.row yb 5 A10 (nn3 + ((t9.1).length)) cp22 (y23 ++ t9.1)] (fun (ch : (Option Addr) × Nat × (Option Addr) × Nat) => ((.q yb ch.1 ch.2.1 t10.1) : D)) (fun (ch : (Option Addr) × Nat × (Option Addr) × Nat) => [Res.cells ch_0_0 98 [.q Y54 ch.2.2.1 ch.2.2.2 t10.2.1, .i t10.2.2]]) (fun (ch : (Option Addr) × Nat × (Option Addr) × Nat) => [Res.cells ch_0_0 98 [.q Y54 ch.2.2.1 ch.2.2.2 t10.2.1, .i t10.2.2], Res.row yb 5 A10 (nn3 + ((t9.1).length)) cp22 (y23 ++ t9.1)]) (fun _ => rfl) N83 rfl rfl (fun ok => ok) (.c0 (.c0 .n)) rfl (rlp_writer_fail.ok (t9.2.1, t9.2.2) 4 ch_0_0 ch10.2.2.1 ch10.2.2.2 t10 et10 _ _) fun ch11 m le1 a w S => s_assign S rfl rfl fun a S => c_end (wp_ret (x_blockR (x_thenR (x_blockR (x_thenR ?_)))))))
             obtain rfl := Option.some.inj h5
             exact b_ret1 (d := (.q yb ch11.1 ch11.2.1 t10.1)) S rfl rfl fun ok => S.retX (Hx := []) hb _ _ ((ch11.1, ch11.2.1, ch11.2.2.1, ch11.2.2.2) : (Option Addr) × Nat × (Option Addr) × Nat) (.c0 .n) ok
            ·refine c_condF S rfl c14 (wp_skip (x_blockN (x_thenN ?_)))
             exact ⟨_, A10, (nn3 + ((t9.1).length)), cp22, (y23 ++ t9.1), ch10.2.2.1, ch10.2.2.2, t9.2.1, t9.2.2, (S.sb rfl (.c1 (.c0 .n))), h4⟩
           ·refine c_condF S rfl c12 (wp_exit (x_thenX (x_thenX (x_blockX (x_thenN ?_)))))
            exact j4 _ A8 nn3 cp20 y23 A9 cp21 y24 y25 a w (S.sb rfl (.c0 (.c0 .n))) h1
          refine c_region' (s_move S rfl rfl fun a S => s_nilchk S rfl rfl fun a S => s_fieldAddr S rfl I98_0 T51 (by decide) rfl rfl fun a S => s_loadSl S rfl .h1 T51 (A := A9) (len := (y24).length) (cap := cp21) rfl rfl fun a S => s_lenS S rfl underlying51 rfl fun a S => s_move S rfl rfl fun a S => s_bin S rfl rfl rfl rfl fun a S => s_move S rfl rfl fun a S => ?_)
          rcases ite_of h0 with ⟨c15, h1⟩ | ⟨c15, h1⟩
          ·refine s_gT S (b := (decide ((wr .i64 (((x1.1.drop (Int.toNat 1)).length : Int) - ((gt x1.1 0).2.2))) < ((y24).length : Int)))) rfl rfl c15 (s_move S rfl rfl fun a S => s_gT S (b := (decide ((wr .i64 (((x1.1.drop (Int.toNat 1)).length : Int) - ((gt x1.1 0).2.2))) < ((y24).length : Int)))) rfl rfl c15 (s_nilchk S rfl rfl fun a S => s_gT S (b := (decide ((wr .i64 (((x1.1.drop (Int.toNat 1)).length : Int) - ((gt x1.1 0).2.2))) < ((y24).length : Int)))) rfl rfl c15 (s_fieldAddr S rfl I98_1 T73 (by decide) rfl rfl fun a S => s_gT S (b := (decide ((wr .i64 (((x1.1.drop (Int.toNat 1)).length : Int) - ((gt x1.1 0).2.2))) < ((y24).length : Int)))) rfl rfl c15 (s_load1 S rfl .h1 T73 (v := (.int .i64 y25)) rfl rfl fun a S => s_gT S (b := (decide ((wr .i64 (((x1.1.drop (Int.toNat 1)).length : Int) - ((gt x1.1 0).2.2))) < ((y24).length : Int)))) rfl rfl c15 (s_bin S rfl rfl rfl rfl fun a S => s_pick S (b := true) (hc_of rfl c15) rfl rfl fun a S => c_end' (x_thenN ?_))))))
           exact j5 _ (y25 == 0) a w (S.sb rfl (.c0 (.c0 .n))) h1
          ·refine s_gF S (b := (decide ((wr .i64 (((x1.1.drop (Int.toNat 1)).length : Int) - ((gt x1.1 0).2.2))) < ((y24).length : Int)))) rfl rfl c15 rfl fun a S => s_gF S (b := (decide ((wr .i64 (((x1.1.drop (Int.toNat 1)).length : Int) - ((gt x1.1 0).2.2))) < ((y24).length : Int)))) rfl rfl c15 rfl fun a S => s_gF S (b := (decide ((wr .i64 (((x1.1.drop (Int.toNat 1)).length : Int) - ((gt x1.1 0).2.2))) < ((y24).length : Int)))) rfl rfl c15 rfl fun a S => s_gF S (b := (decide ((wr .i64 (((x1.1.drop (Int.toNat 1)).length : Int) - ((gt x1.1 0).2.2))) < ((y24).length : Int)))) rfl rfl c15 rfl fun a S => s_gF S (b := (decide ((wr .i64 (((x1.1.drop (Int.toNat 1)).length : Int) - ((gt x1.1 0).2.2))) < ((y24).length : Int)))) rfl rfl c15 rfl fun a S => s_pick S (b := false) (hc_of rfl c15) rfl rfl fun a S => c_end' (x_thenN ?_)
           exact j5 _ false a w (S.sb rfl (.c0 (.c0 .n))) h1
     refine c_region' (s_fieldAddr S rfl I54_0 T4 (by decide) rfl rfl fun a S => s_load1 S rfl .h T4 (v := (.bool ((gt x1.1 0).1))) rfl rfl fun a S => s_not S rfl rfl fun a S => s_move S rfl rfl fun a S => ?_)
     rcases ite_of h1 with ⟨c16, h2⟩ | ⟨c16, h2⟩
     ·refine s_gT S (b := (!((gt x1.1 0).1))) rfl rfl c16 (s_fieldAddr S rfl I54_1 T37 (by decide) rfl rfl fun a S => s_gT S (b := (!((gt x1.1 0).1))) rfl rfl c16 (s_loadSl S rfl .h T37 (A := A3) (len := ((gt x1.1 0).2.1).length) (cap := cp5) rfl rfl fun a S => s_gT S (b := (!((gt x1.1 0).1))) rfl rfl c16 (s_lenS S rfl underlying37 rfl fun a S => s_gT S (b := (!((gt x1.1 0).1))) rfl rfl c16 (s_bin S rfl rfl rfl rfl fun a S => s_pick S (b := true) (hc_of rfl c16) rfl rfl fun a S => s_move S rfl rfl fun a S => ?_))))
      rcases ite_of h2 with ⟨c17, h3⟩ | ⟨c17, h3⟩
      ·refine s_gT S (b := ((((gt x1.1 0).2.1).length : Int) == 1)) rfl rfl c17 (s_fieldAddr S rfl I54_1 T37 (by decide) rfl rfl fun a S => s_gT S (b := ((((gt x1.1 0).2.1).length : Int) == 1)) rfl rfl c17 (s_loadSl S rfl .h T37 (A := A3) (len := ((gt x1.1 0).2.1).length) (cap := cp5) rfl rfl fun a S => s_gT S (b := ((((gt x1.1 0).2.1).length : Int) == 1)) rfl rfl c17 ?_))
       obtain ⟨c18, h4⟩ := chk_of h3; clear h3
       refine s_iaddrS S rfl rfl rfl underlying37 T5 c18.1 c18.2 rfl fun p4 a S => s_gT S (b := ((((gt x1.1 0).2.1).length : Int) == 1)) rfl rfl c17 (s_ld1 S (v := (.int .u8 (rd ((gt x1.1 0).2.1) 0))) rfl T5 (fun _ => rfl) rfl fun a S => s_gT S (b := ((((gt x1.1 0).2.1).length : Int) == 1)) rfl rfl c17 (s_bin S rfl rfl rfl rfl fun a S => s_pick S (b := true) (hc_of rfl c17) rfl rfl fun a S => s_assign S rfl rfl fun a S => c_end' (x_thenN ?_)))
       exact j3 _ (decide ((rd ((gt x1.1 0).2.1) 0) < 128)) g4 a w (S.sb rfl (.c0 (.c0 .n))) h4
      ·refine s_gF S (b := ((((gt x1.1 0).2.1).length : Int) == 1)) rfl rfl c17 rfl fun a S => s_gF S (b := ((((gt x1.1 0).2.1).length : Int) == 1)) rfl rfl c17 rfl fun a S => s_gF S (b := ((((gt x1.1 0).2.1).length : Int) == 1)) rfl rfl c17 rfl fun a S => s_gF S (b := ((((gt x1.1 0).2.1).length : Int) == 1)) rfl rfl c17 rfl fun a S => s_gF S (b := ((((gt x1.1 0).2.1).length : Int) == 1)) rfl rfl c17 rfl fun a S => s_pick S (b := false) (hc_of rfl c17) rfl rfl fun a S => s_assign S rfl rfl fun a S => c_end' (x_thenN ?_)
       exact j3 _ false g4 a w (S.sb rfl (.c0 (.c0 .n))) h3
     ·refine s_gF S (b := (!((gt x1.1 0).1))) rfl rfl c16 rfl fun a S => s_gF S (b := (!((gt x1.1 0).1))) rfl rfl c16 rfl fun a S => s_gF S (b := (!((gt x1.1 0).1))) rfl rfl c16 rfl fun a S => s_gF S (b := (!((gt x1.1 0).1))) rfl rfl c16 rfl fun a S => s_pick S (b := false) (hc_of rfl c16) rfl rfl fun a S => s_move S rfl rfl fun a S => s_gF S (b := false) rfl rfl rfl rfl fun a S => s_gF S (b := false) rfl rfl rfl rfl fun a S => s_gF S (b := false) rfl rfl rfl rfl fun a S => s_gF S (b := false) rfl rfl rfl rfl fun a S => s_gF S (b := false) rfl rfl rfl rfl fun a S => s_pick S (b := false) (hc_of rfl rfl) rfl rfl fun a S => s_assign S rfl rfl fun a S => c_end' (x_thenN ?_)
      exact j3 _ false g4 a w (S.sb rfl (.c0 (.c0 .n))) h2
   refine wp_seq_k fun K6 hK6 => ?_
   have j6 : ∀ m y27 g7 A11 cp23 A12 cp24 a w, St 154 m b0 [(37, (.b y27)), (5, (.p g7)), (0, (.p ch_0_0)), (1, (.i x2))] [Res.cells g7 54 [.b ((gt x1.1 0).1), .q yb A12 cp24 ((gt x1.1 0).2.1), .i ((gt x1.1 0).2.2)], Res.cells ch_0_0 98 [.q Y54 A11 cp23 (x1.1.drop (Int.toNat 1)), .i x1.2]] a w → rlp_writer_item.j6 k self0 x1 x2 y27 = some r → K6 a w := by
    intro m y27 g7 A11 cp23 A12 cp24 a w S h0
    delta rlp_writer_item.j6 at h0
    refine hK6 a w ?_
    rcases ite_of h0 with ⟨c19, h1⟩ | ⟨c19, h1⟩
    ·refine c_condT S rfl c19 (wp_skip (x_thenN ?_))
     exact j2 _ y27 g7 A11 cp23 A12 cp24 a w (S.sb rfl (.c0 (.c0 .n))) h1
    ·refine c_condF S rfl c19 (wp_seq_k fun K7 hK7 => ?_)
     have j7 : ∀ m y28 g8 a w, St 154 m b0 [(37, (.b y28)), (5, (.p g8)), (0, (.p ch_0_0)), (1, (.i x2))] [Res.cells g8 54 [.b ((gt x1.1 0).1), .q yb A12 cp24 ((gt x1.1 0).2.1), .i ((gt x1.1 0).2.2)], Res.cells ch_0_0 98 [.q Y54 A11 cp23 (x1.1.drop (Int.toNat 1)), .i x1.2]] a w → rlp_writer_item.j7 k self0 x1 x2 y28 = some r → K7 a w := by
      intro m y28 g8 a w S h0
      delta rlp_writer_item.j7 at h0
      refine hK7 a w ?_
      rcases ite_of h0 with ⟨c20, h1⟩ | ⟨c20, h1⟩
      ·refine c_condT S rfl c20 (wp_skip (x_thenN ?_))
       exact j2 _ y28 g8 A11 cp23 A12 cp24 a w (S.sb rfl (.c0 (.c0 .n))) h1
      ·refine c_condF S rfl c20 (c_heldS S (.take 0 (.take 1 (.take 2 (.take 3 (.take 4 (.take 5 (.take 6 (.take 7 (.take 8 (.take 9 (.take 10 (.take 11 (.take 12 (.take 13 .done)))))))))))))) 14 [Res.cells g8 54 [.b ((gt x1.1 0).1), .q yb A12 cp24 ((gt x1.1 0).2.1), .i ((gt x1.1 0).2.2)], Res.cells ch_0_0 98 [.q Y54 A11 cp23 (x1.1.drop (Int.toNat 1)), .i x1.2]] (.c0 (.c0 .n)) ⟨Res.stay_cells, Res.stay_cells, trivial⟩ [(5, (.p g8)), (0, (.p ch_0_0))] (subR rfl) (by kernel_rfl) (by kernel_rfl) fun w S CL hw le => ?_)
       refine h_fieldAddr S CL hw le (subR rfl) rfl I54_2 T3 (by decide) rfl rfl rfl trivial fun a S CL => h_load1 S CL hw le (subR rfl) rfl .h T3 (v := (.int .i64 ((gt x1.1 0).2.2))) rfl rfl rfl trivial fun a S CL => h_bin S CL hw le (subR rfl) rfl rfl rfl rfl rfl trivial fun a S CL => h_move S CL hw le (subR rfl) rfl rfl rfl trivial fun a S CL => ?_
       rcases ite_of h1 with ⟨c21, h2⟩ | ⟨c21, h2⟩
       ·refine h_skip S CL rfl rfl rfl (ne_bool c21) rfl fun a S CL => h_skip S CL rfl rfl rfl (ne_bool c21) rfl fun a S CL => h_skip S CL rfl rfl rfl (ne_bool c21) rfl fun a S CL => h_skip S CL rfl rfl rfl (ne_bool c21) rfl fun a S CL => h_skip S CL rfl rfl rfl (ne_bool c21) rfl fun a S CL => h_skip S CL rfl rfl rfl (ne_bool c21) rfl fun a S CL => h_skip S CL rfl rfl rfl (ne_bool c21) rfl fun a S CL => h_skip S CL rfl rfl rfl (ne_bool c21) rfl fun a S CL => h_pick S CL hw le (subR rfl) (b := true) (hc_of rfl c21) rfl rfl rfl trivial fun a S CL => h_assign S CL hw le (subR rfl) rfl rfl rfl trivial fun a S CL => ?_
        refine h_done ?_; clear CL hw le
        refine x_thenN ?_
        exact j2 _ true g8 A11 cp23 A12 cp24 a w (S.sb rfl (.c0 (.c0 .n))) h2
       ·refine h_fieldAddr S CL hw le (subR rfl) rfl I54_2 T3 (by decide) rfl rfl rfl ⟨_, _, rfl, rfl, c21⟩ fun a S CL => h_load1 S CL hw le (subR rfl) rfl .h T3 (v := (.int .i64 ((gt x1.1 0).2.2))) rfl rfl rfl ⟨_, _, rfl, rfl, c21⟩ fun a S CL => h_move S CL hw le (subR rfl) rfl rfl rfl ⟨_, _, rfl, rfl, c21⟩ fun a S CL => h_nilchk S CL hw le (subR rfl) rfl rfl rfl rfl ⟨_, _, rfl, rfl, c21⟩ fun a S CL => h_fieldAddr S CL hw le (subR rfl) rfl I98_0 T51 (by decide) rfl rfl rfl ⟨_, _, rfl, rfl, c21⟩ fun a S CL => h_loadSl S CL hw le (subR rfl) rfl .h1 T51 (A := A11) (len := (x1.1.drop (Int.toNat 1)).length) (cap := cp23) rfl rfl rfl ⟨_, _, rfl, rfl, c21⟩ fun a S CL => h_lenS S CL hw le (subR rfl) rfl underlying51 rfl rfl ⟨_, _, rfl, rfl, c21⟩ fun a S CL => h_bin S CL hw le (subR rfl) rfl rfl rfl rfl rfl ⟨_, _, rfl, rfl, c21⟩ fun a S CL => h_pick S CL hw le (subR rfl) (b := false) (hc_of rfl c21) rfl rfl rfl trivial fun a S CL => h_assign S CL hw le (subR rfl) rfl rfl rfl trivial fun a S CL => ?_
        refine h_done ?_; clear CL hw le
        refine x_thenN ?_
        exact j2 _ (decide (((x1.1.drop (Int.toNat 1)).length : Int) < ((gt x1.1 0).2.2))) g8 A11 cp23 A12 cp24 a w (S.sb rfl (.c0 (.c0 .n))) h2
     refine c_region' (s_fieldAddr S rfl I54_0 T4 (by decide) rfl rfl fun a S => s_load1 S rfl .h T4 (v := (.bool ((gt x1.1 0).1))) rfl rfl fun a S => s_move S rfl rfl fun a S => ?_)
     rcases ite_of h1 with ⟨c22, h2⟩ | ⟨c22, h2⟩
     ·refine s_gT S (b := ((gt x1.1 0).1)) rfl rfl c22 (s_fieldAddr S rfl I54_1 T37 (by decide) rfl rfl fun a S => s_gT S (b := ((gt x1.1 0).1)) rfl rfl c22 (s_loadSl S rfl .h T37 (A := A12) (len := ((gt x1.1 0).2.1).length) (cap := cp24) rfl rfl fun a S => s_gT S (b := ((gt x1.1 0).1)) rfl rfl c22 (s_lenS S rfl underlying37 rfl fun a S => s_gT S (b := ((gt x1.1 0).1)) rfl rfl c22 (s_bin S rfl rfl rfl rfl fun a S => s_pick S (b := true) (hc_of rfl c22) rfl rfl fun a S => s_assign S rfl rfl fun a S => c_end' (x_thenN ?_)))))
      exact j7 _ (decide (0 < (((gt x1.1 0).2.1).length : Int))) g7 a w (S.sb rfl (.c0 (.c0 .n))) h2
     ·refine s_gF S (b := ((gt x1.1 0).1)) rfl rfl c22 rfl fun a S => s_gF S (b := ((gt x1.1 0).1)) rfl rfl c22 rfl fun a S => s_gF S (b := ((gt x1.1 0).1)) rfl rfl c22 rfl fun a S => s_gF S (b := ((gt x1.1 0).1)) rfl rfl c22 rfl fun a S => s_pick S (b := false) (hc_of rfl c22) rfl rfl fun a S => s_assign S rfl rfl fun a S => c_end' (x_thenN ?_)
      exact j7 _ false g7 a w (S.sb rfl (.c0 (.c0 .n))) h2
   refine c_region' (s_fieldAddr S rfl I54_0 T4 (by decide) rfl rfl fun a S => s_load1 S rfl .h T4 (v := (.bool ((gt x1.1 0).1))) rfl rfl fun a S => s_not S rfl rfl fun a S => s_move S rfl rfl fun a S => ?_)
   rcases ite_of h3 with ⟨c23, h4⟩ | ⟨c23, h4⟩
   ·refine s_gT S (b := (!((gt x1.1 0).1))) rfl rfl c23 (s_fieldAddr S rfl I54_2 T3 (by decide) rfl rfl fun a S => s_gT S (b := (!((gt x1.1 0).1))) rfl rfl c23 (s_load1 S rfl .h T3 (v := (.int .i64 ((gt x1.1 0).2.2))) rfl rfl fun a S => s_gT S (b := (!((gt x1.1 0).1))) rfl rfl c23 (s_bin S rfl rfl rfl rfl fun a S => s_pick S (b := true) (hc_of rfl c23) rfl rfl fun a S => s_assign S rfl rfl fun a S => c_end' (x_thenN ?_))))
    exact j6 _ (((gt x1.1 0).2.2) != 0) g1 A1 cp1 ch2.2.1.1 ch2.2.1.2 a w (S.sb rfl (.c0 (.c0 .n))) h4
   ·refine s_gF S (b := (!((gt x1.1 0).1))) rfl rfl c23 rfl fun a S => s_gF S (b := (!((gt x1.1 0).1))) rfl rfl c23 rfl fun a S => s_gF S (b := (!((gt x1.1 0).1))) rfl rfl c23 rfl fun a S => s_pick S (b := false) (hc_of rfl c23) rfl rfl fun a S => s_assign S rfl rfl fun a S => c_end' (x_thenN ?_)
    exact j6 _ false g1 A1 cp1 ch2.2.1.1 ch2.2.1.2 a w (S.sb rfl (.c0 (.c0 .n))) h4
 refine c_region' (s_move S rfl rfl fun a S => s_nilchk S rfl rfl fun a S => s_fieldAddr S rfl I98_1 T73 (by decide) rfl rfl fun a S => s_load1 S rfl .h T73 (v := (.int .i64 x1.2)) rfl rfl fun a S => s_bin S rfl rfl rfl rfl fun a S => s_move S rfl rfl fun a S => ?_)
 rcases ite_of h0 with ⟨c24, h1⟩ | ⟨c24, h1⟩
 ·refine s_gF S (b := (x1.2 != 0)) rfl rfl c24 rfl fun a S => s_gF S (b := (x1.2 != 0)) rfl rfl c24 rfl fun a S => s_gF S (b := (x1.2 != 0)) rfl rfl c24 rfl fun a S => s_gF S (b := (x1.2 != 0)) rfl rfl c24 rfl fun a S => s_gF S (b := (x1.2 != 0)) rfl rfl c24 rfl fun a S => s_gF S (b := (x1.2 != 0)) rfl rfl c24 rfl fun a S => s_pick S (b := true) (hc_of rfl c24) rfl rfl fun a S => c_end' (x_thenN ?_)
  exact j1 _ true a w0 (S.sb rfl (.c0 .n)) h1
 ·refine s_gT S (b := (x1.2 != 0)) rfl rfl c24 (s_move S rfl rfl fun a S => s_gT S (b := (x1.2 != 0)) rfl rfl c24 (s_nilchk S rfl rfl fun a S => s_gT S (b := (x1.2 != 0)) rfl rfl c24 (s_fieldAddr S rfl I98_0 T51 (by decide) rfl rfl fun a S => s_gT S (b := (x1.2 != 0)) rfl rfl c24 (s_loadSl S rfl .h T51 (A := ch_0_1) (len := (x1.1).length) (cap := ch_0_2) rfl rfl fun a S => s_gT S (b := (x1.2 != 0)) rfl rfl c24 (s_lenS S rfl underlying51 rfl fun a S => s_gT S (b := (x1.2 != 0)) rfl rfl c24 (s_bin S rfl rfl rfl rfl fun a S => s_pick S (b := false) (hc_of rfl c24) rfl rfl fun a S => c_end' (x_thenN ?_)))))))
  exact j1 _ (((x1.1).length : Int) == 0) a w0 (S.sb rfl (.c0 .n)) h1
def rlp_writer_item.f : Nat → rlp_writer_item.Ty
  | 0 => fun _ _ => none
  | k + 1 => rlp_writer_item.body (rlp_writer_item.f k) k
theorem rlp_writer_item.oks : ∀ k : Nat, rlp_writer_item.Ctr (rlp_writer_item.f k)
  | 0 => fun _ _ _ _ _ r h0 => (nomatch (show (none : Option ((List Int) × ((List (Bool × (List Int) × Int)) × Int))) = some r from h0))
  | k + 1 => by
    have ih := rlp_writer_item.oks k
    exact rlp_writer_item.okb (rlp_writer_item.f k) ih k
theorem rlp_writer_item.ok (k : Nat) : rlp_writer_item.Ctr (rlp_writer_item.f k) := (rlp_writer_item.oks k)
abbrev rlp_Encode.Ty : Type := (List (Bool × (List Int) × Int)) → Option ((List Int) × Int)
def rlp_Encode.Ctr (s : rlp_Encode.Ty) : Prop := ∀ (x1 : List (Bool × (List Int) × Int)) (ch_0_0 : Option Addr) (ch_0_1 : Nat) (r : (List Int) × Int), Ct (C := ((Option Addr) × Nat)) Tryd.prog 41 (s x1 = some r) [] [(.q Y54 ch_0_0 ch_0_1 x1)] (fun ch => (.tup [(false, [.q yb ch.1 ch.2 r.1]), (false, [.i r.2])])) fun _ => []
def rlp_Encode.f (k : Nat) (x1 : List (Bool × (List Int) × Int)) : Option ((List Int) × Int) := (rlp_one.f k x1).bind fun t1 => (if (!t1) = true then (some (([] : List Int), 2)) else ((rlp_writer_item.f k (x1, 0) 0).bind fun t2 => (if (t2.2.2 != 0) = true then (some (([] : List Int), t2.2.2)) else (if (decide (1048576 < ((t2.1).length : Int))) = true then (some (([] : List Int), 4)) else (some (t2.1, 0))))))
theorem rlp_Encode.ok (k : Nat) : rlp_Encode.Ctr (rlp_Encode.f k) := by
 intro x1 ch_0_0 ch_0_1 r h0 mi w0 ok hm
 delta rlp_Encode.f at h0
 refine c_enterZ (n := 29) ok hm func41 rfl rfl rfl fun b0 hb a S => c_region (s_assign S rfl rfl fun a S => s_assign S rfl rfl fun a S => c_end (wp_seq (c_region (s_move S rfl rfl fun a S => bindX h0 fun t1 et1 h1 => s_callP S _ N67 rfl rfl (rlp_one.ok k x1 ch_0_0 ch_0_1 t1 et1 _ _) fun ch1 m le1 a w S => s_not S rfl rfl fun a S => c_end ?_))))
 rcases ite_of h1 with ⟨c1, h2⟩ | ⟨c1, h2⟩
 ·refine c_condT S rfl c1 (c_region (s_assign S rfl rfl fun a S => s_assign S rfl rfl fun a S => c_end (wp_ret (x_thenR ?_))))
  replace S := S.slot (u := 2) (d' := (.q yb none 0 ([] : List Int))) rfl rfl ok_nil
  obtain rfl := Option.some.inj h2
  exact b_ret2 (d1 := (.q yb none 0 ([] : List Int))) (d2 := (.i 2)) S rfl rfl rfl fun ok1 ok2 => S.retX (Hx := []) hb _ _ ((none, 0) : (Option Addr) × Nat) .nil ⟨⟨ok1, trivial⟩, ⟨ok2, trivial⟩, trivial⟩
 ·refine c_condF S rfl c1 (wp_skip (x_thenN (c_region (s_move S rfl rfl fun a S => s_bldS S (ds := [(0, (.q Y54 ch_0_0 ch_0_1 x1))]) (zs := [.s none 0 0, .i 0]) (s' := [.q Y54 ch_0_0 ch_0_1 x1, .i 0]) rfl underlying98 P98 Z98 ⟨rfl, rfl, trivial⟩ rfl rfl fun a S => s_box S rfl rfl rfl fun g1 a w S => s_assign S rfl rfl fun a S => c_end (c_region (s_move S rfl rfl fun a S => bindX h2 fun t2 et2 h3 => s_callX S (ds' := [(.p g1), (.i 0)]) (ds := [(.p g1), (.i 0)]) [Res.cells g1 98 [.q Y54 ch_0_0 ch_0_1 x1, .i 0]] [] (fun (ch : (Option Addr) × Nat × (Option Addr) × Nat) => ((.q yb ch.1 ch.2.1 t2.1) : D)) (fun (ch : (Option Addr) × Nat × (Option Addr) × Nat) => [Res.cells g1 98 [.q Y54 ch.2.2.1 ch.2.2.2 t2.2.1, .i t2.2.2]]) (fun (ch : (Option Addr) × Nat × (Option Addr) × Nat) => [Res.cells g1 98 [.q Y54 ch.2.2.1 ch.2.2.2 t2.2.1, .i t2.2.2]]) (fun _ => rfl) N68 rfl rfl (fun ok => ok) (.c0 .n) rfl (rlp_writer_item.ok k (x1, 0) 0 g1 ch_0_0 ch_0_1 t2 et2 _ _) fun ch2 m le1 a w S => s_assign S rfl rfl fun a S => c_end (wp_seq (wp_block (c_region (s_move S rfl rfl fun a S => s_nilchk S rfl rfl fun a S => s_fieldAddr S rfl I98_1 T73 (by decide) rfl rfl fun a S => s_load1 S rfl .h T73 (v := (.int .i64 t2.2.2)) rfl rfl fun a S => s_bin S rfl rfl rfl rfl fun a S => s_assign S rfl rfl fun a S => c_end ?_))))))))))
  rcases ite_of h3 with ⟨c2, h4⟩ | ⟨c2, h4⟩
  ·refine c_condT S rfl c2 ?_
   refine wp_seq (c_heldS S (.take 0 (.take 1 (.take 2 (.take 3 (.take 4 (.take 5 .done)))))) 6 [Res.cells g1 98 [.q Y54 ch2.2.2.1 ch2.2.2.2 t2.2.1, .i t2.2.2]] (.c0 .n) ⟨Res.stay_cells, trivial⟩ [(4, (.p g1))] ⟨rfl, trivial⟩ (by kernel_rfl) (by kernel_rfl) ?_); clear S; intro w S CL hw le
   refine h_move S CL hw le ⟨rfl, trivial⟩ rfl rfl rfl trivial fun a S CL => h_nilchk S CL hw le (subR rfl) rfl rfl rfl rfl trivial fun a S CL => h_fieldAddr S CL hw le (subR rfl) rfl I98_1 T73 (by decide) rfl rfl rfl trivial fun a S CL => h_load1 S CL hw le (subR rfl) rfl .h T73 (v := (.int .i64 t2.2.2)) rfl rfl rfl trivial fun a S CL => h_assign S CL hw le (subR rfl) rfl rfl rfl trivial fun a S CL => h_assign S CL hw le (subR rfl) rfl rfl rfl trivial fun a S CL => ?_
   refine h_done ?_; clear CL hw le
   refine x_thenN (wp_ret (x_blockR (x_thenR ?_)))
   replace S := S.slot (u := 2) (d' := (.q yb none 0 ([] : List Int))) rfl rfl ok_nil
   obtain rfl := Option.some.inj h4
   exact b_ret2 (d1 := (.q yb none 0 ([] : List Int))) (d2 := (.i t2.2.2)) S rfl rfl rfl fun ok1 ok2 => S.retX (Hx := []) hb _ _ ((none, 0) : (Option Addr) × Nat) .nil ⟨⟨ok1, trivial⟩, ⟨ok2, trivial⟩, trivial⟩
  ·refine c_condF S rfl c2 (c_region (s_move S rfl rfl fun a S => s_lenS S rfl underlying37 rfl fun a S => s_bin S rfl rfl rfl rfl fun a S => s_assign S rfl rfl fun a S => c_end ?_))
   rcases ite_of h4 with ⟨c3, h5⟩ | ⟨c3, h5⟩
   ·refine c_condT S rfl c3 (c_region (s_assign S rfl rfl fun a S => s_assign S rfl rfl fun a S => c_end (wp_ret (x_blockR (x_thenR ?_)))))
    replace S := S.slot (u := 2) (d' := (.q yb none 0 ([] : List Int))) rfl rfl ok_nil
    obtain rfl := Option.some.inj h5
    exact b_ret2 (d1 := (.q yb none 0 ([] : List Int))) (d2 := (.i 4)) S rfl rfl rfl fun ok1 ok2 => S.retX (Hx := []) hb _ _ ((none, 0) : (Option Addr) × Nat) .nil ⟨⟨ok1, trivial⟩, ⟨ok2, trivial⟩, trivial⟩
   ·refine c_condF S rfl c3 (wp_skip (x_blockN (x_thenN (c_region (s_move S rfl rfl fun a S => s_assign S rfl rfl fun a S => s_assign S rfl rfl fun a S => c_end (wp_ret ?_))))))
    obtain rfl := Option.some.inj h5
    exact b_ret2 (d1 := (.q yb ch2.1 ch2.2.1 t2.1)) (d2 := (.i 0)) S rfl rfl rfl fun ok1 ok2 => S.retX (Hx := []) hb _ _ ((ch2.1, ch2.2.1) : (Option Addr) × Nat) .nil ⟨⟨ok1, trivial⟩, ⟨ok2, trivial⟩, trivial⟩
abbrev bits_RotateLeft64.Ty : Type := Int → Int → Option Int
def bits_RotateLeft64.Ctr (s : bits_RotateLeft64.Ty) : Prop := ∀ (x1 : Int) (x2 : Int) (r : Int), Ct (C := Unit) Tryd.prog 96 (s x1 x2 = some r) [] [(.w x1), (.i x2)] (fun _ => (.w r)) fun _ => []
def bits_RotateLeft64.f (x1 : Int) (x2 : Int) : Option Int := if (0 : Int) ≤ (bits .and .u64 (wr .u64 x2) 63) then (if (0 : Int) ≤ (wr .u64 (64 - (bits .and .u64 (wr .u64 x2) 63))) then (some (bits .or .u64 (shl .u64 x1 (min (Int.toNat (bits .and .u64 (wr .u64 x2) 63)) 64)) (shr x1 (min (Int.toNat (wr .u64 (64 - (bits .and .u64 (wr .u64 x2) 63)))) 64)))) else none) else none
theorem bits_RotateLeft64.ok : bits_RotateLeft64.Ctr (bits_RotateLeft64.f) := by
 intro x1 x2 r h0 mi w0 ok hm
 delta bits_RotateLeft64.f at h0
 refine c_enterZ (n := 17) ok hm func96 rfl rfl rfl fun b0 hb a S => c_region (s_assign S rfl rfl fun a S => c_end (c_region (s_move S rfl rfl fun a S => s_conv S rfl rfl underlying125 rfl fun a S => s_bin S rfl rfl rfl rfl fun a S => s_assign S rfl rfl fun a S => c_end (c_region (s_move S rfl rfl fun a S => s_move S rfl rfl fun a S => ?_)))))
 obtain ⟨c1, h1⟩ := chk_of h0; clear h0
 refine s_shl S (e := (min (Int.toNat (bits .and .u64 (wr .u64 x2) 63)) 64)) rfl rfl c1 rfl rfl fun a S => s_move S rfl rfl fun a S => s_move S rfl rfl fun a S => s_bin S rfl rfl rfl rfl fun a S => ?_
 obtain ⟨c2, h2⟩ := chk_of h1; clear h1
 refine s_shr S (e := (min (Int.toNat (wr .u64 (64 - (bits .and .u64 (wr .u64 x2) 63)))) 64)) rfl rfl c2 rfl rfl fun a S => s_bin S rfl rfl rfl rfl fun a S => s_assign S rfl rfl fun a S => c_end (wp_ret ?_)
 obtain rfl := Option.some.inj h2
 exact b_ret1 (d := (.w (bits .or .u64 (shl .u64 x1 (min (Int.toNat (bits .and .u64 (wr .u64 x2) 63)) 64)) (shr x1 (min (Int.toNat (wr .u64 (64 - (bits .and .u64 (wr .u64 x2) 63)))) 64))))) S rfl rfl (S.rt hb)
end GW
