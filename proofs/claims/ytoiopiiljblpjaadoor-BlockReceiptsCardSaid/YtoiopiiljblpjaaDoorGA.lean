/-
  Printed by a program of these sessions (wip/gw/gx.py): for each Go function a Lean function with the same answers, and the walk that shows it.
-/
import Derived.Test.YtoiopiiljblpjaaDoorProg
import Derived.Test.YtoiopiiljblpjaaDoorGWRQui
set_option linter.unusedVariables false
set_option maxRecDepth 10000
namespace GW
open Go Go.RowKit Go.Proofs
def tbl_keccak_constants : List Int := [1, 32898, 9223372036854808714, 9223372039002292224, 32907, 2147483649, 9223372039002292353, 9223372036854808585, 138, 136, 2147516425, 2147483658, 2147516555, 9223372036854775947, 9223372036854808713, 9223372036854808579, 9223372036854808578, 9223372036854775936, 32778, 9223372039002259466, 9223372039002292353, 9223372036854808704, 2147483649, 9223372039002292232]
def tbl_keccak_places : List Int := [10, 7, 11, 17, 18, 3, 5, 16, 8, 21, 24, 4, 15, 23, 19, 13, 12, 2, 20, 14, 22, 9, 6, 1]
def tbl_keccak_turns : List Int := [1, 3, 6, 10, 15, 21, 28, 36, 45, 55, 2, 14, 27, 41, 56, 8, 25, 43, 62, 18, 39, 61, 20, 44]
def Glob (m : Mem) : Prop := FroAt m 0 [.ints .u64 tbl_keccak_constants 24] ∧ FroAt m 1 [.ints .i64 tbl_keccak_places 24] ∧ FroAt m 2 [.ints .i64 tbl_keccak_turns 24]
theorem Glob.mono {m m' : Mem} (h : Glob m) (hm : LeM m m') : Glob m' := ⟨(FroAt.mono hm h.1), (FroAt.mono hm h.2.1), (FroAt.mono hm h.2.2)⟩
theorem T39 : tyI Tryd.prog 39 = some (true, 49) := by kernel_rfl
theorem I39_7 : fieldI Tryd.prog 39 7 = some (48, 37) := by kernel_rfl
theorem T37 : tyI Tryd.prog 37 = some (false, 1) := by kernel_rfl
theorem I39_6 : fieldI Tryd.prog 39 6 = some (47, 36) := by kernel_rfl
theorem T36 : tyI Tryd.prog 36 = some (false, 1) := by kernel_rfl
theorem T68 : tyI Tryd.prog 68 = some (true, 22) := by kernel_rfl
theorem I68_1 : fieldI Tryd.prog 68 1 = some (20, 66) := by kernel_rfl
theorem T66 : tyI Tryd.prog 66 = some (false, 1) := by kernel_rfl
theorem I68_2 : fieldI Tryd.prog 68 2 = some (21, 37) := by kernel_rfl
theorem N11 : Fn_ Tryd.prog 11 := ⟨_, Tryd.func11, rfl, by decide⟩
theorem P30 : ∀ w : World, ((match Tryd.prog.underlying 30 with | some (.struct fs) => fs | _ => (#[] : Array Field)).mapM fun (f : Field) => (do pure (f.offset, ← Go.sizeOf f.type) : Sem (Nat × Nat))).run Tryd.prog w = .ok #[(0, 32), (32, 1), (33, 1), (34, 1), (35, 1), (36, 4), (40, 20), (60, 4), (64, 32), (96, 32)] w := fun _ => by kernel_rfl
theorem Z30 : zeroI Tryd.prog 30 = some (D.val (.agg [.ints .u8 [0, 0, 0, 0, 0, 0, 0, 0, 0, 0, 0, 0, 0, 0, 0, 0, 0, 0, 0, 0, 0, 0, 0, 0, 0, 0, 0, 0, 0, 0, 0, 0] 32, .one (.int .u64 0), .one (.int .u64 0), .one (.int .u64 0), .one (.int .u64 0), .ints .u64 [0, 0, 0, 0] 4, .ints .u8 [0, 0, 0, 0, 0, 0, 0, 0, 0, 0, 0, 0, 0, 0, 0, 0, 0, 0, 0, 0] 20, .ints .u64 [0, 0, 0, 0] 4, .ints .u8 [0, 0, 0, 0, 0, 0, 0, 0, 0, 0, 0, 0, 0, 0, 0, 0, 0, 0, 0, 0, 0, 0, 0, 0, 0, 0, 0, 0, 0, 0, 0, 0] 32, .ints .u8 [0, 0, 0, 0, 0, 0, 0, 0, 0, 0, 0, 0, 0, 0, 0, 0, 0, 0, 0, 0, 0, 0, 0, 0, 0, 0, 0, 0, 0, 0, 0, 0] 32])) := by kernel_rfl
theorem T30 : tyI Tryd.prog 30 = some (true, 128) := by kernel_rfl
theorem Z23 : zeroI Tryd.prog 23 = some (D.val (.agg [.ints .u8 [0, 0, 0, 0, 0, 0, 0, 0, 0, 0, 0, 0, 0, 0, 0, 0, 0, 0, 0, 0, 0, 0, 0, 0, 0, 0, 0, 0, 0, 0, 0, 0] 32])) := by kernel_rfl
theorem I30_0 : fieldI Tryd.prog 30 0 = some (0, 23) := by kernel_rfl
theorem T23 : tyI Tryd.prog 23 = some (true, 32) := by kernel_rfl
theorem T5 : tyI Tryd.prog 5 = some (false, 1) := by kernel_rfl
theorem I30_1 : fieldI Tryd.prog 30 1 = some (32, 24) := by kernel_rfl
theorem T24 : tyI Tryd.prog 24 = some (false, 1) := by kernel_rfl
theorem I30_2 : fieldI Tryd.prog 30 2 = some (33, 24) := by kernel_rfl
theorem I30_3 : fieldI Tryd.prog 30 3 = some (34, 24) := by kernel_rfl
theorem I30_4 : fieldI Tryd.prog 30 4 = some (35, 24) := by kernel_rfl
theorem I30_5 : fieldI Tryd.prog 30 5 = some (36, 26) := by kernel_rfl
theorem T26 : tyI Tryd.prog 26 = some (true, 4) := by kernel_rfl
theorem I30_6 : fieldI Tryd.prog 30 6 = some (40, 28) := by kernel_rfl
theorem T28 : tyI Tryd.prog 28 = some (true, 20) := by kernel_rfl
theorem I30_7 : fieldI Tryd.prog 30 7 = some (60, 26) := by kernel_rfl
theorem I30_8 : fieldI Tryd.prog 30 8 = some (64, 23) := by kernel_rfl
theorem I30_9 : fieldI Tryd.prog 30 9 = some (96, 23) := by kernel_rfl
theorem Z54 : zeroI Tryd.prog 54 = some (D.val (.agg [.one (.bool false), .one (.slice none 0 0), .one (.int .i64 0)])) := by kernel_rfl
theorem P54 : ∀ w : World, ((match Tryd.prog.underlying 54 with | some (.struct fs) => fs | _ => (#[] : Array Field)).mapM fun (f : Field) => (do pure (f.offset, ← Go.sizeOf f.type) : Sem (Nat × Nat))).run Tryd.prog w = .ok #[(0, 1), (1, 1), (2, 1)] w := fun _ => by kernel_rfl
theorem T54 : tyI Tryd.prog 54 = some (true, 3) := by kernel_rfl
theorem N23 : Fn_ Tryd.prog 23 := ⟨_, Tryd.func23, rfl, by decide⟩
theorem Z26 : zeroI Tryd.prog 26 = some (D.val (.agg [.ints .u64 [0, 0, 0, 0] 4])) := by kernel_rfl
theorem N43 : Fn_ Tryd.prog 43 := ⟨_, Tryd.func43, rfl, by decide⟩
theorem Z22 : zeroI Tryd.prog 22 = some (D.val (.agg [.ints .u8 [0, 0, 0, 0, 0, 0, 0, 0, 0, 0, 0, 0, 0, 0, 0, 0, 0, 0, 0, 0, 0, 0, 0, 0, 0, 0, 0, 0, 0, 0, 0, 0] 32])) := by kernel_rfl
theorem T22 : tyI Tryd.prog 22 = some (true, 32) := by kernel_rfl
theorem N45 : Fn_ Tryd.prog 45 := ⟨_, Tryd.func45, rfl, by decide⟩
theorem J5 : appI Tryd.prog 5 = some (1, 1) := by kernel_rfl
theorem Z5 : zeroI Tryd.prog 5 = some (D.val (.v (.int .u8 0))) := by kernel_rfl
def txt0 : ByteArray := ByteArray.mk #[0, 1, 2, 2, 3, 3, 3, 3, 4, 4, 4, 4, 4, 4, 4, 4, 5, 5, 5, 5, 5, 5, 5, 5, 5, 5, 5, 5, 5, 5, 5, 5, 6, 6, 6, 6, 6, 6, 6, 6, 6, 6, 6, 6, 6, 6, 6, 6, 6, 6, 6, 6, 6, 6, 6, 6, 6, 6, 6, 6, 6, 6, 6, 6, 7, 7, 7, 7, 7, 7, 7, 7, 7, 7, 7, 7, 7, 7, 7, 7, 7, 7, 7, 7, 7, 7, 7, 7, 7, 7, 7, 7, 7, 7, 7, 7, 7, 7, 7, 7, 7, 7, 7, 7, 7, 7, 7, 7, 7, 7, 7, 7, 7, 7, 7, 7, 7, 7, 7, 7, 7, 7, 7, 7, 7, 7, 7, 7, 8, 8, 8, 8, 8, 8, 8, 8, 8, 8, 8, 8, 8, 8, 8, 8, 8, 8, 8, 8, 8, 8, 8, 8, 8, 8, 8, 8, 8, 8, 8, 8, 8, 8, 8, 8, 8, 8, 8, 8, 8, 8, 8, 8, 8, 8, 8, 8, 8, 8, 8, 8, 8, 8, 8, 8, 8, 8, 8, 8, 8, 8, 8, 8, 8, 8, 8, 8, 8, 8, 8, 8, 8, 8, 8, 8, 8, 8, 8, 8, 8, 8, 8, 8, 8, 8, 8, 8, 8, 8, 8, 8, 8, 8, 8, 8, 8, 8, 8, 8, 8, 8, 8, 8, 8, 8, 8, 8, 8, 8, 8, 8, 8, 8, 8, 8, 8, 8, 8, 8, 8, 8, 8, 8, 8, 8, 8, 8]
theorem N93 : Fn_ Tryd.prog 93 := ⟨_, Tryd.func93, rfl, by decide⟩
theorem N86 : Fn_ Tryd.prog 86 := ⟨_, Tryd.func86, rfl, by decide⟩
theorem N70 : Fn_ Tryd.prog 70 := ⟨_, Tryd.func70, rfl, by decide⟩
theorem N44 : Fn_ Tryd.prog 44 := ⟨_, Tryd.func44, rfl, by decide⟩
theorem N25 : Fn_ Tryd.prog 25 := ⟨_, Tryd.func25, rfl, by decide⟩
theorem N24 : Fn_ Tryd.prog 24 := ⟨_, Tryd.func24, rfl, by decide⟩
theorem N26 : Fn_ Tryd.prog 26 := ⟨_, Tryd.func26, rfl, by decide⟩
theorem J54 : appI Tryd.prog 54 = some (3, 40) := by kernel_rfl
theorem J51 : appI Tryd.prog 51 = some (1, 24) := by kernel_rfl
theorem Z51 : zeroI Tryd.prog 51 = some (D.val (.v (.slice none 0 0))) := by kernel_rfl
theorem T51 : tyI Tryd.prog 51 = some (false, 1) := by kernel_rfl
theorem I54_2 : fieldI Tryd.prog 54 2 = some (2, 3) := by kernel_rfl
theorem T3 : tyI Tryd.prog 3 = some (false, 1) := by kernel_rfl
theorem N22 : Fn_ Tryd.prog 22 := ⟨_, Tryd.func22, rfl, by decide⟩
theorem I54_0 : fieldI Tryd.prog 54 0 = some (0, 4) := by kernel_rfl
theorem T4 : tyI Tryd.prog 4 = some (false, 1) := by kernel_rfl
theorem I54_1 : fieldI Tryd.prog 54 1 = some (1, 37) := by kernel_rfl
theorem J3 : appI Tryd.prog 3 = some (1, 8) := by kernel_rfl
theorem Z3 : zeroI Tryd.prog 3 = some (D.val (.v (.int .i64 0))) := by kernel_rfl
theorem N67 : Fn_ Tryd.prog 67 := ⟨_, Tryd.func67, rfl, by decide⟩
theorem P98 : ∀ w : World, ((match Tryd.prog.underlying 98 with | some (.struct fs) => fs | _ => (#[] : Array Field)).mapM fun (f : Field) => (do pure (f.offset, ← Go.sizeOf f.type) : Sem (Nat × Nat))).run Tryd.prog w = .ok #[(0, 1), (1, 1)] w := fun _ => by kernel_rfl
theorem Z98 : zeroI Tryd.prog 98 = some (D.val (.agg [.one (.slice none 0 0), .one (.int .i64 0)])) := by kernel_rfl
theorem I98_1 : fieldI Tryd.prog 98 1 = some (1, 73) := by kernel_rfl
theorem T73 : tyI Tryd.prog 73 = some (false, 1) := by kernel_rfl
theorem I98_0 : fieldI Tryd.prog 98 0 = some (0, 51) := by kernel_rfl
theorem N83 : Fn_ Tryd.prog 83 := ⟨_, Tryd.func83, rfl, by decide⟩
theorem N84 : Fn_ Tryd.prog 84 := ⟨_, Tryd.func84, rfl, by decide⟩
theorem N68 : Fn_ Tryd.prog 68 := ⟨_, Tryd.func68, rfl, by decide⟩
theorem N41 : Fn_ Tryd.prog 41 := ⟨_, Tryd.func41, rfl, by decide⟩
theorem Z100 : zeroI Tryd.prog 100 = some (D.val (.agg [.ints .u64 [0, 0, 0, 0, 0, 0, 0, 0, 0, 0, 0, 0, 0, 0, 0, 0, 0, 0, 0, 0, 0, 0, 0, 0, 0] 25])) := by kernel_rfl
theorem T100 : tyI Tryd.prog 100 = some (true, 25) := by kernel_rfl
theorem T118 : tyI Tryd.prog 118 = some (true, 24) := by kernel_rfl
theorem Z128 : zeroI Tryd.prog 128 = some (D.val (.agg [.ints .u64 [0, 0, 0, 0, 0] 5])) := by kernel_rfl
theorem N96 : Fn_ Tryd.prog 96 := ⟨_, Tryd.func96, rfl, by decide⟩
theorem T131 : tyI Tryd.prog 131 = some (true, 24) := by kernel_rfl
theorem T128 : tyI Tryd.prog 128 = some (true, 5) := by kernel_rfl
theorem N92 : Fn_ Tryd.prog 92 := ⟨_, Tryd.func92, rfl, by decide⟩
theorem N85 : Fn_ Tryd.prog 85 := ⟨_, Tryd.func85, rfl, by decide⟩
theorem N69 : Fn_ Tryd.prog 69 := ⟨_, Tryd.func69, rfl, by decide⟩
theorem Z102 : zeroI Tryd.prog 102 = some (D.val (.agg [.ints .u8 (List.replicate 136 0) 136])) := by kernel_rfl
theorem N42 : Fn_ Tryd.prog 42 := ⟨_, Tryd.func42, rfl, by decide⟩
theorem N21 : Fn_ Tryd.prog 21 := ⟨_, Tryd.func21, rfl, by decide⟩
theorem N7 : Fn_ Tryd.prog 7 := ⟨_, Tryd.func7, rfl, by decide⟩
theorem Z121 : zeroI Tryd.prog 121 = some (D.val (.agg [.ints .u64 [0, 0, 0, 0, 0, 0, 0, 0] 8])) := by kernel_rfl
theorem N89 : Fn_ Tryd.prog 89 := ⟨_, Tryd.func89, rfl, by decide⟩
theorem X75 : isExt Tryd.prog 75 add64Entry := ⟨_, Tryd.func75, by kernel_rfl, by kernel_rfl, by kernel_rfl, by kernel_rfl⟩
theorem N72 : Fn_ Tryd.prog 72 := ⟨_, Tryd.func72, rfl, by decide⟩
theorem Q26 : Tryd.prog.eqGuardType Tryd.prog.depth 26 = false := by kernel_rfl
theorem N53 : Fn_ Tryd.prog 53 := ⟨_, Tryd.func53, rfl, by decide⟩
theorem N76 : Fn_ Tryd.prog 76 := ⟨_, Tryd.func76, rfl, by decide⟩
theorem N56 : Fn_ Tryd.prog 56 := ⟨_, Tryd.func56, rfl, by decide⟩
theorem N95 : Fn_ Tryd.prog 95 := ⟨_, Tryd.func95, rfl, by decide⟩
theorem N90 : Fn_ Tryd.prog 90 := ⟨_, Tryd.func90, rfl, by decide⟩
theorem N91 : Fn_ Tryd.prog 91 := ⟨_, Tryd.func91, rfl, by decide⟩
theorem X74 : isExt Tryd.prog 74 subEntry := ⟨_, Tryd.func74, by kernel_rfl, by kernel_rfl, by kernel_rfl, by kernel_rfl⟩
theorem N54 : Fn_ Tryd.prog 54 := ⟨_, Tryd.func54, rfl, by decide⟩
theorem N73 : Fn_ Tryd.prog 73 := ⟨_, Tryd.func73, rfl, by decide⟩
theorem N52 : Fn_ Tryd.prog 52 := ⟨_, Tryd.func52, rfl, by decide⟩
theorem N55 : Fn_ Tryd.prog 55 := ⟨_, Tryd.func55, rfl, by decide⟩
theorem N36 : Fn_ Tryd.prog 36 := ⟨_, Tryd.func36, rfl, by decide⟩
theorem N57 : Fn_ Tryd.prog 57 := ⟨_, Tryd.func57, rfl, by decide⟩
theorem N37 : Fn_ Tryd.prog 37 := ⟨_, Tryd.func37, rfl, by decide⟩
theorem N34 : Fn_ Tryd.prog 34 := ⟨_, Tryd.func34, rfl, by decide⟩
theorem N33 : Fn_ Tryd.prog 33 := ⟨_, Tryd.func33, rfl, by decide⟩
theorem N9 : Fn_ Tryd.prog 9 := ⟨_, Tryd.func9, rfl, by decide⟩
theorem N14 : Fn_ Tryd.prog 14 := ⟨_, Tryd.func14, rfl, by decide⟩
theorem N6 : Fn_ Tryd.prog 6 := ⟨_, Tryd.func6, rfl, by decide⟩
theorem I39_2 : fieldI Tryd.prog 39 2 = some (21, 4) := by kernel_rfl
theorem J37 : appI Tryd.prog 37 = some (1, 24) := by kernel_rfl
theorem Z37 : zeroI Tryd.prog 37 = some (D.val (.v (.slice none 0 0))) := by kernel_rfl
theorem Z68 : zeroI Tryd.prog 68 = some (D.val (.agg [.ints .u8 [0, 0, 0, 0, 0, 0, 0, 0, 0, 0, 0, 0, 0, 0, 0, 0, 0, 0, 0, 0] 20, .one (.slice none 0 0), .one (.slice none 0 0)])) := by kernel_rfl
theorem Z81 : zeroI Tryd.prog 81 = some (D.val (.agg [.ints .i64 [0, 0, 0, 0, 0, 0, 0, 0, 0, 0, 0, 0, 0, 0, 0, 0, 0, 0, 0, 0, 0, 0, 0, 0, 0, 0, 0, 0, 0, 0, 0, 0] 32])) := by kernel_rfl
theorem T81 : tyI Tryd.prog 81 = some (true, 32) := by kernel_rfl
theorem N49 : Fn_ Tryd.prog 49 := ⟨_, Tryd.func49, rfl, by decide⟩
theorem N50 : Fn_ Tryd.prog 50 := ⟨_, Tryd.func50, rfl, by decide⟩
theorem N48 : Fn_ Tryd.prog 48 := ⟨_, Tryd.func48, rfl, by decide⟩
theorem N47 : Fn_ Tryd.prog 47 := ⟨_, Tryd.func47, rfl, by decide⟩
theorem N29 : Fn_ Tryd.prog 29 := ⟨_, Tryd.func29, rfl, by decide⟩
theorem N32 : Fn_ Tryd.prog 32 := ⟨_, Tryd.func32, rfl, by decide⟩
theorem I68_0 : fieldI Tryd.prog 68 0 = some (0, 28) := by kernel_rfl
theorem N28 : Fn_ Tryd.prog 28 := ⟨_, Tryd.func28, rfl, by decide⟩
theorem I39_0 : fieldI Tryd.prog 39 0 = some (0, 28) := by kernel_rfl
theorem I39_1 : fieldI Tryd.prog 39 1 = some (20, 24) := by kernel_rfl
theorem I39_3 : fieldI Tryd.prog 39 3 = some (22, 24) := by kernel_rfl
theorem I39_4 : fieldI Tryd.prog 39 4 = some (23, 26) := by kernel_rfl
theorem I39_5 : fieldI Tryd.prog 39 5 = some (27, 28) := by kernel_rfl
theorem N31 : Fn_ Tryd.prog 31 := ⟨_, Tryd.func31, rfl, by decide⟩
theorem N30 : Fn_ Tryd.prog 30 := ⟨_, Tryd.func30, rfl, by decide⟩
theorem Z118 : zeroI Tryd.prog 118 = some (D.val (.agg [.ints .u64 [0, 0, 0, 0, 0, 0, 0, 0, 0, 0, 0, 0, 0, 0, 0, 0, 0, 0, 0, 0, 0, 0, 0, 0] 24])) := by kernel_rfl
theorem N87 : Fn_ Tryd.prog 87 := ⟨_, Tryd.func87, rfl, by decide⟩
theorem N94 : Fn_ Tryd.prog 94 := ⟨_, Tryd.func94, rfl, by decide⟩
theorem N88 : Fn_ Tryd.prog 88 := ⟨_, Tryd.func88, rfl, by decide⟩
theorem N71 : Fn_ Tryd.prog 71 := ⟨_, Tryd.func71, rfl, by decide⟩
theorem N46 : Fn_ Tryd.prog 46 := ⟨_, Tryd.func46, rfl, by decide⟩
theorem N27 : Fn_ Tryd.prog 27 := ⟨_, Tryd.func27, rfl, by decide⟩
theorem N12 : Fn_ Tryd.prog 12 := ⟨_, Tryd.func12, rfl, by decide⟩
theorem N51 : Fn_ Tryd.prog 51 := ⟨_, Tryd.func51, rfl, by decide⟩
theorem N35 : Fn_ Tryd.prog 35 := ⟨_, Tryd.func35, rfl, by decide⟩
theorem N13 : Fn_ Tryd.prog 13 := ⟨_, Tryd.func13, rfl, by decide⟩
theorem Q23 : Tryd.prog.eqGuardType Tryd.prog.depth 23 = false := by kernel_rfl
def Gd28 : (List Int) → Prop := fun xs => xs.length = 20 ∧ ∀ y ∈ xs, inK .u8 y
def Gd24 : Int → Prop := fun x => inK .u64 x
def Gd4 : Bool → Prop := fun _ => True
def Gd26 : (List Int) → Prop := fun xs => xs.length = 4 ∧ ∀ y ∈ xs, inK .u64 y
def Gd66 : (List (List Int)) → Prop := fun xs => (∀ y ∈ xs, Gd26 y) ∧ xs.length ≤ maxLen
def Gd5 : Int → Prop := fun x => inK .u8 x
def Gd37 : (List Int) → Prop := fun xs => (∀ y ∈ xs, Gd5 y) ∧ xs.length ≤ maxLen
def Gd68 : ((List Int) × (List (List Int)) × (List Int)) → Prop := fun y => Gd28 y.1 ∧ (Gd66 y.2.1 ∧ (Gd37 y.2.2))
def Gd36 : (List ((List Int) × (List (List Int)) × (List Int))) → Prop := fun xs => (∀ y ∈ xs, Gd68 y) ∧ xs.length ≤ maxLen
def Gd39 : ((List Int) × Int × Bool × Int × (List Int) × (List Int) × (List ((List Int) × (List (List Int)) × (List Int))) × (List Int)) → Prop := fun y => Gd28 y.1 ∧ (Gd24 y.2.1 ∧ (Gd4 y.2.2.1 ∧ (Gd24 y.2.2.2.1 ∧ (Gd26 y.2.2.2.2.1 ∧ (Gd28 y.2.2.2.2.2.1 ∧ (Gd36 y.2.2.2.2.2.2.1 ∧ (Gd37 y.2.2.2.2.2.2.2)))))))
/-! smithy/smithyref23.Great -/
abbrev smithyref23_Great.Ty : Type := ((List Int) × Int × Bool × Int × (List Int) × (List Int) × (List ((List Int) × (List (List Int)) × (List Int))) × (List Int)) → Option Bool
def smithyref23_Great.Ctr (s : smithyref23_Great.Ty) : Prop := ∀ (x1 : (List Int) × Int × Bool × Int × (List Int) × (List Int) × (List ((List Int) × (List (List Int)) × (List Int))) × (List Int)) (ch_0_0 : Option Addr) (ch_0_1 : Nat) (ch_0_2 : Option Addr) (ch_0_3 : Nat) (r : Bool) (h0 : s x1 = some r) (mi : Mem) (w0 : World), okL mi [(.agg [.ints .u8 x1.1 20, .one (.int .u64 x1.2.1), .one (.bool x1.2.2.1), .one (.int .u64 x1.2.2.2.1), .ints .u64 x1.2.2.2.2.1 4, .ints .u8 x1.2.2.2.2.2.1 20, .sl ch_0_0 (x1.2.2.2.2.2.2.1).length ch_0_1 (RdS (Ty.prod (Ty.arr .u8 20) (Ty.prod (Ty.slice (Ty.arr .u64 4)) (Ty.slice (Ty.int .u8)))) ch_0_0 x1.2.2.2.2.2.2.1), .sl ch_0_2 (x1.2.2.2.2.2.2.2).length ch_0_3 (RdS (Ty.int .u8) ch_0_2 x1.2.2.2.2.2.2.2)])] → Pre mi [] w0 → Calls Tryd.prog 11 (([(.agg [.ints .u8 x1.1 20, .one (.int .u64 x1.2.1), .one (.bool x1.2.2.1), .one (.int .u64 x1.2.2.2.1), .ints .u64 x1.2.2.2.2.1 4, .ints .u8 x1.2.2.2.2.2.1 20, .sl ch_0_0 (x1.2.2.2.2.2.2.1).length ch_0_1 (RdS (Ty.prod (Ty.arr .u8 20) (Ty.prod (Ty.slice (Ty.arr .u64 4)) (Ty.slice (Ty.int .u8)))) ch_0_0 x1.2.2.2.2.2.2.1), .sl ch_0_2 (x1.2.2.2.2.2.2.2).length ch_0_3 (RdS (Ty.int .u8) ch_0_2 x1.2.2.2.2.2.2.2)])] : List D).map D.val).toArray w0 (RetX mi [] (fun (ch : Unit) => ((.v (.bool r)) : D)) (fun (ch : Unit) => []) w0)
def smithyref23_Great.j2 : Option Bool := some false
def smithyref23_Great.j3 (y9 : Int) (rec1 : Int → Option Bool) (y10 : Bool) : Option Bool := if y10 = true then (some true) else (rec1 (wr .i64 (y9 + 1)))
def smithyref23_Great.b1 (x1 : (List Int) × Int × Bool × Int × (List Int) × (List Int) × (List ((List Int) × (List (List Int)) × (List Int))) × (List Int)) (rec1 : Int → Option Bool) (y9 : Int) : Option Bool := if (decide (y9 < ((x1.2.2.2.2.2.2.1).length : Int))) = true then (if (0 : Int) ≤ y9 ∧ y9 < ((x1.2.2.2.2.2.2.1).length : Int) then (if (decide (30 < (((gt x1.2.2.2.2.2.2.1 y9).2.1).length : Int))) = true then (smithyref23_Great.j3 y9 rec1 true) else (smithyref23_Great.j3 y9 rec1 (decide (3000 < (((gt x1.2.2.2.2.2.2.1 y9).2.2).length : Int))))) else none) else smithyref23_Great.j2
def smithyref23_Great.l1 (x1 : (List Int) × Int × Bool × Int × (List Int) × (List Int) × (List ((List Int) × (List (List Int)) × (List Int))) × (List Int)) : Nat → Int → Option Bool
  | 0, _ => none
  | q + 1, y9 => smithyref23_Great.b1 x1 (smithyref23_Great.l1 x1 q) y9
def smithyref23_Great.j1 (k : Nat) (x1 : (List Int) × Int × Bool × Int × (List Int) × (List Int) × (List ((List Int) × (List (List Int)) × (List Int))) × (List Int)) (y1 : Bool) : Option Bool := if y1 = true then (some true) else (smithyref23_Great.l1 x1 k 0)
def smithyref23_Great.f (k : Nat) (x1 : (List Int) × Int × Bool × Int × (List Int) × (List Int) × (List ((List Int) × (List (List Int)) × (List Int))) × (List Int)) : Option Bool := if (decide (3000 < ((x1.2.2.2.2.2.2.2).length : Int))) = true then (smithyref23_Great.j1 k x1 true) else (smithyref23_Great.j1 k x1 (decide (30 < ((x1.2.2.2.2.2.2.1).length : Int))))
theorem smithyref23_Great.ok (k : Nat) : smithyref23_Great.Ctr (smithyref23_Great.f k) := by
  intro x1 ch_0_0 ch_0_1 ch_0_2 ch_0_3 r h0 mi w0 ok hm
  delta smithyref23_Great.f at h0
  refine c_enterX (n := 39) [(.agg [.ints .u8 x1.1 20, .one (.int .u64 x1.2.1), .one (.bool x1.2.2.1), .one (.int .u64 x1.2.2.2.1), .ints .u64 x1.2.2.2.2.1 4, .ints .u8 x1.2.2.2.2.2.1 20, .sl ch_0_0 (x1.2.2.2.2.2.2.1).length ch_0_1 (RdS (Ty.prod (Ty.arr .u8 20) (Ty.prod (Ty.slice (Ty.arr .u64 4)) (Ty.slice (Ty.int .u8)))) ch_0_0 x1.2.2.2.2.2.2.1), .sl ch_0_2 (x1.2.2.2.2.2.2.2).length ch_0_3 (RdS (Ty.int .u8) ch_0_2 x1.2.2.2.2.2.2.2)])] (l := [(0, (.agg [.ints .u8 x1.1 20, .one (.int .u64 x1.2.1), .one (.bool x1.2.2.1), .one (.int .u64 x1.2.2.2.1), .ints .u64 x1.2.2.2.2.1 4, .ints .u8 x1.2.2.2.2.2.1 20, .sl ch_0_0 (x1.2.2.2.2.2.2.1).length ch_0_1 (RdS (Ty.prod (Ty.arr .u8 20) (Ty.prod (Ty.slice (Ty.arr .u64 4)) (Ty.slice (Ty.int .u8)))) ch_0_0 x1.2.2.2.2.2.2.1), .sl ch_0_2 (x1.2.2.2.2.2.2.2).length ch_0_3 (RdS (Ty.int .u8) ch_0_2 x1.2.2.2.2.2.2.2)]))]) Tryd.func11 rfl rfl rfl rfl ok hm ?_
  clear ok hm
  intro b0 hb a S
  refine c_region ?_
  refine s_box S rfl rfl rfl ?_; clear S a; intro g1 a w S
  refine s_assign S rfl rfl ?_; clear S a; intro a S
  refine c_end ?_
  refine wp_seq ?_
  refine wp_seq_k ?_
  intro K1 hK1
  have j1 : ∀ (m : Mem) (y1 : Bool) (g2 : Nat) (a : Act) (w : World), St 39 m b0 [(13, (.v (.bool y1))), (1, (.v (.pointer (some ⟨g2, 0, none⟩))))] [Res.cells g2 39 [.ints .u8 x1.1 20, .one (.int .u64 x1.2.1), .one (.bool x1.2.2.1), .one (.int .u64 x1.2.2.2.1), .ints .u64 x1.2.2.2.2.1 4, .ints .u8 x1.2.2.2.2.2.1 20, .sl ch_0_0 (x1.2.2.2.2.2.2.1).length ch_0_1 (RdS (Ty.prod (Ty.arr .u8 20) (Ty.prod (Ty.slice (Ty.arr .u64 4)) (Ty.slice (Ty.int .u8)))) ch_0_0 x1.2.2.2.2.2.2.1), .sl ch_0_2 (x1.2.2.2.2.2.2.2).length ch_0_3 (RdS (Ty.int .u8) ch_0_2 x1.2.2.2.2.2.2.2)]] a w → smithyref23_Great.j1 k x1 y1 = some r → K1 a w := by
    intro m y1 g2 a w S h0
    delta smithyref23_Great.j1 at h0
    refine hK1 a w ?_
    rcases ite_of h0 with ⟨c1, h1⟩ | ⟨c1, h1⟩ <;> clear h0
    · refine c_condT S rfl c1 ?_
      refine c_region ?_
      refine s_assign S rfl rfl ?_; clear S a; intro a S
      refine c_end ?_
      refine wp_ret ?_
      refine x_thenR ?_
      obtain rfl := Option.some.inj h1
      exact b_ret1 (d := (.v (.bool true))) S rfl rfl fun ok => S.retX (Hx := []) hb _ _ (() : Unit) .nil ok
    · refine c_condF S rfl c1 ?_
      refine wp_skip ?_
      refine x_thenN ?_
      refine wp_seq_k ?_
      intro K2 hK2
      have j2 : ∀ (m : Mem) (a : Act) (w : World), St 39 m b0 [] [] a w → smithyref23_Great.j2 = some r → K2 a w := by
        intro m a w S h0
        delta smithyref23_Great.j2 at h0
        refine hK2 a w ?_
        refine c_region ?_
        refine s_assign S rfl rfl ?_; clear S a; intro a S
        refine c_end ?_
        refine wp_ret ?_
        obtain rfl := Option.some.inj h0
        exact b_ret1 (d := (.v (.bool false))) S rfl rfl fun ok => S.retX (Hx := []) hb _ _ (() : Unit) .nil ok
      refine c_region ?_
      refine s_fieldAddr S rfl I39_6 T36 (by decide) rfl rfl ?_; clear S a; intro a S
      refine s_loadSl S rfl .here T36 (A := ch_0_0) (len := (x1.2.2.2.2.2.2.1).length) (cap := ch_0_1) rfl rfl ?_; clear S a; intro a S
      refine s_lenS S rfl Tryd.underlying36 rfl ?_; clear S a; intro a S
      refine s_move S rfl rfl ?_; clear S a; intro a S
      refine c_end ?_
      refine wp_block ?_
      refine c_loop (fun q1 a w => ∃ (m : Mem) (y9 : Int) (g12 : Nat), St 39 m b0 [(17, (.v (.int .i64 y9))), (16, (.v (.int .i64 ((x1.2.2.2.2.2.2.1).length : Int)))), (1, (.v (.pointer (some ⟨g12, 0, none⟩))))] [Res.cells g12 39 [.ints .u8 x1.1 20, .one (.int .u64 x1.2.1), .one (.bool x1.2.2.1), .one (.int .u64 x1.2.2.2.1), .ints .u64 x1.2.2.2.2.1 4, .ints .u8 x1.2.2.2.2.2.1 20, .sl ch_0_0 (x1.2.2.2.2.2.2.1).length ch_0_1 (RdS (Ty.prod (Ty.arr .u8 20) (Ty.prod (Ty.slice (Ty.arr .u64 4)) (Ty.slice (Ty.int .u8)))) ch_0_0 x1.2.2.2.2.2.2.1), .sl ch_0_2 (x1.2.2.2.2.2.2.2).length ch_0_3 (RdS (Ty.int .u8) ch_0_2 x1.2.2.2.2.2.2.2)]] a w ∧ smithyref23_Great.l1 x1 q1 y9 = some r) ?_ ?_ (k := k) ⟨_, 0, g2, (S.sub ⟨rfl, rfl, rfl, trivial⟩ (.cons .here .nil)), h1⟩
      · rintro a w ⟨m, y9, g12, S, h0⟩
        exact (nomatch (show (none : Option Bool) = some r from h0))
      · clear S h1
        rintro q1 a w ⟨m, y9, g12, S, h0⟩
        replace h0 : smithyref23_Great.b1 x1 (smithyref23_Great.l1 x1 q1) y9 = some r := h0
        delta smithyref23_Great.b1 at h0
        refine c_region ?_
        refine s_bin S rfl rfl rfl rfl ?_; clear S a; intro a S
        refine c_end ?_
        refine wp_seq ?_
        rcases ite_of h0 with ⟨c2, h1⟩ | ⟨c2, h1⟩ <;> clear h0
        · refine c_condT S rfl c2 ?_
          refine wp_skip ?_
          refine x_thenN ?_
          refine wp_seq ?_
          refine wp_block ?_
          refine c_region ?_
          refine s_move S rfl rfl ?_; clear S a; intro a S
          refine s_assign S rfl rfl ?_; clear S a; intro a S
          refine c_end ?_
          refine wp_seq_k ?_
          intro K3 hK3
          have j3 : ∀ (m : Mem) (y10 : Bool) (g13 : Nat) (a : Act) (w : World), St 39 m b0 [(37, (.v (.bool y10))), (17, (.v (.int .i64 y9))), (16, (.v (.int .i64 ((x1.2.2.2.2.2.2.1).length : Int)))), (1, (.v (.pointer (some ⟨g13, 0, none⟩))))] [Res.cells g13 39 [.ints .u8 x1.1 20, .one (.int .u64 x1.2.1), .one (.bool x1.2.2.1), .one (.int .u64 x1.2.2.2.1), .ints .u64 x1.2.2.2.2.1 4, .ints .u8 x1.2.2.2.2.2.1 20, .sl ch_0_0 (x1.2.2.2.2.2.2.1).length ch_0_1 (RdS (Ty.prod (Ty.arr .u8 20) (Ty.prod (Ty.slice (Ty.arr .u64 4)) (Ty.slice (Ty.int .u8)))) ch_0_0 x1.2.2.2.2.2.2.1), .sl ch_0_2 (x1.2.2.2.2.2.2.2).length ch_0_3 (RdS (Ty.int .u8) ch_0_2 x1.2.2.2.2.2.2.2)]] a w → smithyref23_Great.j3 y9 (smithyref23_Great.l1 x1 q1) y10 = some r → K3 a w := by
            intro m y10 g13 a w S h0
            delta smithyref23_Great.j3 at h0
            refine hK3 a w ?_
            rcases ite_of h0 with ⟨c3, h1⟩ | ⟨c3, h1⟩ <;> clear h0
            · refine c_condT S rfl c3 ?_
              refine c_region ?_
              refine s_assign S rfl rfl ?_; clear S a; intro a S
              refine c_end ?_
              refine wp_ret ?_
              refine x_blockR ?_
              refine x_thenR ?_
              refine x_thenR ?_
              refine x_blockR ?_
              refine x_thenR ?_
              obtain rfl := Option.some.inj h1
              exact b_ret1 (d := (.v (.bool true))) S rfl rfl fun ok => S.retX (Hx := []) hb _ _ (() : Unit) .nil ok
            · refine c_condF S rfl c3 ?_
              refine wp_skip ?_
              refine x_blockN ?_
              refine x_thenN ?_
              refine c_region' ?_
              refine s_bin S rfl rfl rfl rfl ?_; clear S a; intro a S
              refine s_move S rfl rfl ?_; clear S a; intro a S
              refine c_end' ?_
              refine x_thenN ?_
              exact ⟨_, (wr .i64 (y9 + 1)), g13, (S.sub ⟨rfl, rfl, rfl, trivial⟩ (.cons .here .nil)), h1⟩
          refine c_region' ?_
          refine s_fieldAddr S rfl I39_6 T36 (by decide) rfl rfl ?_; clear S a; intro a S
          refine s_loadSl S rfl .here T36 (A := ch_0_0) (len := (x1.2.2.2.2.2.2.1).length) (cap := ch_0_1) rfl rfl ?_; clear S a; intro a S
          refine s_move S rfl rfl ?_; clear S a; intro a S
          obtain ⟨c4, h2⟩ := chk_of h1; clear h1
          refine s_iaddrS S rfl rfl rfl Tryd.underlying36 T68 c4.1 c4.2 rfl ?_; clear S a; intro p1 a S
          refine s_faddrP S (tF := (Ty.slice (Ty.arr .u64 4))) (y := (gt x1.2.2.2.2.2.2.1 y9).2.1) rfl I68_1 T66 (by decide) (fun m h => (at_fst (at_snd (at_0 h)))) rfl ?_; clear S a; intro a S
          refine s_ldS S (fun c => c) rfl T66 (fun _ => rfl) rfl ?_; clear S a; intro A1 cp1 a S
          refine s_lenS S rfl Tryd.underlying66 rfl ?_; clear S a; intro a S
          refine s_bin S rfl rfl rfl rfl ?_; clear S a; intro a S
          refine s_move S rfl rfl ?_; clear S a; intro a S
          rcases ite_of h2 with ⟨c5, h3⟩ | ⟨c5, h3⟩ <;> clear h2
          · refine s_gF S (b := (decide (30 < (((gt x1.2.2.2.2.2.2.1 y9).2.1).length : Int)))) rfl rfl c5 rfl ?_; clear S a; intro a S
            refine s_gF S (b := (decide (30 < (((gt x1.2.2.2.2.2.2.1 y9).2.1).length : Int)))) rfl rfl c5 rfl ?_; clear S a; intro a S
            refine s_gF S (b := (decide (30 < (((gt x1.2.2.2.2.2.2.1 y9).2.1).length : Int)))) rfl rfl c5 rfl ?_; clear S a; intro a S
            refine s_gF S (b := (decide (30 < (((gt x1.2.2.2.2.2.2.1 y9).2.1).length : Int)))) rfl rfl c5 rfl ?_; clear S a; intro a S
            refine s_gF S (b := (decide (30 < (((gt x1.2.2.2.2.2.2.1 y9).2.1).length : Int)))) rfl rfl c5 rfl ?_; clear S a; intro a S
            refine s_gF S (b := (decide (30 < (((gt x1.2.2.2.2.2.2.1 y9).2.1).length : Int)))) rfl rfl c5 rfl ?_; clear S a; intro a S
            refine s_gF S (b := (decide (30 < (((gt x1.2.2.2.2.2.2.1 y9).2.1).length : Int)))) rfl rfl c5 rfl ?_; clear S a; intro a S
            refine s_gF S (b := (decide (30 < (((gt x1.2.2.2.2.2.2.1 y9).2.1).length : Int)))) rfl rfl c5 rfl ?_; clear S a; intro a S
            refine s_pick S (b := true) (hc_of rfl c5) rfl rfl ?_; clear S a; intro a S
            refine c_end' ?_
            refine x_thenN ?_
            exact j3 _ true g12 a w (S.sub ⟨rfl, rfl, rfl, rfl, trivial⟩ (.cons .here .nil)) h3
          · refine s_gT S (b := (decide (30 < (((gt x1.2.2.2.2.2.2.1 y9).2.1).length : Int)))) rfl rfl c5 ?_
            refine s_fieldAddr S rfl I39_6 T36 (by decide) rfl rfl ?_; clear S a; intro a S
            refine s_gT S (b := (decide (30 < (((gt x1.2.2.2.2.2.2.1 y9).2.1).length : Int)))) rfl rfl c5 ?_
            refine s_loadSl S rfl .here T36 (A := ch_0_0) (len := (x1.2.2.2.2.2.2.1).length) (cap := ch_0_1) rfl rfl ?_; clear S a; intro a S
            refine s_gT S (b := (decide (30 < (((gt x1.2.2.2.2.2.2.1 y9).2.1).length : Int)))) rfl rfl c5 ?_
            refine s_move S rfl rfl ?_; clear S a; intro a S
            refine s_gT S (b := (decide (30 < (((gt x1.2.2.2.2.2.2.1 y9).2.1).length : Int)))) rfl rfl c5 ?_
            refine s_iaddrS S rfl rfl rfl Tryd.underlying36 T68 c4.1 c4.2 rfl ?_; clear S a; intro p2 a S
            refine s_gT S (b := (decide (30 < (((gt x1.2.2.2.2.2.2.1 y9).2.1).length : Int)))) rfl rfl c5 ?_
            refine s_faddrP S (tF := (Ty.slice (Ty.int .u8))) (y := (gt x1.2.2.2.2.2.2.1 y9).2.2) rfl I68_2 T37 (by decide) (fun m h => (at_snd (at_snd (at_0 h)))) rfl ?_; clear S a; intro a S
            refine s_gT S (b := (decide (30 < (((gt x1.2.2.2.2.2.2.1 y9).2.1).length : Int)))) rfl rfl c5 ?_
            refine s_ldS S (fun c => c) rfl T37 (fun _ => rfl) rfl ?_; clear S a; intro A2 cp2 a S
            refine s_gT S (b := (decide (30 < (((gt x1.2.2.2.2.2.2.1 y9).2.1).length : Int)))) rfl rfl c5 ?_
            refine s_lenS S rfl Tryd.underlying37 rfl ?_; clear S a; intro a S
            refine s_gT S (b := (decide (30 < (((gt x1.2.2.2.2.2.2.1 y9).2.1).length : Int)))) rfl rfl c5 ?_
            refine s_bin S rfl rfl rfl rfl ?_; clear S a; intro a S
            refine s_pick S (b := false) (hc_of rfl c5) rfl rfl ?_; clear S a; intro a S
            refine c_end' ?_
            refine x_thenN ?_
            exact j3 _ (decide (3000 < (((gt x1.2.2.2.2.2.2.1 y9).2.2).length : Int))) g12 a w (S.sub ⟨rfl, rfl, rfl, rfl, trivial⟩ (.cons .here .nil)) h3
        · refine c_condF S rfl c2 ?_
          refine wp_exit ?_
          refine x_thenX ?_
          refine x_thenX ?_
          refine x_blockX ?_
          refine x_thenN ?_
          exact j2 _ a w (S.sub trivial .nil) h1
  refine c_region' ?_
  refine s_fieldAddr S rfl I39_7 T37 (by decide) rfl rfl ?_; clear S a; intro a S
  refine s_loadSl S rfl .here T37 (A := ch_0_2) (len := (x1.2.2.2.2.2.2.2).length) (cap := ch_0_3) rfl rfl ?_; clear S a; intro a S
  refine s_lenS S rfl Tryd.underlying37 rfl ?_; clear S a; intro a S
  refine s_bin S rfl rfl rfl rfl ?_; clear S a; intro a S
  refine s_move S rfl rfl ?_; clear S a; intro a S
  rcases ite_of h0 with ⟨c6, h1⟩ | ⟨c6, h1⟩ <;> clear h0
  · refine s_gF S (b := (decide (3000 < ((x1.2.2.2.2.2.2.2).length : Int)))) rfl rfl c6 rfl ?_; clear S a; intro a S
    refine s_gF S (b := (decide (3000 < ((x1.2.2.2.2.2.2.2).length : Int)))) rfl rfl c6 rfl ?_; clear S a; intro a S
    refine s_gF S (b := (decide (3000 < ((x1.2.2.2.2.2.2.2).length : Int)))) rfl rfl c6 rfl ?_; clear S a; intro a S
    refine s_gF S (b := (decide (3000 < ((x1.2.2.2.2.2.2.2).length : Int)))) rfl rfl c6 rfl ?_; clear S a; intro a S
    refine s_pick S (b := true) (hc_of rfl c6) rfl rfl ?_; clear S a; intro a S
    refine c_end' ?_
    refine x_thenN ?_
    exact j1 _ true g1 a w (S.sub ⟨rfl, rfl, trivial⟩ (.cons .here .nil)) h1
  · refine s_gT S (b := (decide (3000 < ((x1.2.2.2.2.2.2.2).length : Int)))) rfl rfl c6 ?_
    refine s_fieldAddr S rfl I39_6 T36 (by decide) rfl rfl ?_; clear S a; intro a S
    refine s_gT S (b := (decide (3000 < ((x1.2.2.2.2.2.2.2).length : Int)))) rfl rfl c6 ?_
    refine s_loadSl S rfl .here T36 (A := ch_0_0) (len := (x1.2.2.2.2.2.2.1).length) (cap := ch_0_1) rfl rfl ?_; clear S a; intro a S
    refine s_gT S (b := (decide (3000 < ((x1.2.2.2.2.2.2.2).length : Int)))) rfl rfl c6 ?_
    refine s_lenS S rfl Tryd.underlying36 rfl ?_; clear S a; intro a S
    refine s_gT S (b := (decide (3000 < ((x1.2.2.2.2.2.2.2).length : Int)))) rfl rfl c6 ?_
    refine s_bin S rfl rfl rfl rfl ?_; clear S a; intro a S
    refine s_pick S (b := false) (hc_of rfl c6) rfl rfl ?_; clear S a; intro a S
    refine c_end' ?_
    refine x_thenN ?_
    exact j1 _ (decide (30 < ((x1.2.2.2.2.2.2.1).length : Int))) g1 a w (S.sub ⟨rfl, rfl, trivial⟩ (.cons .here .nil)) h1
/-! smithy/block.item -/
abbrev block_item.Ty : Type := (List Int) → Option ((Bool × (List Int) × Int))
def block_item.Ctr (s : block_item.Ty) : Prop := ∀ (x1 : List Int) (ch_0_0 : Option Addr) (ch_0_1 : Nat) (r : (Bool × (List Int) × Int)) (h0 : s x1 = some r) (mi : Mem) (w0 : World), okL mi [(.sl ch_0_0 (x1).length ch_0_1 (RdS (Ty.int .u8) ch_0_0 x1))] → Pre mi [] w0 → Calls Tryd.prog 23 (([(.sl ch_0_0 (x1).length ch_0_1 (RdS (Ty.int .u8) ch_0_0 x1))] : List D).map D.val).toArray w0 (RetX mi [] (fun (ch : (Option Addr) × Nat) => ((.agg [.one (.bool r.1), .sl ch.1 (r.2.1).length ch.2 (RdS (Ty.int .u8) ch.1 r.2.1), .one (.int .i64 r.2.2)]) : D)) (fun (ch : (Option Addr) × Nat) => []) w0)
def block_item.f (x1 : List Int) : Option ((Bool × (List Int) × Int)) := some (false, x1, 0)
theorem block_item.ok : block_item.Ctr (block_item.f) := by
  intro x1 ch_0_0 ch_0_1 r h0 mi w0 ok hm
  delta block_item.f at h0
  refine c_enterX (n := 5) [(.sl ch_0_0 (x1).length ch_0_1 (RdS (Ty.int .u8) ch_0_0 x1))] (l := [(0, (.sl ch_0_0 (x1).length ch_0_1 (RdS (Ty.int .u8) ch_0_0 x1)))]) Tryd.func23 rfl rfl rfl rfl ok hm ?_
  clear ok hm
  intro b0 hb a S
  refine c_region ?_
  refine s_alloc S Z54 rfl ⟨rfl, rfl, rfl, trivial⟩ rfl ?_; clear S a; intro g1 a w S
  refine c_end ?_
  refine c_region ?_
  refine s_move S rfl rfl ?_; clear S a; intro a S
  refine s_bldS S (ds := [(1, (.sl ch_0_0 (x1).length ch_0_1 (RdS (Ty.int .u8) ch_0_0 x1)))]) (zs := [.one (.bool false), .one (.slice none 0 0), .one (.int .i64 0)]) (s' := [.one (.bool false), .sl ch_0_0 (x1).length ch_0_1 (RdS (Ty.int .u8) ch_0_0 x1), .one (.int .i64 0)]) rfl Tryd.underlying54 P54 Z54 ⟨rfl, rfl, rfl, trivial⟩ rfl rfl ?_; clear S a; intro a S
  refine s_store S rfl rfl rfl (s' := [.one (.bool false), .sl ch_0_0 (x1).length ch_0_1 (RdS (Ty.int .u8) ch_0_0 x1), .one (.int .i64 0)]) .here T54 rfl rfl ?_; clear S w; intro w S
  refine c_end ?_
  refine wp_ret ?_
  obtain rfl := Option.some.inj h0
  exact b_ret1 (d := (.agg [.one (.bool false), .sl ch_0_0 (x1).length ch_0_1 (RdS (Ty.int .u8) ch_0_0 x1), .one (.int .i64 0)])) S rfl (resD_cell rfl .here T54 rfl rfl) fun ok => S.retX (Hx := []) hb _ _ ((ch_0_0, ch_0_1) : (Option Addr) × Nat) .nil ok
/-! smithy/word.Of -/
abbrev word_Of.Ty : Type := Int → Option ((List Int))
def word_Of.Ctr (s : word_Of.Ty) : Prop := ∀ (x1 : Int) (r : (List Int)) (h0 : s x1 = some r) (mi : Mem) (w0 : World), okL mi [(.v (.int .u64 x1))] → Pre mi [] w0 → Calls Tryd.prog 43 (([(.v (.int .u64 x1))] : List D).map D.val).toArray w0 (RetX mi [] (fun (ch : Unit) => ((.agg [.ints .u64 r 4]) : D)) (fun (ch : Unit) => []) w0)
def word_Of.f (x1 : Int) : Option ((List Int)) := some [x1, 0, 0, 0]
theorem word_Of.ok : word_Of.Ctr (word_Of.f) := by
  intro x1 r h0 mi w0 ok hm
  delta word_Of.f at h0
  refine c_enterX (n := 5) [(.v (.int .u64 x1))] (l := [(0, (.v (.int .u64 x1)))]) Tryd.func43 rfl rfl rfl rfl ok hm ?_
  clear ok hm
  intro b0 hb a S
  refine c_region ?_
  refine s_alloc S Z26 rfl ⟨rfl, trivial⟩ rfl ?_; clear S a; intro g1 a w S
  refine c_end ?_
  refine c_region ?_
  refine s_move S rfl rfl ?_; clear S a; intro a S
  refine s_build S (ds := [(0, (.v (.int .u64 x1)))]) (dv := (.agg [.ints .u64 [x1, 0, 0, 0] 4])) rfl (fun _ => by kernel_rfl) ⟨rfl, trivial⟩ rfl ?_; clear S a; intro a S
  refine s_store S rfl rfl rfl (s' := [.ints .u64 [x1, 0, 0, 0] 4]) .here T26 rfl rfl ?_; clear S w; intro w S
  refine c_end ?_
  refine wp_ret ?_
  obtain rfl := Option.some.inj h0
  exact b_ret1 (d := (.agg [.ints .u64 [x1, 0, 0, 0] 4])) S rfl (resD_cell rfl .here T26 rfl rfl) fun ok => S.retX (Hx := []) hb _ _ (() : Unit) .nil ok
/-! smithy/word.Bytes -/
abbrev word_Bytes.Ty : Type := (List Int) → Option ((List Int))
def word_Bytes.Ctr (s : word_Bytes.Ty) : Prop := ∀ (x1 : List Int) (r : (List Int)) (h0 : s x1 = some r) (mi : Mem) (w0 : World), okL mi [(.agg [.ints .u64 x1 4])] → Pre mi [] w0 → Calls Tryd.prog 45 (([(.agg [.ints .u64 x1 4])] : List D).map D.val).toArray w0 (RetX mi [] (fun (ch : Unit) => ((.agg [.ints .u8 r 32]) : D)) (fun (ch : Unit) => []) w0)
def word_Bytes.j1 (y1 : List Int) : Option ((List Int)) := some y1
def word_Bytes.j2 (y14 : Int) (rec1 : Int → (List Int) → Option ((List Int))) (y20 : List Int) : Option ((List Int)) := rec1 (wr .i64 (y14 + 1)) y20
def word_Bytes.b2 (x1 : List Int) (y14 : Int) (rec1 : Int → (List Int) → Option ((List Int))) (rec2 : Int → (List Int) → Option ((List Int))) (y23 : Int) (y24 : List Int) : Option ((List Int)) := if (decide (y23 < 8)) = true then (if (0 : Int) ≤ (wr .i64 (8 * y23)) then (if (0 : Int) ≤ (wr .i64 ((wr .i64 (31 - (wr .i64 (8 * y14)))) - y23)) ∧ (wr .i64 ((wr .i64 (31 - (wr .i64 (8 * y14)))) - y23)) < 32 then (rec2 (wr .i64 (y23 + 1)) (y24.set (Int.toNat (wr .i64 ((wr .i64 (31 - (wr .i64 (8 * y14)))) - y23))) (wr .u8 (shr (rd x1 y14) (min (Int.toNat (wr .i64 (8 * y23))) 64))))) else none) else none) else (word_Bytes.j2 y14 rec1 y24)
def word_Bytes.l2 (x1 : List Int) (y14 : Int) (rec1 : Int → (List Int) → Option ((List Int))) : Nat → Int → (List Int) → Option ((List Int))
  | 0, _, _ => none
  | q + 1, y23, y24 => word_Bytes.b2 x1 y14 rec1 (word_Bytes.l2 x1 y14 rec1 q) y23 y24
def word_Bytes.b1 (k : Nat) (x1 : List Int) (rec1 : Int → (List Int) → Option ((List Int))) (y14 : Int) (y15 : List Int) : Option ((List Int)) := if (decide (y14 < 4)) = true then (if (0 : Int) ≤ y14 ∧ y14 < 4 then (word_Bytes.l2 x1 y14 rec1 k 0 y15) else none) else (word_Bytes.j1 y15)
def word_Bytes.l1 (k : Nat) (x1 : List Int) : Nat → Int → (List Int) → Option ((List Int))
  | 0, _, _ => none
  | q + 1, y14, y15 => word_Bytes.b1 k x1 (word_Bytes.l1 k x1 q) y14 y15
def word_Bytes.f (k : Nat) (x1 : List Int) : Option ((List Int)) := word_Bytes.l1 k x1 k 0 [0, 0, 0, 0, 0, 0, 0, 0, 0, 0, 0, 0, 0, 0, 0, 0, 0, 0, 0, 0, 0, 0, 0, 0, 0, 0, 0, 0, 0, 0, 0, 0]
theorem word_Bytes.ok (k : Nat) : word_Bytes.Ctr (word_Bytes.f k) := by
  intro x1 r h0 mi w0 ok hm
  delta word_Bytes.f at h0
  refine c_enterX (n := 29) [(.agg [.ints .u64 x1 4])] (l := [(0, (.agg [.ints .u64 x1 4]))]) Tryd.func45 rfl rfl rfl rfl ok hm ?_
  clear ok hm
  intro b0 hb a S
  refine c_region ?_
  refine s_box S rfl rfl rfl ?_; clear S a; intro g1 a w S
  refine s_alloc S Z22 rfl ⟨rfl, trivial⟩ rfl ?_; clear S a w; intro g2 a w S
  refine c_end ?_
  refine c_region ?_
  refine s_alloc S Z22 rfl ⟨rfl, trivial⟩ rfl ?_; clear S a w; intro g3 a w S
  refine c_end ?_
  refine wp_seq_k ?_
  intro K1 hK1
  have j1 : ∀ (m : Mem) (g26 : Nat) (g27 : Nat) (y1 : List Int) (a : Act) (w : World), St 29 m b0 [(3, (.v (.pointer (some ⟨g26, 0, none⟩)))), (2, (.v (.pointer (some ⟨g27, 0, none⟩))))] [Res.cells g26 22 [.ints .u8 y1 32], Res.cells g27 22 [.ints .u8 [0, 0, 0, 0, 0, 0, 0, 0, 0, 0, 0, 0, 0, 0, 0, 0, 0, 0, 0, 0, 0, 0, 0, 0, 0, 0, 0, 0, 0, 0, 0, 0] 32]] a w → word_Bytes.j1 y1 = some r → K1 a w := by
    intro m g26 g27 y1 a w S h0
    delta word_Bytes.j1 at h0
    refine hK1 a w ?_
    refine c_region ?_
    refine s_loada S rfl .here T22 (s' := [.ints .u8 y1 32]) rfl rfl ?_; clear S a; intro a S
    refine s_store S rfl rfl rfl (s' := [.ints .u8 y1 32]) (.there .here) T22 rfl rfl ?_; clear S w; intro w S
    refine c_end ?_
    refine wp_ret ?_
    obtain rfl := Option.some.inj h0
    exact b_ret1 (d := (.agg [.ints .u8 y1 32])) S rfl (resD_cell rfl (.there .here) T22 rfl rfl) fun ok => S.retX (Hx := []) hb _ _ (() : Unit) .nil ok
  refine c_region ?_
  refine s_loada S rfl (.there (.there .here)) T26 (s' := [.ints .u64 x1 4]) rfl rfl ?_; clear S a; intro a S
  refine s_move S rfl rfl ?_; clear S a; intro a S
  refine c_end ?_
  refine wp_block ?_
  refine c_loop (fun q1 a w => ∃ (m : Mem) (y14 : Int) (g48 : Nat) (g49 : Nat) (y15 : List Int), St 29 m b0 [(8, (.v (.int .i64 y14))), (7, (.agg [.ints .u64 x1 4])), (3, (.v (.pointer (some ⟨g48, 0, none⟩)))), (2, (.v (.pointer (some ⟨g49, 0, none⟩))))] [Res.cells g48 22 [.ints .u8 y15 32], Res.cells g49 22 [.ints .u8 [0, 0, 0, 0, 0, 0, 0, 0, 0, 0, 0, 0, 0, 0, 0, 0, 0, 0, 0, 0, 0, 0, 0, 0, 0, 0, 0, 0, 0, 0, 0, 0] 32]] a w ∧ word_Bytes.l1 k x1 q1 y14 y15 = some r) ?_ ?_ (k := k) ⟨_, 0, g3, g2, [0, 0, 0, 0, 0, 0, 0, 0, 0, 0, 0, 0, 0, 0, 0, 0, 0, 0, 0, 0, 0, 0, 0, 0, 0, 0, 0, 0, 0, 0, 0, 0], (S.sub ⟨rfl, rfl, rfl, rfl, trivial⟩ (.cons .here (.cons .here .nil))), h0⟩
  · rintro a w ⟨m, y14, g48, g49, y15, S, h0⟩
    exact (nomatch (show (none : Option ((List Int))) = some r from h0))
  · clear S h0
    rintro q1 a w ⟨m, y14, g48, g49, y15, S, h0⟩
    replace h0 : word_Bytes.b1 k x1 (word_Bytes.l1 k x1 q1) y14 y15 = some r := h0
    delta word_Bytes.b1 at h0
    refine c_region ?_
    refine s_bin S rfl rfl rfl rfl ?_; clear S a; intro a S
    refine c_end ?_
    refine wp_seq ?_
    rcases ite_of h0 with ⟨c1, h1⟩ | ⟨c1, h1⟩ <;> clear h0
    · refine c_condT S rfl c1 ?_
      refine wp_skip ?_
      refine x_thenN ?_
      refine wp_seq_k ?_
      intro K2 hK2
      have j2 : ∀ (m : Mem) (g56 : Nat) (g57 : Nat) (y20 : List Int) (a : Act) (w : World), St 29 m b0 [(8, (.v (.int .i64 y14))), (7, (.agg [.ints .u64 x1 4])), (3, (.v (.pointer (some ⟨g56, 0, none⟩)))), (2, (.v (.pointer (some ⟨g57, 0, none⟩))))] [Res.cells g56 22 [.ints .u8 y20 32], Res.cells g57 22 [.ints .u8 [0, 0, 0, 0, 0, 0, 0, 0, 0, 0, 0, 0, 0, 0, 0, 0, 0, 0, 0, 0, 0, 0, 0, 0, 0, 0, 0, 0, 0, 0, 0, 0] 32]] a w → word_Bytes.j2 y14 (word_Bytes.l1 k x1 q1) y20 = some r → K2 a w := by
        intro m g56 g57 y20 a w S h0
        delta word_Bytes.j2 at h0
        refine hK2 a w ?_
        refine c_region' ?_
        refine s_bin S rfl rfl rfl rfl ?_; clear S a; intro a S
        refine s_move S rfl rfl ?_; clear S a; intro a S
        refine c_end' ?_
        refine x_thenN ?_
        exact ⟨_, (wr .i64 (y14 + 1)), g56, g57, y20, (S.sub ⟨rfl, rfl, rfl, rfl, trivial⟩ (.cons .here (.cons .here .nil))), h0⟩
      refine wp_block ?_
      refine c_region ?_
      refine s_move S rfl rfl ?_; clear S a; intro a S
      obtain ⟨c2, h2⟩ := chk_of h1; clear h1
      refine s_index S rfl rfl Tryd.underlying26 T24 c2.1 c2.2 rfl ?_; clear S a; intro a S
      refine s_assign S rfl rfl ?_; clear S a; intro a S
      refine s_assign S rfl rfl ?_; clear S a; intro a S
      refine c_end ?_
      refine c_region ?_
      refine s_move S rfl rfl ?_; clear S a; intro a S
      refine c_end ?_
      refine wp_block ?_
      refine c_loop (fun q2 a w => ∃ (m : Mem) (y23 : Int) (g62 : Nat) (g63 : Nat) (y24 : List Int), St 29 m b0 [(12, (.v (.int .i64 y23))), (5, (.v (.int .u64 (rd x1 y14)))), (4, (.v (.int .i64 y14))), (8, (.v (.int .i64 y14))), (7, (.agg [.ints .u64 x1 4])), (3, (.v (.pointer (some ⟨g62, 0, none⟩)))), (2, (.v (.pointer (some ⟨g63, 0, none⟩))))] [Res.cells g62 22 [.ints .u8 y24 32], Res.cells g63 22 [.ints .u8 [0, 0, 0, 0, 0, 0, 0, 0, 0, 0, 0, 0, 0, 0, 0, 0, 0, 0, 0, 0, 0, 0, 0, 0, 0, 0, 0, 0, 0, 0, 0, 0] 32]] a w ∧ word_Bytes.l2 x1 y14 (word_Bytes.l1 k x1 q1) q2 y23 y24 = some r) ?_ ?_ (k := k) ⟨_, 0, g48, g49, y15, (S.sub ⟨rfl, rfl, rfl, rfl, rfl, rfl, rfl, trivial⟩ (.cons .here (.cons .here .nil))), h2⟩
      · rintro a w ⟨m, y23, g62, g63, y24, S, h0⟩
        exact (nomatch (show (none : Option ((List Int))) = some r from h0))
      · clear S h2
        rintro q2 a w ⟨m, y23, g62, g63, y24, S, h0⟩
        replace h0 : word_Bytes.b2 x1 y14 (word_Bytes.l1 k x1 q1) (word_Bytes.l2 x1 y14 (word_Bytes.l1 k x1 q1) q2) y23 y24 = some r := h0
        delta word_Bytes.b2 at h0
        refine c_region ?_
        refine s_bin S rfl rfl rfl rfl ?_; clear S a; intro a S
        refine c_end ?_
        refine wp_seq ?_
        rcases ite_of h0 with ⟨c3, h1⟩ | ⟨c3, h1⟩ <;> clear h0
        · refine c_condT S rfl c3 ?_
          refine wp_skip ?_
          refine x_thenN ?_
          refine wp_seq ?_
          refine wp_block ?_
          refine c_region ?_
          refine s_move S rfl rfl ?_; clear S a; intro a S
          refine s_assign S rfl rfl ?_; clear S a; intro a S
          refine c_end ?_
          refine c_region' ?_
          refine s_move S rfl rfl ?_; clear S a; intro a S
          refine s_bin S rfl rfl rfl rfl ?_; clear S a; intro a S
          refine s_bin S rfl rfl rfl rfl ?_; clear S a; intro a S
          refine s_move S rfl rfl ?_; clear S a; intro a S
          refine s_bin S rfl rfl rfl rfl ?_; clear S a; intro a S
          refine s_move S rfl rfl ?_; clear S a; intro a S
          refine s_move S rfl rfl ?_; clear S a; intro a S
          refine s_bin S rfl rfl rfl rfl ?_; clear S a; intro a S
          obtain ⟨c4, h2⟩ := chk_of h1; clear h1
          refine s_shr S (e := (min (Int.toNat (wr .i64 (8 * y23))) 64)) rfl rfl c4 rfl rfl ?_; clear S a; intro a S
          refine s_conv S rfl rfl Tryd.underlying5 rfl ?_; clear S a; intro a S
          obtain ⟨c5, h3⟩ := chk_of h2; clear h2
          refine s_iaddr S rfl rfl Tryd.underlying22 T5 c5.1 c5.2 (mul1 _ _) rfl ?_; clear S a; intro a S
          refine s_storei S (i := (wr .i64 ((wr .i64 (31 - (wr .i64 (8 * y14)))) - y23))) rfl rfl .here T5 .here rfl c5.1 c5.2 ?_; clear S w; intro w S
          refine c_end' ?_
          refine x_blockN ?_
          refine x_thenN ?_
          refine c_region' ?_
          refine s_bin S rfl rfl rfl rfl ?_; clear S a; intro a S
          refine s_move S rfl rfl ?_; clear S a; intro a S
          refine c_end' ?_
          refine x_thenN ?_
          exact ⟨_, (wr .i64 (y23 + 1)), g62, g63, (y24.set (Int.toNat (wr .i64 ((wr .i64 (31 - (wr .i64 (8 * y14)))) - y23))) (wr .u8 (shr (rd x1 y14) (min (Int.toNat (wr .i64 (8 * y23))) 64)))), (S.sub ⟨rfl, rfl, rfl, rfl, rfl, rfl, rfl, trivial⟩ (.cons .here (.cons .here .nil))), h3⟩
        · refine c_condF S rfl c3 ?_
          refine wp_exit ?_
          refine x_thenX ?_
          refine x_thenX ?_
          refine x_blockX ?_
          refine x_blockN ?_
          refine x_thenN ?_
          exact j2 _ g62 g63 y24 a w (S.sub ⟨rfl, rfl, rfl, rfl, trivial⟩ (.cons .here (.cons .here .nil))) h1
    · refine c_condF S rfl c1 ?_
      refine wp_exit ?_
      refine x_thenX ?_
      refine x_thenX ?_
      refine x_blockX ?_
      refine x_thenN ?_
      exact j1 _ g48 g49 y15 a w (S.sub ⟨rfl, rfl, trivial⟩ (.cons .here (.cons .here .nil))) h1
/-! math/bits.Len64 -/
abbrev bits_Len64.Ty : Type := Int → Option Int
def bits_Len64.Ctr (s : bits_Len64.Ty) : Prop := ∀ (x1 : Int) (r : Int) (h0 : s x1 = some r) (mi : Mem) (w0 : World), okL mi [(.v (.int .u64 x1))] → Pre mi [] w0 → Calls Tryd.prog 93 (([(.v (.int .u64 x1))] : List D).map D.val).toArray w0 (RetX mi [] (fun (ch : Unit) => ((.v (.int .i64 r)) : D)) (fun (ch : Unit) => []) w0)
def bits_Len64.j3 (y5 : Int) (y6 : Int) : Option Int := if (0 : Int) ≤ (wr .u8 y6) ∧ (wr .u8 y6) < (txt0.size : Int) then (some (wr .i64 (y5 + (wr .i64 (bt txt0 (wr .u8 y6)))))) else none
def bits_Len64.j2 (y3 : Int) (y4 : Int) : Option Int := if (decide (256 ≤ y4)) = true then (bits_Len64.j3 (wr .i64 (y3 + 8)) (shr y4 8)) else (bits_Len64.j3 y3 y4)
def bits_Len64.j1 (y1 : Int) (y2 : Int) : Option Int := if (decide (65536 ≤ y2)) = true then (bits_Len64.j2 (wr .i64 (y1 + 16)) (shr y2 16)) else (bits_Len64.j2 y1 y2)
def bits_Len64.f (x1 : Int) : Option Int := if (decide (4294967296 ≤ x1)) = true then (bits_Len64.j1 32 (shr x1 32)) else (bits_Len64.j1 0 x1)
theorem bits_Len64.ok : bits_Len64.Ctr (bits_Len64.f) := by
  intro x1 r h0 mi w0 ok hm
  delta bits_Len64.f at h0
  refine c_enterX (n := 25) [(.v (.int .u64 x1))] (l := [(0, (.v (.int .u64 x1)))]) Tryd.func93 rfl rfl rfl rfl ok hm ?_
  clear ok hm
  intro b0 hb a S
  refine c_region ?_
  refine s_assign S rfl rfl ?_; clear S a; intro a S
  refine c_end ?_
  refine wp_seq_k ?_
  intro K1 hK1
  have j1 : ∀ (m : Mem) (y1 : Int) (y2 : Int) (a : Act) (w : World), St 25 m b0 [(2, (.v (.int .i64 y1))), (0, (.v (.int .u64 y2)))] [] a w → bits_Len64.j1 y1 y2 = some r → K1 a w := by
    intro m y1 y2 a w S h0
    delta bits_Len64.j1 at h0
    refine hK1 a w ?_
    refine wp_seq_k ?_
    intro K2 hK2
    have j2 : ∀ (m : Mem) (y3 : Int) (y4 : Int) (a : Act) (w : World), St 25 m b0 [(2, (.v (.int .i64 y3))), (0, (.v (.int .u64 y4)))] [] a w → bits_Len64.j2 y3 y4 = some r → K2 a w := by
      intro m y3 y4 a w S h0
      delta bits_Len64.j2 at h0
      refine hK2 a w ?_
      refine wp_seq_k ?_
      intro K3 hK3
      have j3 : ∀ (m : Mem) (y5 : Int) (y6 : Int) (a : Act) (w : World), St 25 m b0 [(2, (.v (.int .i64 y5))), (0, (.v (.int .u64 y6)))] [] a w → bits_Len64.j3 y5 y6 = some r → K3 a w := by
        intro m y5 y6 a w S h0
        delta bits_Len64.j3 at h0
        refine hK3 a w ?_
        refine c_region ?_
        refine s_move S rfl rfl ?_; clear S a; intro a S
        refine s_move S rfl rfl ?_; clear S a; intro a S
        refine s_conv S rfl rfl Tryd.underlying5 rfl ?_; clear S a; intro a S
        obtain ⟨c1, h1⟩ := chk_of h0; clear h0
        refine s_indexT S rfl rfl Tryd.underlying9 c1.1 c1.2 rfl ?_; clear S a; intro a S
        refine s_conv S rfl rfl Tryd.underlying3 rfl ?_; clear S a; intro a S
        refine s_bin S rfl rfl rfl rfl ?_; clear S a; intro a S
        refine s_assign S rfl rfl ?_; clear S a; intro a S
        refine c_end ?_
        refine wp_ret ?_
        obtain rfl := Option.some.inj h1
        exact b_ret1 (d := (.v (.int .i64 (wr .i64 (y5 + (wr .i64 (bt txt0 (wr .u8 y6)))))))) S rfl rfl fun ok => S.retX (Hx := []) hb _ _ (() : Unit) .nil ok
      refine c_region ?_
      refine s_move S rfl rfl ?_; clear S a; intro a S
      refine s_bin S rfl rfl rfl rfl ?_; clear S a; intro a S
      refine c_end ?_
      rcases ite_of h0 with ⟨c2, h1⟩ | ⟨c2, h1⟩ <;> clear h0
      · refine c_condT S rfl c2 ?_
        refine c_region ?_
        refine s_move S rfl rfl ?_; clear S a; intro a S
        refine s_shr S (e := 8) rfl rfl (by decide) rfl rfl ?_; clear S a; intro a S
        refine s_assign S rfl rfl ?_; clear S a; intro a S
        refine c_end ?_
        refine c_region' ?_
        refine s_move S rfl rfl ?_; clear S a; intro a S
        refine s_bin S rfl rfl rfl rfl ?_; clear S a; intro a S
        refine s_assign S rfl rfl ?_; clear S a; intro a S
        refine c_end' ?_
        refine x_thenN ?_
        exact j3 _ (wr .i64 (y3 + 8)) (shr y4 8) a w (S.sub ⟨rfl, rfl, trivial⟩ .nil) h1
      · refine c_condF S rfl c2 ?_
        refine wp_skip ?_
        refine x_thenN ?_
        exact j3 _ y3 y4 a w (S.sub ⟨rfl, rfl, trivial⟩ .nil) h1
    refine c_region ?_
    refine s_move S rfl rfl ?_; clear S a; intro a S
    refine s_bin S rfl rfl rfl rfl ?_; clear S a; intro a S
    refine c_end ?_
    rcases ite_of h0 with ⟨c3, h1⟩ | ⟨c3, h1⟩ <;> clear h0
    · refine c_condT S rfl c3 ?_
      refine c_region ?_
      refine s_move S rfl rfl ?_; clear S a; intro a S
      refine s_shr S (e := 16) rfl rfl (by decide) rfl rfl ?_; clear S a; intro a S
      refine s_assign S rfl rfl ?_; clear S a; intro a S
      refine c_end ?_
      refine c_region' ?_
      refine s_move S rfl rfl ?_; clear S a; intro a S
      refine s_bin S rfl rfl rfl rfl ?_; clear S a; intro a S
      refine s_assign S rfl rfl ?_; clear S a; intro a S
      refine c_end' ?_
      refine x_thenN ?_
      exact j2 _ (wr .i64 (y1 + 16)) (shr y2 16) a w (S.sub ⟨rfl, rfl, trivial⟩ .nil) h1
    · refine c_condF S rfl c3 ?_
      refine wp_skip ?_
      refine x_thenN ?_
      exact j2 _ y1 y2 a w (S.sub ⟨rfl, rfl, trivial⟩ .nil) h1
  refine c_region ?_
  refine s_move S rfl rfl ?_; clear S a; intro a S
  refine s_bin S rfl rfl rfl rfl ?_; clear S a; intro a S
  refine c_end ?_
  rcases ite_of h0 with ⟨c4, h1⟩ | ⟨c4, h1⟩ <;> clear h0
  · refine c_condT S rfl c4 ?_
    refine c_region ?_
    refine s_move S rfl rfl ?_; clear S a; intro a S
    refine s_shr S (e := 32) rfl rfl (by decide) rfl rfl ?_; clear S a; intro a S
    refine s_assign S rfl rfl ?_; clear S a; intro a S
    refine c_end ?_
    refine c_region' ?_
    refine s_assign S rfl rfl ?_; clear S a; intro a S
    refine c_end' ?_
    refine x_thenN ?_
    exact j1 _ 32 (shr x1 32) a w0 (S.sub ⟨rfl, rfl, trivial⟩ .nil) h1
  · refine c_condF S rfl c4 ?_
    refine wp_skip ?_
    refine x_thenN ?_
    exact j1 _ 0 x1 a w0 (S.sub ⟨rfl, rfl, trivial⟩ .nil) h1
/-! smithy/word.Len -/
abbrev word_Len.Ty : Type := (List Int) → Option Int
def word_Len.Ctr (s : word_Len.Ty) : Prop := ∀ (x1 : List Int) (r : Int) (h0 : s x1 = some r) (mi : Mem) (w0 : World), okL mi [(.agg [.ints .u64 x1 4])] → Pre mi [] w0 → Calls Tryd.prog 86 (([(.agg [.ints .u64 x1 4])] : List D).map D.val).toArray w0 (RetX mi [] (fun (ch : Unit) => ((.v (.int .i64 r)) : D)) (fun (ch : Unit) => []) w0)
def word_Len.j1 : Option Int := some 0
def word_Len.b1 (x1 : List Int) (rec1 : Int → Option Int) (y1 : Int) : Option Int := if (decide (0 ≤ y1)) = true then (if (0 : Int) ≤ y1 ∧ y1 < 4 then (if ((rd x1 y1) != 0) = true then ((bits_Len64.f (rd x1 y1)).bind fun t1 => (some (wr .i64 ((wr .i64 (64 * y1)) + t1)))) else (rec1 (wr .i64 (y1 - 1)))) else none) else word_Len.j1
def word_Len.l1 (x1 : List Int) : Nat → Int → Option Int
  | 0, _ => none
  | q + 1, y1 => word_Len.b1 x1 (word_Len.l1 x1 q) y1
def word_Len.f (k : Nat) (x1 : List Int) : Option Int := word_Len.l1 x1 k 3
theorem word_Len.ok (k : Nat) : word_Len.Ctr (word_Len.f k) := by
  intro x1 r h0 mi w0 ok hm
  delta word_Len.f at h0
  refine c_enterX (n := 19) [(.agg [.ints .u64 x1 4])] (l := [(0, (.agg [.ints .u64 x1 4]))]) Tryd.func86 rfl rfl rfl rfl ok hm ?_
  clear ok hm
  intro b0 hb a S
  refine c_region ?_
  refine s_box S rfl rfl rfl ?_; clear S a; intro g1 a w S
  refine s_assign S rfl rfl ?_; clear S a; intro a S
  refine c_end ?_
  refine wp_seq_k ?_
  intro K1 hK1
  have j1 : ∀ (m : Mem) (a : Act) (w : World), St 19 m b0 [] [] a w → word_Len.j1 = some r → K1 a w := by
    intro m a w S h0
    delta word_Len.j1 at h0
    refine hK1 a w ?_
    refine c_region ?_
    refine s_assign S rfl rfl ?_; clear S a; intro a S
    refine c_end ?_
    refine wp_ret ?_
    obtain rfl := Option.some.inj h0
    exact b_ret1 (d := (.v (.int .i64 0))) S rfl rfl fun ok => S.retX (Hx := []) hb _ _ (() : Unit) .nil ok
  refine c_region ?_
  refine s_assign S rfl rfl ?_; clear S a; intro a S
  refine c_end ?_
  refine wp_block ?_
  refine c_loop (fun q1 a w => ∃ (m : Mem) (y1 : Int) (g7 : Nat), St 19 m b0 [(3, (.v (.int .i64 y1))), (1, (.v (.pointer (some ⟨g7, 0, none⟩))))] [Res.cells g7 26 [.ints .u64 x1 4]] a w ∧ word_Len.l1 x1 q1 y1 = some r) ?_ ?_ (k := k) ⟨_, 3, g1, (S.sub ⟨rfl, rfl, trivial⟩ (.cons .here .nil)), h0⟩
  · rintro a w ⟨m, y1, g7, S, h0⟩
    exact (nomatch (show (none : Option Int) = some r from h0))
  · clear S h0
    rintro q1 a w ⟨m, y1, g7, S, h0⟩
    replace h0 : word_Len.b1 x1 (word_Len.l1 x1 q1) y1 = some r := h0
    delta word_Len.b1 at h0
    refine wp_seq ?_
    refine c_region ?_
    refine s_move S rfl rfl ?_; clear S a; intro a S
    refine s_bin S rfl rfl rfl rfl ?_; clear S a; intro a S
    refine c_end ?_
    rcases ite_of h0 with ⟨c1, h1⟩ | ⟨c1, h1⟩ <;> clear h0
    · refine c_condT S rfl c1 ?_
      refine wp_skip ?_
      refine x_thenN ?_
      refine wp_seq ?_
      refine wp_block ?_
      refine c_region ?_
      refine s_move S rfl rfl ?_; clear S a; intro a S
      obtain ⟨c2, h2⟩ := chk_of h1; clear h1
      refine s_iaddr S rfl rfl Tryd.underlying26 T24 c2.1 c2.2 (mul1 _ _) rfl ?_; clear S a; intro a S
      refine s_loadi S (i := y1) rfl .here T24 .here rfl c2.1 c2.2 rfl ?_; clear S a; intro a S
      refine s_bin S rfl rfl rfl rfl ?_; clear S a; intro a S
      refine c_end ?_
      rcases ite_of h2 with ⟨c3, h3⟩ | ⟨c3, h3⟩ <;> clear h2
      · refine c_condT S rfl c3 ?_
        refine c_region ?_
        refine s_move S rfl rfl ?_; clear S a; intro a S
        refine s_bin S rfl rfl rfl rfl ?_; clear S a; intro a S
        refine s_move S rfl rfl ?_; clear S a; intro a S
        refine s_iaddr S rfl rfl Tryd.underlying26 T24 c2.1 c2.2 (mul1 _ _) rfl ?_; clear S a; intro a S
        refine s_loadi S (i := y1) rfl .here T24 .here rfl c2.1 c2.2 rfl ?_; clear S a; intro a S
        obtain ⟨t1, et1, h4⟩ := bind_of h3; clear h3
        refine s_callP S (fun (ch : Unit) => ((.v (.int .i64 t1)) : D)) N93 rfl rfl (bits_Len64.ok (rd x1 y1) t1 et1 _ _) ?_; clear S a w; intro ch1 m le1 a w S
        refine s_bin S rfl rfl rfl rfl ?_; clear S a; intro a S
        refine s_assign S rfl rfl ?_; clear S a; intro a S
        refine c_end ?_
        refine wp_ret ?_
        refine x_blockR ?_
        refine x_thenR ?_
        refine x_thenR ?_
        refine x_blockR ?_
        refine x_thenR ?_
        obtain rfl := Option.some.inj h4
        exact b_ret1 (d := (.v (.int .i64 (wr .i64 ((wr .i64 (64 * y1)) + t1))))) S rfl rfl fun ok => S.retX (Hx := []) hb _ _ (() : Unit) .nil ok
      · refine c_condF S rfl c3 ?_
        refine wp_skip ?_
        refine x_blockN ?_
        refine x_thenN ?_
        refine c_region' ?_
        refine s_move S rfl rfl ?_; clear S a; intro a S
        refine s_bin S rfl rfl rfl rfl ?_; clear S a; intro a S
        refine s_assign S rfl rfl ?_; clear S a; intro a S
        refine c_end' ?_
        refine x_thenN ?_
        exact ⟨_, (wr .i64 (y1 - 1)), g7, (S.sub ⟨rfl, rfl, trivial⟩ (.cons .here .nil)), h3⟩
    · refine c_condF S rfl c1 ?_
      refine wp_exit ?_
      refine x_thenX ?_
      refine x_thenX ?_
      refine x_blockX ?_
      refine x_thenN ?_
      exact j1 _ a w (S.sub trivial .nil) h1
/-! smithy/word.Size -/
abbrev word_Size.Ty : Type := (List Int) → Option Int
def word_Size.Ctr (s : word_Size.Ty) : Prop := ∀ (x1 : List Int) (r : Int) (h0 : s x1 = some r) (mi : Mem) (w0 : World), okL mi [(.agg [.ints .u64 x1 4])] → Pre mi [] w0 → Calls Tryd.prog 70 (([(.agg [.ints .u64 x1 4])] : List D).map D.val).toArray w0 (RetX mi [] (fun (ch : Unit) => ((.v (.int .i64 r)) : D)) (fun (ch : Unit) => []) w0)
def word_Size.f (k : Nat) (x1 : List Int) : Option Int := (word_Len.f k x1).bind fun t1 => (some (wr .i64 (Int.tdiv (wr .i64 (t1 + 7)) 8)))
theorem word_Size.ok (k : Nat) : word_Size.Ctr (word_Size.f k) := by
  intro x1 r h0 mi w0 ok hm
  delta word_Size.f at h0
  refine c_enterX (n := 7) [(.agg [.ints .u64 x1 4])] (l := [(0, (.agg [.ints .u64 x1 4]))]) Tryd.func70 rfl rfl rfl rfl ok hm ?_
  clear ok hm
  intro b0 hb a S
  refine c_region ?_
  refine s_box S rfl rfl rfl ?_; clear S a; intro g1 a w S
  refine s_assign S rfl rfl ?_; clear S a; intro a S
  refine c_end ?_
  refine c_region ?_
  refine s_loada S rfl .here T26 (s' := [.ints .u64 x1 4]) rfl rfl ?_; clear S a; intro a S
  obtain ⟨t1, et1, h1⟩ := bind_of h0; clear h0
  refine s_callP S (fun (ch : Unit) => ((.v (.int .i64 t1)) : D)) N86 rfl rfl (word_Len.ok k x1 t1 et1 _ _) ?_; clear S a w; intro ch1 m le1 a w S
  refine s_bin S rfl rfl rfl rfl ?_; clear S a; intro a S
  refine s_quo S rfl rfl (by decide) rfl ?_; clear S a; intro a S
  refine s_assign S rfl rfl ?_; clear S a; intro a S
  refine c_end ?_
  refine wp_ret ?_
  obtain rfl := Option.some.inj h1
  exact b_ret1 (d := (.v (.int .i64 (wr .i64 (Int.tdiv (wr .i64 (t1 + 7)) 8))))) S rfl rfl fun ok => S.retX (Hx := []) hb _ _ (() : Unit) .nil ok
/-! smithy/rlp.Number -/
abbrev rlp_Number.Ty : Type := (List Int) → Option ((List Int))
def rlp_Number.Ctr (s : rlp_Number.Ty) : Prop := ∀ (x1 : List Int) (r : (List Int)) (h0 : s x1 = some r) (mi : Mem) (w0 : World), okL mi [(.agg [.ints .u64 x1 4])] → Pre mi [] w0 → Calls Tryd.prog 44 (([(.agg [.ints .u64 x1 4])] : List D).map D.val).toArray w0 (RetX mi [] (fun (ch : (Option Addr) × Nat × Nat) => ((.v (.slice ch.1 ch.2.1 ch.2.2)) : D)) (fun (ch : (Option Addr) × Nat × Nat) => [Res.row (Ty.int .u8) 5 ch.1 ch.2.1 ch.2.2 r]) w0)
def rlp_Number.f (k : Nat) (x1 : List Int) : Option ((List Int)) := (word_Bytes.f k x1).bind fun t1 => ((word_Size.f k x1).bind fun t2 => (if (0 : Int) ≤ (wr .i64 (32 - t2)) ∧ ((wr .i64 (32 - t2)) : Int) ≤ 32 ∧ 32 ≤ ((32 : Nat) : Int) then (if ((([] : List Int)).length + (((t1).drop (Int.toNat (wr .i64 (32 - t2)))).take (Int.toNat 32 - Int.toNat (wr .i64 (32 - t2)))).length) * 1 ≤ 140737488355328 then (some (([] : List Int) ++ (((t1).drop (Int.toNat (wr .i64 (32 - t2)))).take (Int.toNat 32 - Int.toNat (wr .i64 (32 - t2)))))) else none) else none))
theorem rlp_Number.ok (k : Nat) : rlp_Number.Ctr (rlp_Number.f k) := by
  intro x1 r h0 mi w0 ok hm
  delta rlp_Number.f at h0
  refine c_enterX (n := 12) [(.agg [.ints .u64 x1 4])] (l := [(0, (.agg [.ints .u64 x1 4]))]) Tryd.func44 rfl rfl rfl rfl ok hm ?_
  clear ok hm
  intro b0 hb a S
  refine c_region ?_
  refine s_box S rfl rfl rfl ?_; clear S a; intro g1 a w S
  refine s_assign S rfl rfl ?_; clear S a; intro a S
  refine c_end ?_
  refine c_region ?_
  refine s_loada S rfl .here T26 (s' := [.ints .u64 x1 4]) rfl rfl ?_; clear S a; intro a S
  obtain ⟨t1, et1, h1⟩ := bind_of h0; clear h0
  refine s_callP S (fun (ch : Unit) => ((.agg [.ints .u8 t1 32]) : D)) N45 rfl rfl (word_Bytes.ok k x1 t1 et1 _ _) ?_; clear S a w; intro ch1 m le1 a w S
  refine s_alloc S Z22 rfl ⟨rfl, trivial⟩ rfl ?_; clear S a w; intro g2 a w S
  refine s_store S rfl rfl rfl (s' := [.ints .u8 t1 32]) .here T22 rfl rfl ?_; clear S w; intro w S
  refine c_end ?_
  refine c_region ?_
  refine s_bldSl S (ty' := (Ty.int .u8)) (ds := []) (z := 0) (c0 := ()) (ys := ([] : List Int)) (cs := []) rfl Tryd.underlying37 J5 Z5 rfl ⟨rfl, trivial⟩ rfl rfl rfl rfl rfl rfl ?_; clear S a w; intro g3 a w S
  refine s_loada S rfl (.there (.there .here)) T26 (s' := [.ints .u64 x1 4]) rfl rfl ?_; clear S a; intro a S
  obtain ⟨t2, et2, h2⟩ := bind_of h1; clear h1
  refine s_callP S (fun (ch : Unit) => ((.v (.int .i64 t2)) : D)) N70 rfl rfl (word_Size.ok k x1 t2 et2 _ _) ?_; clear S a w; intro ch2 m le1 a w S
  refine s_bin S rfl rfl rfl rfl ?_; clear S a; intro a S
  obtain ⟨c1, h3⟩ := chk_of h2; clear h2
  refine s_sliceA S (i := (wr .i64 (32 - t2))) (j := 32) (o' := if 32 = Int.toNat (wr .i64 (32 - t2)) then 0 else 0 + Int.toNat (wr .i64 (32 - t2)) * 1) (len := Int.toNat 32 - Int.toNat (wr .i64 (32 - t2))) (cap := 32 - Int.toNat (wr .i64 (32 - t2))) rfl Tryd.underlying22 T5 (.inr ⟨_, _, rfl, rfl⟩) (.inl ⟨rfl, rfl⟩) c1 rfl rfl rfl rfl ?_; clear S a; intro a S
  replace S := S.freeze (.there .here)
  obtain ⟨m, le1, S⟩ := S
  replace S := (S.slup' (u := 10) (lo := Int.toNat (wr .i64 (32 - t2))) (c := 32) (ys := ((t1).drop (Int.toNat (wr .i64 (32 - t2)))).take (Int.toNat 32 - Int.toNat (wr .i64 (32 - t2)))) rfl (Pull.mem (.there .here)).1 .here (ho_if c1) (hl_if c1) (hcap_if c1 rfl) rfl).2
  obtain ⟨c2, h4⟩ := chk_of h3; clear h3
  refine s_app S (k2 := ((((t1).drop (Int.toNat (wr .i64 (32 - t2)))).take (Int.toNat 32 - Int.toNat (wr .i64 (32 - t2)))).length)) (ys := (((t1).drop (Int.toNat (wr .i64 (32 - t2)))).take (Int.toNat 32 - Int.toNat (wr .i64 (32 - t2))))) rfl (fun _ _ => .here) rfl rfl rfl (RdS.src (S.get 10 (.sl (some ⟨g2, if 32 = Int.toNat (wr .i64 (32 - t2)) then 0 else 0 + Int.toNat (wr .i64 (32 - t2)) * 1, none⟩) (((t1).drop (Int.toNat (wr .i64 (32 - t2)))).take (Int.toNat 32 - Int.toNat (wr .i64 (32 - t2)))).length (32 - Int.toNat (wr .i64 (32 - t2))) (RdS (Ty.int .u8) (some ⟨g2, if 32 = Int.toNat (wr .i64 (32 - t2)) then 0 else 0 + Int.toNat (wr .i64 (32 - t2)) * 1, none⟩) (((t1).drop (Int.toNat (wr .i64 (32 - t2)))).take (Int.toNat 32 - Int.toNat (wr .i64 (32 - t2)))))) rfl).2.2.2.1 (by decide) S.frz) Tryd.underlying37 J5 c2 rfl ?_; clear S a w; intro A1 cp1 a w S
  refine s_assign S rfl rfl ?_; clear S a; intro a S
  refine c_end ?_
  refine wp_ret ?_
  obtain rfl := Option.some.inj h4
  exact b_ret1 (d := (.v (.slice A1 (0 + ((((t1).drop (Int.toNat (wr .i64 (32 - t2)))).take (Int.toNat 32 - Int.toNat (wr .i64 (32 - t2)))).length)) cp1))) S rfl rfl fun ok => S.retX (Hx := []) hb _ _ ((A1, 0 + ((((t1).drop (Int.toNat (wr .i64 (32 - t2)))).take (Int.toNat 32 - Int.toNat (wr .i64 (32 - t2)))).length), cp1) : (Option Addr) × Nat × Nat) (.cons .here .nil) ok
/-! smithy/block.number -/
abbrev block_number.Ty : Type := (List Int) → Option ((Bool × (List Int) × Int))
def block_number.Ctr (s : block_number.Ty) : Prop := ∀ (x1 : List Int) (r : (Bool × (List Int) × Int)) (h0 : s x1 = some r) (mi : Mem) (w0 : World), okL mi [(.agg [.ints .u64 x1 4])] → Pre mi [] w0 → Calls Tryd.prog 25 (([(.agg [.ints .u64 x1 4])] : List D).map D.val).toArray w0 (RetX mi [] (fun (ch : (Option Addr) × Nat) => ((.agg [.one (.bool r.1), .sl ch.1 (r.2.1).length ch.2 (RdS (Ty.int .u8) ch.1 r.2.1), .one (.int .i64 r.2.2)]) : D)) (fun (ch : (Option Addr) × Nat) => []) w0)
def block_number.f (k : Nat) (x1 : List Int) : Option ((Bool × (List Int) × Int)) := (rlp_Number.f k x1).bind fun t1 => ((block_item.f t1).bind fun t2 => (some (t2.1, t2.2.1, t2.2.2)))
theorem block_number.ok (k : Nat) : block_number.Ctr (block_number.f k) := by
  intro x1 r h0 mi w0 ok hm
  delta block_number.f at h0
  refine c_enterX (n := 6) [(.agg [.ints .u64 x1 4])] (l := [(0, (.agg [.ints .u64 x1 4]))]) Tryd.func25 rfl rfl rfl rfl ok hm ?_
  clear ok hm
  intro b0 hb a S
  refine c_region ?_
  refine s_box S rfl rfl rfl ?_; clear S a; intro g1 a w S
  refine s_alloc S Z54 rfl ⟨rfl, rfl, rfl, trivial⟩ rfl ?_; clear S a w; intro g2 a w S
  refine c_end ?_
  refine c_region ?_
  refine s_loada S rfl (.there .here) T26 (s' := [.ints .u64 x1 4]) rfl rfl ?_; clear S a; intro a S
  obtain ⟨t1, et1, h1⟩ := bind_of h0; clear h0
  refine s_callR S (fun (ch : (Option Addr) × Nat × Nat) => ((.v (.slice ch.1 ch.2.1 ch.2.2)) : D)) (fun (ch : (Option Addr) × Nat × Nat) => Res.row (Ty.int .u8) 5 ch.1 ch.2.1 ch.2.2 t1) N44 rfl rfl (rlp_Number.ok k x1 t1 et1 _ _) ?_; clear S a w; intro ch1 m le1 a w S
  replace S := S.rowfro .here
  obtain ⟨m, le1, S, hro⟩ := S
  replace S := S.slotro (u := 4) rfl hro
  obtain ⟨t2, et2, h2⟩ := bind_of h1; clear h1
  refine s_callP S (fun (ch : (Option Addr) × Nat) => ((.agg [.one (.bool t2.1), .sl ch.1 (t2.2.1).length ch.2 (RdS (Ty.int .u8) ch.1 t2.2.1), .one (.int .i64 t2.2.2)]) : D)) N23 rfl rfl (block_item.ok t1 ch1.1 ch1.2.2 t2 et2 _ _) ?_; clear S a w; intro ch2 m le1 a w S
  refine s_store S rfl rfl rfl (s' := [.one (.bool t2.1), .sl ch2.1 (t2.2.1).length ch2.2 (RdS (Ty.int .u8) ch2.1 t2.2.1), .one (.int .i64 t2.2.2)]) .here T54 rfl rfl ?_; clear S w; intro w S
  refine c_end ?_
  refine wp_ret ?_
  obtain rfl := Option.some.inj h2
  exact b_ret1 (d := (.agg [.one (.bool t2.1), .sl ch2.1 (t2.2.1).length ch2.2 (RdS (Ty.int .u8) ch2.1 t2.2.1), .one (.int .i64 t2.2.2)])) S rfl (resD_cell rfl .here T54 rfl rfl) fun ok => S.retX (Hx := []) hb _ _ ((ch2.1, ch2.2) : (Option Addr) × Nat) .nil ok
/-! smithy/block.count -/
abbrev block_count.Ty : Type := Int → Option ((Bool × (List Int) × Int))
def block_count.Ctr (s : block_count.Ty) : Prop := ∀ (x1 : Int) (r : (Bool × (List Int) × Int)) (h0 : s x1 = some r) (mi : Mem) (w0 : World), okL mi [(.v (.int .u64 x1))] → Pre mi [] w0 → Calls Tryd.prog 24 (([(.v (.int .u64 x1))] : List D).map D.val).toArray w0 (RetX mi [] (fun (ch : (Option Addr) × Nat) => ((.agg [.one (.bool r.1), .sl ch.1 (r.2.1).length ch.2 (RdS (Ty.int .u8) ch.1 r.2.1), .one (.int .i64 r.2.2)]) : D)) (fun (ch : (Option Addr) × Nat) => []) w0)
def block_count.f (k : Nat) (x1 : Int) : Option ((Bool × (List Int) × Int)) := (word_Of.f x1).bind fun t1 => ((block_number.f k t1).bind fun t2 => (some (t2.1, t2.2.1, t2.2.2)))
theorem block_count.ok (k : Nat) : block_count.Ctr (block_count.f k) := by
  intro x1 r h0 mi w0 ok hm
  delta block_count.f at h0
  refine c_enterX (n := 6) [(.v (.int .u64 x1))] (l := [(0, (.v (.int .u64 x1)))]) Tryd.func24 rfl rfl rfl rfl ok hm ?_
  clear ok hm
  intro b0 hb a S
  refine c_region ?_
  refine s_alloc S Z54 rfl ⟨rfl, rfl, rfl, trivial⟩ rfl ?_; clear S a; intro g1 a w S
  refine c_end ?_
  refine c_region ?_
  refine s_move S rfl rfl ?_; clear S a; intro a S
  obtain ⟨t1, et1, h1⟩ := bind_of h0; clear h0
  refine s_callP S (fun (ch : Unit) => ((.agg [.ints .u64 t1 4]) : D)) N43 rfl rfl (word_Of.ok x1 t1 et1 _ _) ?_; clear S a w; intro ch1 m le1 a w S
  obtain ⟨t2, et2, h2⟩ := bind_of h1; clear h1
  refine s_callP S (fun (ch : (Option Addr) × Nat) => ((.agg [.one (.bool t2.1), .sl ch.1 (t2.2.1).length ch.2 (RdS (Ty.int .u8) ch.1 t2.2.1), .one (.int .i64 t2.2.2)]) : D)) N25 rfl rfl (block_number.ok k t1 t2 et2 _ _) ?_; clear S a w; intro ch2 m le1 a w S
  refine s_store S rfl rfl rfl (s' := [.one (.bool t2.1), .sl ch2.1 (t2.2.1).length ch2.2 (RdS (Ty.int .u8) ch2.1 t2.2.1), .one (.int .i64 t2.2.2)]) .here T54 rfl rfl ?_; clear S w; intro w S
  refine c_end ?_
  refine wp_ret ?_
  obtain rfl := Option.some.inj h2
  exact b_ret1 (d := (.agg [.one (.bool t2.1), .sl ch2.1 (t2.2.1).length ch2.2 (RdS (Ty.int .u8) ch2.1 t2.2.1), .one (.int .i64 t2.2.2)])) S rfl (resD_cell rfl .here T54 rfl rfl) fun ok => S.retX (Hx := []) hb _ _ ((ch2.1, ch2.2) : (Option Addr) × Nat) .nil ok
/-! smithy/block.full -/
abbrev block_full.Ty : Type := (List Int) → Option ((Bool × (List Int) × Int))
def block_full.Ctr (s : block_full.Ty) : Prop := ∀ (x1 : List Int) (r : (Bool × (List Int) × Int)) (h0 : s x1 = some r) (mi : Mem) (w0 : World), okL mi [(.agg [.ints .u64 x1 4])] → Pre mi [] w0 → Calls Tryd.prog 26 (([(.agg [.ints .u64 x1 4])] : List D).map D.val).toArray w0 (RetX mi [] (fun (ch : (Option Addr) × Nat) => ((.agg [.one (.bool r.1), .sl ch.1 (r.2.1).length ch.2 (RdS (Ty.int .u8) ch.1 r.2.1), .one (.int .i64 r.2.2)]) : D)) (fun (ch : (Option Addr) × Nat) => []) w0)
def block_full.f (k : Nat) (x1 : List Int) : Option ((Bool × (List Int) × Int)) := (word_Bytes.f k x1).bind fun t1 => ((block_item.f (((t1).drop 0).take 32)).bind fun t2 => (some (t2.1, t2.2.1, t2.2.2)))
theorem block_full.ok (k : Nat) : block_full.Ctr (block_full.f k) := by
  intro x1 r h0 mi w0 ok hm
  delta block_full.f at h0
  refine c_enterX (n := 8) [(.agg [.ints .u64 x1 4])] (l := [(0, (.agg [.ints .u64 x1 4]))]) Tryd.func26 rfl rfl rfl rfl ok hm ?_
  clear ok hm
  intro b0 hb a S
  refine c_region ?_
  refine s_box S rfl rfl rfl ?_; clear S a; intro g1 a w S
  refine s_alloc S Z54 rfl ⟨rfl, rfl, rfl, trivial⟩ rfl ?_; clear S a w; intro g2 a w S
  refine c_end ?_
  refine c_region ?_
  refine s_loada S rfl (.there .here) T26 (s' := [.ints .u64 x1 4]) rfl rfl ?_; clear S a; intro a S
  obtain ⟨t1, et1, h1⟩ := bind_of h0; clear h0
  refine s_callP S (fun (ch : Unit) => ((.agg [.ints .u8 t1 32]) : D)) N45 rfl rfl (word_Bytes.ok k x1 t1 et1 _ _) ?_; clear S a w; intro ch1 m le1 a w S
  refine s_alloc S Z22 rfl ⟨rfl, trivial⟩ rfl ?_; clear S a w; intro g3 a w S
  refine s_store S rfl rfl rfl (s' := [.ints .u8 t1 32]) .here T22 rfl rfl ?_; clear S w; intro w S
  refine c_end ?_
  refine c_region ?_
  refine s_sliceA S (i := 0) (j := 32) (o' := 0) (len := 32) (cap := 32) rfl Tryd.underlying22 T5 (.inl ⟨rfl, rfl⟩) (.inl ⟨rfl, rfl⟩) (by decide) rfl rfl rfl rfl ?_; clear S a; intro a S
  replace S := S.freeze .here
  obtain ⟨m, le1, S⟩ := S
  replace S := (S.slup' (u := 6) (lo := 0) (c := 32) (ys := ((t1).drop 0).take 32) rfl (Pull.mem .here).1 .here (.inl rfl) (by decide) (by decide) rfl).2
  obtain ⟨t2, et2, h2⟩ := bind_of h1; clear h1
  refine s_callP S (fun (ch : (Option Addr) × Nat) => ((.agg [.one (.bool t2.1), .sl ch.1 (t2.2.1).length ch.2 (RdS (Ty.int .u8) ch.1 t2.2.1), .one (.int .i64 t2.2.2)]) : D)) N23 rfl rfl (block_item.ok (((t1).drop 0).take 32) (some ⟨g3, 0, none⟩) 32 t2 et2 _ _) ?_; clear S a w; intro ch2 m le1 a w S
  refine s_store S rfl rfl rfl (s' := [.one (.bool t2.1), .sl ch2.1 (t2.2.1).length ch2.2 (RdS (Ty.int .u8) ch2.1 t2.2.1), .one (.int .i64 t2.2.2)]) (.there .here) T54 rfl rfl ?_; clear S w; intro w S
  refine c_end ?_
  refine wp_ret ?_
  obtain rfl := Option.some.inj h2
  exact b_ret1 (d := (.agg [.one (.bool t2.1), .sl ch2.1 (t2.2.1).length ch2.2 (RdS (Ty.int .u8) ch2.1 t2.2.1), .one (.int .i64 t2.2.2)])) S rfl (resD_cell rfl (.there .here) T54 rfl rfl) fun ok => S.retX (Hx := []) hb _ _ ((ch2.1, ch2.2) : (Option Addr) × Nat) .nil ok
/-! smithy/block.list -/
abbrev block_list.Ty : Type := (List (List (Bool × (List Int) × Int))) → Option ((List (Bool × (List Int) × Int)))
def block_list.Ctr (s : block_list.Ty) : Prop := ∀ (x1 : List (List (Bool × (List Int) × Int))) (ch_0_0 : Option Addr) (ch_0_1 : Nat) (r : (List (Bool × (List Int) × Int))) (h0 : s x1 = some r) (mi : Mem) (w0 : World), okL mi [(.sl ch_0_0 (x1).length ch_0_1 (RdS (Ty.slice (Ty.prod Ty.bool (Ty.prod (Ty.slice (Ty.int .u8)) (Ty.int .i64)))) ch_0_0 x1))] → Pre mi [] w0 → Calls Tryd.prog 22 (([(.sl ch_0_0 (x1).length ch_0_1 (RdS (Ty.slice (Ty.prod Ty.bool (Ty.prod (Ty.slice (Ty.int .u8)) (Ty.int .i64)))) ch_0_0 x1))] : List D).map D.val).toArray w0 (RetX mi [] (fun (ch : (Option Addr) × Nat × Nat) => ((.v (.slice ch.1 ch.2.1 ch.2.2)) : D)) (fun (ch : (Option Addr) × Nat × Nat) => [Res.row (Ty.prod Ty.bool (Ty.prod (Ty.slice (Ty.int .u8)) (Ty.int .i64))) 54 ch.1 ch.2.1 ch.2.2 r]) w0)
def block_list.j1 (y1 : List (Bool × (List Int) × Int)) : Option ((List (Bool × (List Int) × Int))) := if (0 : Int) ≤ 0 ∧ 0 < ((y1).length : Int) then (some (y1.set (Int.toNat 0) ((gt y1 0).1, (gt y1 0).2.1, wr .i64 (((y1).length : Int) - 1)))) else none
def block_list.b1 (x1 : List (List (Bool × (List Int) × Int))) (rec1 : Int → (List (Bool × (List Int) × Int)) → Option ((List (Bool × (List Int) × Int)))) (y4 : Int) (y5 : List (Bool × (List Int) × Int)) : Option ((List (Bool × (List Int) × Int))) := if (decide (y4 < ((x1).length : Int))) = true then (if (0 : Int) ≤ y4 ∧ y4 < ((x1).length : Int) then (if ((y5).length + (gt x1 y4).length) * 40 ≤ 140737488355328 then (rec1 (wr .i64 (y4 + 1)) (y5 ++ (gt x1 y4))) else none) else none) else (block_list.j1 y5)
def block_list.l1 (x1 : List (List (Bool × (List Int) × Int))) : Nat → Int → (List (Bool × (List Int) × Int)) → Option ((List (Bool × (List Int) × Int)))
  | 0, _, _ => none
  | q + 1, y4, y5 => block_list.b1 x1 (block_list.l1 x1 q) y4 y5
def block_list.f (k : Nat) (x1 : List (List (Bool × (List Int) × Int))) : Option ((List (Bool × (List Int) × Int))) := block_list.l1 x1 k 0 [(true, ([] : List Int), 0)]
theorem block_list.ok (k : Nat) : block_list.Ctr (block_list.f k) := by
  intro x1 ch_0_0 ch_0_1 r h0 mi w0 ok hm
  delta block_list.f at h0
  refine c_enterX (n := 25) [(.sl ch_0_0 (x1).length ch_0_1 (RdS (Ty.slice (Ty.prod Ty.bool (Ty.prod (Ty.slice (Ty.int .u8)) (Ty.int .i64)))) ch_0_0 x1))] (l := [(0, (.sl ch_0_0 (x1).length ch_0_1 (RdS (Ty.slice (Ty.prod Ty.bool (Ty.prod (Ty.slice (Ty.int .u8)) (Ty.int .i64)))) ch_0_0 x1)))]) Tryd.func22 rfl rfl rfl rfl ok hm ?_
  clear ok hm
  intro b0 hb a S
  refine c_region ?_
  refine s_assign S rfl rfl ?_; clear S a; intro a S
  refine c_end ?_
  refine c_region ?_
  refine s_bldS S (ds := [(0, (.v (.bool true)))]) (zs := [.one (.bool false), .one (.slice none 0 0), .one (.int .i64 0)]) (s' := [.one (.bool true), .one (.slice none 0 0), .one (.int .i64 0)]) rfl Tryd.underlying54 P54 Z54 ⟨rfl, rfl, rfl, trivial⟩ rfl rfl ?_; clear S a; intro a S
  replace S := S.slot (u := 6) (d' := (.agg [.one (.bool true), .sl none (([] : List Int)).length 0 (RdS (Ty.int .u8) none ([] : List Int)), .one (.int .i64 0)])) rfl rfl (by have h := (S.get 6 (.agg [.one (.bool true), .one (.slice none 0 0), .one (.int .i64 0)]) rfl).2; exact ⟨h.1, ok_nil, h.2.2.1, trivial⟩)
  refine s_bldSl S (ty' := (Ty.prod Ty.bool (Ty.prod (Ty.slice (Ty.int .u8)) (Ty.int .i64)))) (ds := [(0, (.agg [.one (.bool true), .sl none (([] : List Int)).length 0 (RdS (Ty.int .u8) none ([] : List Int)), .one (.int .i64 0)]))]) (z := (false, ([] : List Int), 0)) (c0 := ((), (none, 0), ())) (ys := [(true, ([] : List Int), 0)]) (cs := [((), (none, 0), ())]) rfl Tryd.underlying51 J54 Z54 rfl ⟨rfl, ⟨Nat.le_refl _, Nat.zero_le _, RdS.nil _ _ _, RdS.mono _ _ _⟩, rfl, trivial⟩ rfl rfl rfl rfl rfl rfl ?_; clear S a; intro g1 a w S
  refine s_assign S rfl rfl ?_; clear S a; intro a S
  refine c_end ?_
  refine wp_seq_k ?_
  intro K1 hK1
  have j1 : ∀ (m : Mem) (A1 : Option Addr) (nn1 : Nat) (cp1 : Nat) (y1 : List (Bool × (List Int) × Int)) (a : Act) (w : World), St 25 m b0 [(3, (.v (.slice A1 nn1 cp1)))] [Res.row (Ty.prod Ty.bool (Ty.prod (Ty.slice (Ty.int .u8)) (Ty.int .i64))) 54 A1 nn1 cp1 y1] a w → block_list.j1 y1 = some r → K1 a w := by
    intro m A1 nn1 cp1 y1 a w S h0
    delta block_list.j1 at h0
    refine hK1 a w ?_
    refine c_region ?_
    refine s_move S rfl rfl ?_; clear S a; intro a S
    refine s_move S rfl rfl ?_; clear S a; intro a S
    refine s_lenO S rfl .here Tryd.underlying51 rfl ?_; clear S a; intro a S
    refine s_bin S rfl rfl rfl rfl ?_; clear S a; intro a S
    obtain ⟨c1, h1⟩ := chk_of h0; clear h0
    refine s_iaddrO S (ty' := (Ty.prod Ty.bool (Ty.prod (Ty.slice (Ty.int .u8)) (Ty.int .i64)))) rfl .here rfl Tryd.underlying51 T54 c1.1 c1.2 rfl ?_; clear S a; intro g2 a hA1 S
    refine s_fieldAddr S rfl I54_2 T3 (by decide) rfl rfl ?_; clear S a; intro a S
    refine s_stR S (ty' := (Ty.prod Ty.bool (Ty.prod (Ty.slice (Ty.int .u8)) (Ty.int .i64)))) (i := 0) (off := 2) (u := ((gt y1 0).1, (gt y1 0).2.1, wr .i64 (((y1).length : Int) - 1))) (fun (c : Unit × (Option Addr × Nat) × Unit) => ((), (c.2.1.1, c.2.1.2), ())) rfl rfl rfl hA1 .here T3 c1.1 c1.2 rfl (by decide) rfl (fun _ => rfl) ?_; clear S w; intro w S
    refine c_end ?_
    refine c_region ?_
    refine s_move S rfl rfl ?_; clear S a; intro a S
    refine s_assign S rfl rfl ?_; clear S a; intro a S
    refine c_end ?_
    refine wp_ret ?_
    obtain rfl := Option.some.inj h1
    exact b_ret1 (d := (.v (.slice A1 nn1 cp1))) S rfl rfl fun ok => S.retX (Hx := []) hb _ _ ((A1, nn1, cp1) : (Option Addr) × Nat × Nat) (.cons .here .nil) ok
  refine c_region ?_
  refine s_move S rfl rfl ?_; clear S a; intro a S
  refine s_lenS S rfl Tryd.underlying76 rfl ?_; clear S a; intro a S
  refine s_move S rfl rfl ?_; clear S a; intro a S
  refine c_end ?_
  refine wp_block ?_
  refine c_loop (fun q1 a w => ∃ (m : Mem) (y4 : Int) (A2 : Option Addr) (nn3 : Nat) (cp7 : Nat) (y5 : List (Bool × (List Int) × Int)), St 25 m b0 [(10, (.v (.int .i64 y4))), (9, (.v (.int .i64 ((x1).length : Int)))), (8, (.sl ch_0_0 (x1).length ch_0_1 (RdS (Ty.slice (Ty.prod Ty.bool (Ty.prod (Ty.slice (Ty.int .u8)) (Ty.int .i64)))) ch_0_0 x1))), (3, (.v (.slice A2 nn3 cp7)))] [Res.row (Ty.prod Ty.bool (Ty.prod (Ty.slice (Ty.int .u8)) (Ty.int .i64))) 54 A2 nn3 cp7 y5] a w ∧ block_list.l1 x1 q1 y4 y5 = some r) ?_ ?_ (k := k) ⟨_, 0, (some ⟨g1, 0, none⟩), 1, 1, [(true, ([] : List Int), 0)], (S.sub ⟨rfl, rfl, rfl, rfl, trivial⟩ (.cons .here .nil)), h0⟩
  · rintro a w ⟨m, y4, A2, nn3, cp7, y5, S, h0⟩
    exact (nomatch (show (none : Option ((List (Bool × (List Int) × Int)))) = some r from h0))
  · clear S h0
    rintro q1 a w ⟨m, y4, A2, nn3, cp7, y5, S, h0⟩
    replace h0 : block_list.b1 x1 (block_list.l1 x1 q1) y4 y5 = some r := h0
    delta block_list.b1 at h0
    refine c_region ?_
    refine s_bin S rfl rfl rfl rfl ?_; clear S a; intro a S
    refine c_end ?_
    refine wp_seq ?_
    rcases ite_of h0 with ⟨c2, h1⟩ | ⟨c2, h1⟩ <;> clear h0
    · refine c_condT S rfl c2 ?_
      refine wp_skip ?_
      refine x_thenN ?_
      refine wp_seq ?_
      refine wp_block ?_
      refine c_region ?_
      obtain ⟨c3, h2⟩ := chk_of h1; clear h1
      refine s_iaddrS S rfl rfl rfl Tryd.underlying76 T51 c3.1 c3.2 rfl ?_; clear S a; intro p1 a S
      refine s_ldS S (fun c => c) rfl T51 (fun _ => rfl) rfl ?_; clear S a; intro A3 cp8 a S
      refine s_assign S rfl rfl ?_; clear S a; intro a S
      refine c_end ?_
      refine c_region' ?_
      refine s_move S rfl rfl ?_; clear S a; intro a S
      refine s_move S rfl rfl ?_; clear S a; intro a S
      obtain ⟨c4, h3⟩ := chk_of h2; clear h2
      refine s_app S (k2 := ((gt x1 y4).length)) (ys := (gt x1 y4)) rfl (fun _ _ => .here) rfl rfl rfl (RdS.src (S.get 15 (.sl A3 (gt x1 y4).length cp8 (RdS (Ty.prod Ty.bool (Ty.prod (Ty.slice (Ty.int .u8)) (Ty.int .i64))) A3 (gt x1 y4))) rfl).2.2.2.1 (by decide) S.frz) Tryd.underlying51 J54 c4 rfl ?_; clear S a w; intro A4 cp9 a w S
      refine s_assign S rfl rfl ?_; clear S a; intro a S
      refine c_end' ?_
      refine x_blockN ?_
      refine x_thenN ?_
      refine c_region' ?_
      refine s_bin S rfl rfl rfl rfl ?_; clear S a; intro a S
      refine s_move S rfl rfl ?_; clear S a; intro a S
      refine c_end' ?_
      refine x_thenN ?_
      exact ⟨_, (wr .i64 (y4 + 1)), A4, (nn3 + ((gt x1 y4).length)), cp9, (y5 ++ (gt x1 y4)), (S.sub ⟨rfl, rfl, rfl, rfl, trivial⟩ (.cons .here .nil)), h3⟩
    · refine c_condF S rfl c2 ?_
      refine wp_exit ?_
      refine x_thenX ?_
      refine x_thenX ?_
      refine x_blockX ?_
      refine x_thenN ?_
      exact j1 _ A2 nn3 cp7 y5 a w (S.sub ⟨rfl, trivial⟩ (.cons .here .nil)) h1
/-! smithy/rlp.one -/
abbrev rlp_one.Ty : Type := (List (Bool × (List Int) × Int)) → Option Bool
def rlp_one.Ctr (s : rlp_one.Ty) : Prop := ∀ (x1 : List (Bool × (List Int) × Int)) (ch_0_0 : Option Addr) (ch_0_1 : Nat) (r : Bool) (h0 : s x1 = some r) (mi : Mem) (w0 : World), okL mi [(.sl ch_0_0 (x1).length ch_0_1 (RdS (Ty.prod Ty.bool (Ty.prod (Ty.slice (Ty.int .u8)) (Ty.int .i64))) ch_0_0 x1))] → Pre mi [] w0 → Calls Tryd.prog 67 (([(.sl ch_0_0 (x1).length ch_0_1 (RdS (Ty.prod Ty.bool (Ty.prod (Ty.slice (Ty.int .u8)) (Ty.int .i64))) ch_0_0 x1))] : List D).map D.val).toArray w0 (RetX mi [] (fun (ch : Unit) => ((.v (.bool r)) : D)) (fun (ch : Unit) => []) w0)
def rlp_one.j2 : Option Bool := some true
def rlp_one.j3 (y27 : Int) (rec1 : (List Int) → Int → Option Bool) (y36 : List Int) : Option Bool := rec1 y36 (wr .i64 (y27 + 1))
def rlp_one.j6 (x1 : List (Bool × (List Int) × Int)) (y27 : Int) (rec1 : (List Int) → Int → Option Bool) (y42 : List Int) (y44 : Bool) : Option Bool := if y44 = true then (some false) else (if ((y42).length + ([wr .i64 ((wr .i64 (y27 + 1)) + ((gt x1 y27).2.2))]).length) * 8 ≤ 140737488355328 then (rlp_one.j3 y27 rec1 (y42 ++ [wr .i64 ((wr .i64 (y27 + 1)) + ((gt x1 y27).2.2))])) else none)
def rlp_one.j5 (x1 : List (Bool × (List Int) × Int)) (y27 : Int) (rec1 : (List Int) → Int → Option Bool) (y42 : List Int) (y43 : Bool) : Option Bool := if y43 = true then (some false) else (if (decide (0 < ((y42).length : Int))) = true then (if (0 : Int) ≤ (wr .i64 (((y42).length : Int) - 1)) ∧ (wr .i64 (((y42).length : Int) - 1)) < ((y42).length : Int) then (rlp_one.j6 x1 y27 rec1 y42 (decide ((rd y42 (wr .i64 (((y42).length : Int) - 1))) < (wr .i64 ((wr .i64 (y27 + 1)) + ((gt x1 y27).2.2)))))) else none) else (rlp_one.j6 x1 y27 rec1 y42 false))
def rlp_one.j4 (x1 : List (Bool × (List Int) × Int)) (y27 : Int) (rec1 : (List Int) → Int → Option Bool) (y42 : List Int) : Option Bool := if (!((gt x1 y27).1)) = true then (if (((gt x1 y27).2.2) != 0) = true then (rlp_one.j5 x1 y27 rec1 y42 true) else (if ((gt x1 y27).1) = true then (if (decide (0 < (((gt x1 y27).2.1).length : Int))) = true then (rlp_one.j5 x1 y27 rec1 y42 true) else (if (decide (((gt x1 y27).2.2) < 0)) = true then (rlp_one.j5 x1 y27 rec1 y42 true) else (rlp_one.j5 x1 y27 rec1 y42 (decide ((wr .i64 ((wr .i64 (((x1).length : Int) - 1)) - y27)) < ((gt x1 y27).2.2)))))) else (if (decide (((gt x1 y27).2.2) < 0)) = true then (rlp_one.j5 x1 y27 rec1 y42 true) else (rlp_one.j5 x1 y27 rec1 y42 (decide ((wr .i64 ((wr .i64 (((x1).length : Int) - 1)) - y27)) < ((gt x1 y27).2.2))))))) else (if ((gt x1 y27).1) = true then (if (decide (0 < (((gt x1 y27).2.1).length : Int))) = true then (rlp_one.j5 x1 y27 rec1 y42 true) else (if (decide (((gt x1 y27).2.2) < 0)) = true then (rlp_one.j5 x1 y27 rec1 y42 true) else (rlp_one.j5 x1 y27 rec1 y42 (decide ((wr .i64 ((wr .i64 (((x1).length : Int) - 1)) - y27)) < ((gt x1 y27).2.2)))))) else (if (decide (((gt x1 y27).2.2) < 0)) = true then (rlp_one.j5 x1 y27 rec1 y42 true) else (rlp_one.j5 x1 y27 rec1 y42 (decide ((wr .i64 ((wr .i64 (((x1).length : Int) - 1)) - y27)) < ((gt x1 y27).2.2))))))
def rlp_one.j7 (x1 : List (Bool × (List Int) × Int)) (y27 : Int) (rec1 : (List Int) → Int → Option Bool) (y48 : List Int) (rec2 : (List Int) → Option Bool) (y49 : Bool) : Option Bool := if y49 = true then (if (0 : Int) ≤ (wr .i64 (((y48).length : Int) - 1)) ∧ (wr .i64 (((y48).length : Int) - 1)) ≤ ((y48).length : Int) then (rec2 (y48.take (Int.toNat (wr .i64 (((y48).length : Int) - 1))))) else none) else (rlp_one.j4 x1 y27 rec1 y48)
def rlp_one.b2 (x1 : List (Bool × (List Int) × Int)) (y27 : Int) (rec1 : (List Int) → Int → Option Bool) (rec2 : (List Int) → Option Bool) (y48 : List Int) : Option Bool := if (decide (0 < ((y48).length : Int))) = true then (if (0 : Int) ≤ (wr .i64 (((y48).length : Int) - 1)) ∧ (wr .i64 (((y48).length : Int) - 1)) < ((y48).length : Int) then (rlp_one.j7 x1 y27 rec1 y48 rec2 ((rd y48 (wr .i64 (((y48).length : Int) - 1))) == y27)) else none) else (rlp_one.j7 x1 y27 rec1 y48 rec2 false)
def rlp_one.l2 (x1 : List (Bool × (List Int) × Int)) (y27 : Int) (rec1 : (List Int) → Int → Option Bool) : Nat → (List Int) → Option Bool
  | 0, _ => none
  | q + 1, y48 => rlp_one.b2 x1 y27 rec1 (rlp_one.l2 x1 y27 rec1 q) y48
def rlp_one.b1 (k : Nat) (x1 : List (Bool × (List Int) × Int)) (rec1 : (List Int) → Int → Option Bool) (y26 : List Int) (y27 : Int) : Option Bool := if (decide (y27 < ((x1).length : Int))) = true then (if (0 : Int) ≤ y27 ∧ y27 < ((x1).length : Int) then (rlp_one.l2 x1 y27 rec1 k y26) else none) else rlp_one.j2
def rlp_one.l1 (k : Nat) (x1 : List (Bool × (List Int) × Int)) : Nat → (List Int) → Int → Option Bool
  | 0, _, _ => none
  | q + 1, y26, y27 => rlp_one.b1 k x1 (rlp_one.l1 k x1 q) y26 y27
def rlp_one.j1 (k : Nat) (x1 : List (Bool × (List Int) × Int)) (y1 : Bool) : Option Bool := if y1 = true then (some false) else (rlp_one.l1 k x1 k ([] : List Int) 0)
def rlp_one.f (k : Nat) (x1 : List (Bool × (List Int) × Int)) : Option Bool := if (((x1).length : Int) == 0) = true then (rlp_one.j1 k x1 true) else (if (0 : Int) ≤ 0 ∧ 0 < ((x1).length : Int) then (rlp_one.j1 k x1 (((gt x1 0).2.2) != (wr .i64 (((x1).length : Int) - 1)))) else none)
theorem rlp_one.ok (k : Nat) : rlp_one.Ctr (rlp_one.f k) := by
  intro x1 ch_0_0 ch_0_1 r h0 mi w0 ok hm
  delta rlp_one.f at h0
  refine c_enterX (n := 101) [(.sl ch_0_0 (x1).length ch_0_1 (RdS (Ty.prod Ty.bool (Ty.prod (Ty.slice (Ty.int .u8)) (Ty.int .i64))) ch_0_0 x1))] (l := [(0, (.sl ch_0_0 (x1).length ch_0_1 (RdS (Ty.prod Ty.bool (Ty.prod (Ty.slice (Ty.int .u8)) (Ty.int .i64))) ch_0_0 x1)))]) Tryd.func67 rfl rfl rfl rfl ok hm ?_
  clear ok hm
  intro b0 hb a S
  refine c_region ?_
  refine s_assign S rfl rfl ?_; clear S a; intro a S
  refine c_end ?_
  refine wp_seq ?_
  refine wp_seq_k ?_
  intro K1 hK1
  have j1 : ∀ (m : Mem) (y1 : Bool) (a : Act) (w : World), St 101 m b0 [(19, (.v (.bool y1))), (0, (.sl ch_0_0 (x1).length ch_0_1 (RdS (Ty.prod Ty.bool (Ty.prod (Ty.slice (Ty.int .u8)) (Ty.int .i64))) ch_0_0 x1)))] [] a w → rlp_one.j1 k x1 y1 = some r → K1 a w := by
    intro m y1 a w S h0
    delta rlp_one.j1 at h0
    refine hK1 a w ?_
    rcases ite_of h0 with ⟨c1, h1⟩ | ⟨c1, h1⟩ <;> clear h0
    · refine c_condT S rfl c1 ?_
      refine c_region ?_
      refine s_assign S rfl rfl ?_; clear S a; intro a S
      refine c_end ?_
      refine wp_ret ?_
      refine x_thenR ?_
      obtain rfl := Option.some.inj h1
      exact b_ret1 (d := (.v (.bool false))) S rfl rfl fun ok => S.retX (Hx := []) hb _ _ (() : Unit) .nil ok
    · refine c_condF S rfl c1 ?_
      refine wp_skip ?_
      refine x_thenN ?_
      refine c_region ?_
      refine s_assign S rfl rfl ?_; clear S a; intro a S
      refine c_end ?_
      refine wp_seq_k ?_
      intro K2 hK2
      have j2 : ∀ (m : Mem) (a : Act) (w : World), St 101 m b0 [] [] a w → rlp_one.j2 = some r → K2 a w := by
        intro m a w S h0
        delta rlp_one.j2 at h0
        refine hK2 a w ?_
        refine c_region ?_
        refine s_assign S rfl rfl ?_; clear S a; intro a S
        refine c_end ?_
        refine wp_ret ?_
        obtain rfl := Option.some.inj h0
        exact b_ret1 (d := (.v (.bool true))) S rfl rfl fun ok => S.retX (Hx := []) hb _ _ (() : Unit) .nil ok
      refine c_region ?_
      refine s_move S rfl rfl ?_; clear S a; intro a S
      refine s_lenS S rfl Tryd.underlying51 rfl ?_; clear S a; intro a S
      refine s_move S rfl rfl ?_; clear S a; intro a S
      refine c_end ?_
      refine wp_block ?_
      replace S := S.nilrow (Ty.int .i64) 3
      refine c_loop (fun q1 a w => ∃ (m : Mem) (A1 : Option Addr) (nn1 : Nat) (cp1 : Nat) (y26 : List Int) (y27 : Int), St 101 m b0 [(3, (.v (.slice A1 nn1 cp1))), (22, (.v (.int .i64 y27))), (21, (.v (.int .i64 ((x1).length : Int)))), (20, (.sl ch_0_0 (x1).length ch_0_1 (RdS (Ty.prod Ty.bool (Ty.prod (Ty.slice (Ty.int .u8)) (Ty.int .i64))) ch_0_0 x1))), (0, (.sl ch_0_0 (x1).length ch_0_1 (RdS (Ty.prod Ty.bool (Ty.prod (Ty.slice (Ty.int .u8)) (Ty.int .i64))) ch_0_0 x1)))] [Res.row (Ty.int .i64) 3 A1 nn1 cp1 y26] a w ∧ rlp_one.l1 k x1 q1 y26 y27 = some r) ?_ ?_ (k := k) ⟨_, none, 0, 0, ([] : List Int), 0, (S.sub ⟨rfl, rfl, rfl, rfl, rfl, trivial⟩ (.cons .here .nil)), h1⟩
      · rintro a w ⟨m, A1, nn1, cp1, y26, y27, S, h0⟩
        exact (nomatch (show (none : Option Bool) = some r from h0))
      · clear S h1
        rintro q1 a w ⟨m, A1, nn1, cp1, y26, y27, S, h0⟩
        replace h0 : rlp_one.b1 k x1 (rlp_one.l1 k x1 q1) y26 y27 = some r := h0
        delta rlp_one.b1 at h0
        refine c_region ?_
        refine s_bin S rfl rfl rfl rfl ?_; clear S a; intro a S
        refine c_end ?_
        refine wp_seq ?_
        rcases ite_of h0 with ⟨c2, h1⟩ | ⟨c2, h1⟩ <;> clear h0
        · refine c_condT S rfl c2 ?_
          refine wp_skip ?_
          refine x_thenN ?_
          refine wp_seq_k ?_
          intro K3 hK3
          have j3 : ∀ (m : Mem) (A2 : Option Addr) (nn5 : Nat) (cp7 : Nat) (y36 : List Int) (a : Act) (w : World), St 101 m b0 [(3, (.v (.slice A2 nn5 cp7))), (22, (.v (.int .i64 y27))), (21, (.v (.int .i64 ((x1).length : Int)))), (20, (.sl ch_0_0 (x1).length ch_0_1 (RdS (Ty.prod Ty.bool (Ty.prod (Ty.slice (Ty.int .u8)) (Ty.int .i64))) ch_0_0 x1))), (0, (.sl ch_0_0 (x1).length ch_0_1 (RdS (Ty.prod Ty.bool (Ty.prod (Ty.slice (Ty.int .u8)) (Ty.int .i64))) ch_0_0 x1)))] [Res.row (Ty.int .i64) 3 A2 nn5 cp7 y36] a w → rlp_one.j3 y27 (rlp_one.l1 k x1 q1) y36 = some r → K3 a w := by
            intro m A2 nn5 cp7 y36 a w S h0
            delta rlp_one.j3 at h0
            refine hK3 a w ?_
            refine c_region' ?_
            refine s_bin S rfl rfl rfl rfl ?_; clear S a; intro a S
            refine s_move S rfl rfl ?_; clear S a; intro a S
            refine c_end' ?_
            refine x_thenN ?_
            exact ⟨_, A2, nn5, cp7, y36, (wr .i64 (y27 + 1)), (S.sub ⟨rfl, rfl, rfl, rfl, rfl, trivial⟩ (.cons .here .nil)), h0⟩
          refine wp_block ?_
          refine c_region ?_
          refine s_move S rfl rfl ?_; clear S a; intro a S
          obtain ⟨c3, h2⟩ := chk_of h1; clear h1
          refine s_iaddrS S rfl rfl rfl Tryd.underlying51 T54 c3.1 c3.2 rfl ?_; clear S a; intro p1 a S
          refine s_ldA S (fun (c : Unit × (Option Addr × Nat) × Unit) => [.one (.bool ((gt x1 y27).1)), .sl c.2.1.1 ((gt x1 y27).2.1).length c.2.1.2 (RdS (Ty.int .u8) c.2.1.1 ((gt x1 y27).2.1)), .one (.int .i64 ((gt x1 y27).2.2))]) rfl T54 (fun _ => rfl) rfl ?_; clear S a; intro ch1 a S
          refine s_alloc S Z54 rfl ⟨rfl, rfl, rfl, trivial⟩ rfl ?_; clear S a w; intro g1 a w S
          refine s_assign S rfl rfl ?_; clear S a; intro a S
          refine s_store S rfl rfl rfl (s' := [.one (.bool ((gt x1 y27).1)), .sl ch1.2.1.1 ((gt x1 y27).2.1).length ch1.2.1.2 (RdS (Ty.int .u8) ch1.2.1.1 ((gt x1 y27).2.1)), .one (.int .i64 ((gt x1 y27).2.2))]) .here T54 rfl rfl ?_; clear S w; intro w S
          refine c_end ?_
          refine wp_seq_k ?_
          intro K4 hK4
          have j4 : ∀ (m : Mem) (g11 : Nat) (nn8 : Nat) (y42 : List Int) (A3 : Option Addr) (cp11 : Nat) (a : Act) (w : World), St 101 m b0 [(4, (.v (.int .i64 y27))), (5, (.v (.pointer (some ⟨g11, 0, none⟩)))), (3, (.v (.slice A1 nn8 cp1))), (22, (.v (.int .i64 y27))), (21, (.v (.int .i64 ((x1).length : Int)))), (20, (.sl ch_0_0 (x1).length ch_0_1 (RdS (Ty.prod Ty.bool (Ty.prod (Ty.slice (Ty.int .u8)) (Ty.int .i64))) ch_0_0 x1))), (0, (.sl ch_0_0 (x1).length ch_0_1 (RdS (Ty.prod Ty.bool (Ty.prod (Ty.slice (Ty.int .u8)) (Ty.int .i64))) ch_0_0 x1)))] [Res.cells g11 54 [.one (.bool ((gt x1 y27).1)), .sl A3 ((gt x1 y27).2.1).length cp11 (RdS (Ty.int .u8) A3 ((gt x1 y27).2.1)), .one (.int .i64 ((gt x1 y27).2.2))], Res.row (Ty.int .i64) 3 A1 nn8 cp1 y42] a w → rlp_one.j4 x1 y27 (rlp_one.l1 k x1 q1) y42 = some r → K4 a w := by
            intro m g11 nn8 y42 A3 cp11 a w S h0
            delta rlp_one.j4 at h0
            refine hK4 a w ?_
            refine wp_seq ?_
            refine wp_seq_k ?_
            intro K5 hK5
            have j5 : ∀ (m : Mem) (y43 : Bool) (g12 : Nat) (a : Act) (w : World), St 101 m b0 [(77, (.v (.bool y43))), (4, (.v (.int .i64 y27))), (5, (.v (.pointer (some ⟨g12, 0, none⟩)))), (3, (.v (.slice A1 nn8 cp1))), (22, (.v (.int .i64 y27))), (21, (.v (.int .i64 ((x1).length : Int)))), (20, (.sl ch_0_0 (x1).length ch_0_1 (RdS (Ty.prod Ty.bool (Ty.prod (Ty.slice (Ty.int .u8)) (Ty.int .i64))) ch_0_0 x1))), (0, (.sl ch_0_0 (x1).length ch_0_1 (RdS (Ty.prod Ty.bool (Ty.prod (Ty.slice (Ty.int .u8)) (Ty.int .i64))) ch_0_0 x1)))] [Res.cells g12 54 [.one (.bool ((gt x1 y27).1)), .sl A3 ((gt x1 y27).2.1).length cp11 (RdS (Ty.int .u8) A3 ((gt x1 y27).2.1)), .one (.int .i64 ((gt x1 y27).2.2))], Res.row (Ty.int .i64) 3 A1 nn8 cp1 y42] a w → rlp_one.j5 x1 y27 (rlp_one.l1 k x1 q1) y42 y43 = some r → K5 a w := by
              intro m y43 g12 a w S h0
              delta rlp_one.j5 at h0
              refine hK5 a w ?_
              rcases ite_of h0 with ⟨c4, h1⟩ | ⟨c4, h1⟩ <;> clear h0
              · refine c_condT S rfl c4 ?_
                refine c_region ?_
                refine s_assign S rfl rfl ?_; clear S a; intro a S
                refine c_end ?_
                refine wp_ret ?_
                refine x_thenR ?_
                refine x_blockR ?_
                refine x_thenR ?_
                refine x_thenR ?_
                refine x_blockR ?_
                refine x_thenR ?_
                obtain rfl := Option.some.inj h1
                exact b_ret1 (d := (.v (.bool false))) S rfl rfl fun ok => S.retX (Hx := []) hb _ _ (() : Unit) .nil ok
              · refine c_condF S rfl c4 ?_
                refine wp_skip ?_
                refine x_thenN ?_
                refine c_region ?_
                refine s_move S rfl rfl ?_; clear S a; intro a S
                refine s_bin S rfl rfl rfl rfl ?_; clear S a; intro a S
                refine s_fieldAddr S rfl I54_2 T3 (by decide) rfl rfl ?_; clear S a; intro a S
                refine s_load1 S rfl .here T3 (v := (.int .i64 ((gt x1 y27).2.2))) rfl rfl ?_; clear S a; intro a S
                refine s_bin S rfl rfl rfl rfl ?_; clear S a; intro a S
                refine s_assign S rfl rfl ?_; clear S a; intro a S
                refine c_end ?_
                refine wp_seq ?_
                refine wp_seq_k ?_
                intro K6 hK6
                have j6 : ∀ (m : Mem) (y44 : Bool) (a : Act) (w : World), St 101 m b0 [(95, (.v (.bool y44))), (6, (.v (.int .i64 (wr .i64 ((wr .i64 (y27 + 1)) + ((gt x1 y27).2.2)))))), (3, (.v (.slice A1 nn8 cp1))), (22, (.v (.int .i64 y27))), (21, (.v (.int .i64 ((x1).length : Int)))), (20, (.sl ch_0_0 (x1).length ch_0_1 (RdS (Ty.prod Ty.bool (Ty.prod (Ty.slice (Ty.int .u8)) (Ty.int .i64))) ch_0_0 x1))), (0, (.sl ch_0_0 (x1).length ch_0_1 (RdS (Ty.prod Ty.bool (Ty.prod (Ty.slice (Ty.int .u8)) (Ty.int .i64))) ch_0_0 x1)))] [Res.row (Ty.int .i64) 3 A1 nn8 cp1 y42] a w → rlp_one.j6 x1 y27 (rlp_one.l1 k x1 q1) y42 y44 = some r → K6 a w := by
                  intro m y44 a w S h0
                  delta rlp_one.j6 at h0
                  refine hK6 a w ?_
                  rcases ite_of h0 with ⟨c5, h1⟩ | ⟨c5, h1⟩ <;> clear h0
                  · refine c_condT S rfl c5 ?_
                    refine c_region ?_
                    refine s_assign S rfl rfl ?_; clear S a; intro a S
                    refine c_end ?_
                    refine wp_ret ?_
                    refine x_thenR ?_
                    refine x_blockR ?_
                    refine x_thenR ?_
                    refine x_thenR ?_
                    refine x_blockR ?_
                    refine x_thenR ?_
                    obtain rfl := Option.some.inj h1
                    exact b_ret1 (d := (.v (.bool false))) S rfl rfl fun ok => S.retX (Hx := []) hb _ _ (() : Unit) .nil ok
                  · refine c_condF S rfl c5 ?_
                    refine wp_skip ?_
                    refine x_thenN ?_
                    refine c_region' ?_
                    refine s_move S rfl rfl ?_; clear S a; intro a S
                    refine s_move S rfl rfl ?_; clear S a; intro a S
                    refine s_bldSl S (ty' := (Ty.int .i64)) (ds := [(0, (.v (.int .i64 (wr .i64 ((wr .i64 (y27 + 1)) + ((gt x1 y27).2.2))))))]) (z := 0) (c0 := ()) (ys := [wr .i64 ((wr .i64 (y27 + 1)) + ((gt x1 y27).2.2))]) (cs := [()]) rfl Tryd.underlying88 J3 Z3 rfl ⟨rfl, trivial⟩ rfl rfl rfl rfl rfl rfl ?_; clear S a w; intro g14 a w S
                    obtain ⟨c6, h2⟩ := chk_of h1; clear h1
                    refine s_app S (k2 := 1) (ys := [wr .i64 ((wr .i64 (y27 + 1)) + ((gt x1 y27).2.2))]) rfl (fun _ _ => (.there .here)) rfl rfl (S.holds _ (Pull.mem .here).1).1 (Res.row.src (S.holds _ (Pull.mem .here).1)) Tryd.underlying88 J3 c6 rfl ?_; clear S a w; intro A4 cp12 a w S
                    refine s_assign S rfl rfl ?_; clear S a; intro a S
                    refine c_end' ?_
                    refine x_blockN ?_
                    refine x_thenN ?_
                    exact j3 _ A4 (nn8 + 1) cp12 (y42 ++ [wr .i64 ((wr .i64 (y27 + 1)) + ((gt x1 y27).2.2))]) a w (S.sub ⟨rfl, rfl, rfl, rfl, rfl, trivial⟩ (.cons (.there .here) .nil)) h2
                refine c_region' ?_
                refine s_move S rfl rfl ?_; clear S a; intro a S
                refine s_lenO S rfl (.there .here) Tryd.underlying88 rfl ?_; clear S a; intro a S
                refine s_bin S rfl rfl rfl rfl ?_; clear S a; intro a S
                refine s_move S rfl rfl ?_; clear S a; intro a S
                rcases ite_of h1 with ⟨c7, h2⟩ | ⟨c7, h2⟩ <;> clear h1
                · refine s_gT S (b := (decide (0 < ((y42).length : Int)))) rfl rfl c7 ?_
                  refine s_move S rfl rfl ?_; clear S a; intro a S
                  refine s_gT S (b := (decide (0 < ((y42).length : Int)))) rfl rfl c7 ?_
                  refine s_move S rfl rfl ?_; clear S a; intro a S
                  refine s_gT S (b := (decide (0 < ((y42).length : Int)))) rfl rfl c7 ?_
                  refine s_move S rfl rfl ?_; clear S a; intro a S
                  refine s_gT S (b := (decide (0 < ((y42).length : Int)))) rfl rfl c7 ?_
                  refine s_lenO S rfl (.there .here) Tryd.underlying88 rfl ?_; clear S a; intro a S
                  refine s_gT S (b := (decide (0 < ((y42).length : Int)))) rfl rfl c7 ?_
                  refine s_bin S rfl rfl rfl rfl ?_; clear S a; intro a S
                  refine s_gT S (b := (decide (0 < ((y42).length : Int)))) rfl rfl c7 ?_
                  obtain ⟨c8, h3⟩ := chk_of h2; clear h2
                  refine s_iaddrO S (ty' := (Ty.int .i64)) rfl (.there .here) rfl Tryd.underlying88 T3 c8.1 c8.2 rfl ?_; clear S a; intro g15 a hA1 S
                  refine s_gT S (b := (decide (0 < ((y42).length : Int)))) rfl rfl c7 ?_
                  refine s_ldR1 S (ty' := (Ty.int .i64)) (i := (wr .i64 (((y42).length : Int) - 1))) (off := 0) (v := (.int .i64 (rd y42 (wr .i64 (((y42).length : Int) - 1))))) rfl hA1 (.there .here) T3 c8.1 c8.2 rfl (fun _ => rfl) rfl ?_; clear S a; intro a S
                  refine s_gT S (b := (decide (0 < ((y42).length : Int)))) rfl rfl c7 ?_
                  refine s_bin S rfl rfl rfl rfl ?_; clear S a; intro a S
                  refine s_pick S (b := true) (hc_of rfl c7) rfl rfl ?_; clear S a; intro a S
                  refine c_end' ?_
                  refine x_thenN ?_
                  exact j6 _ (decide ((rd y42 (wr .i64 (((y42).length : Int) - 1))) < (wr .i64 ((wr .i64 (y27 + 1)) + ((gt x1 y27).2.2))))) a w (S.sub ⟨rfl, rfl, rfl, rfl, rfl, rfl, rfl, trivial⟩ (.cons (.there .here) .nil)) h3
                · refine s_gF S (b := (decide (0 < ((y42).length : Int)))) rfl rfl c7 rfl ?_; clear S a; intro a S
                  refine s_gF S (b := (decide (0 < ((y42).length : Int)))) rfl rfl c7 rfl ?_; clear S a; intro a S
                  refine s_gF S (b := (decide (0 < ((y42).length : Int)))) rfl rfl c7 rfl ?_; clear S a; intro a S
                  refine s_gF S (b := (decide (0 < ((y42).length : Int)))) rfl rfl c7 rfl ?_; clear S a; intro a S
                  refine s_gF S (b := (decide (0 < ((y42).length : Int)))) rfl rfl c7 rfl ?_; clear S a; intro a S
                  refine s_gF S (b := (decide (0 < ((y42).length : Int)))) rfl rfl c7 rfl ?_; clear S a; intro a S
                  refine s_gF S (b := (decide (0 < ((y42).length : Int)))) rfl rfl c7 rfl ?_; clear S a; intro a S
                  refine s_gF S (b := (decide (0 < ((y42).length : Int)))) rfl rfl c7 rfl ?_; clear S a; intro a S
                  refine s_pick S (b := false) (hc_of rfl c7) rfl rfl ?_; clear S a; intro a S
                  refine c_end' ?_
                  refine x_thenN ?_
                  exact j6 _ false a w (S.sub ⟨rfl, rfl, rfl, rfl, rfl, rfl, rfl, trivial⟩ (.cons (.there .here) .nil)) h2
            refine c_region' ?_
            refine s_fieldAddr S rfl I54_0 T4 (by decide) rfl rfl ?_; clear S a; intro a S
            refine s_load1 S rfl .here T4 (v := (.bool ((gt x1 y27).1))) rfl rfl ?_; clear S a; intro a S
            refine s_not S rfl rfl ?_; clear S a; intro a S
            refine s_move S rfl rfl ?_; clear S a; intro a S
            rcases ite_of h0 with ⟨c9, h1⟩ | ⟨c9, h1⟩ <;> clear h0
            · refine s_gT S (b := (!((gt x1 y27).1))) rfl rfl c9 ?_
              refine s_fieldAddr S rfl I54_2 T3 (by decide) rfl rfl ?_; clear S a; intro a S
              refine s_gT S (b := (!((gt x1 y27).1))) rfl rfl c9 ?_
              refine s_load1 S rfl .here T3 (v := (.int .i64 ((gt x1 y27).2.2))) rfl rfl ?_; clear S a; intro a S
              refine s_gT S (b := (!((gt x1 y27).1))) rfl rfl c9 ?_
              refine s_bin S rfl rfl rfl rfl ?_; clear S a; intro a S
              refine s_pick S (b := true) (hc_of rfl c9) rfl rfl ?_; clear S a; intro a S
              refine s_move S rfl rfl ?_; clear S a; intro a S
              rcases ite_of h1 with ⟨c10, h2⟩ | ⟨c10, h2⟩ <;> clear h1
              · refine s_gF S (b := (((gt x1 y27).2.2) != 0)) rfl rfl c10 rfl ?_; clear S a; intro a S
                refine s_gF S (b := (((gt x1 y27).2.2) != 0)) rfl rfl c10 rfl ?_; clear S a; intro a S
                refine s_gF S (b := (((gt x1 y27).2.2) != 0)) rfl rfl c10 rfl ?_; clear S a; intro a S
                refine s_gU S rfl rfl rfl ?_; clear S a; intro a S
                refine s_gU S rfl rfl rfl ?_; clear S a; intro a S
                refine s_gU S rfl rfl rfl ?_; clear S a; intro a S
                refine s_gU S rfl rfl rfl ?_; clear S a; intro a S
                refine s_gF S (b := (((gt x1 y27).2.2) != 0)) rfl rfl c10 rfl ?_; clear S a; intro a S
                refine s_pick S (b := true) (hc_of rfl c10) rfl rfl ?_; clear S a; intro a S
                refine s_move S rfl rfl ?_; clear S a; intro a S
                refine s_gF S (b := true) rfl rfl rfl rfl ?_; clear S a; intro a S
                refine s_gF S (b := true) rfl rfl rfl rfl ?_; clear S a; intro a S
                refine s_gF S (b := true) rfl rfl rfl rfl ?_; clear S a; intro a S
                refine s_pick S (b := true) (hc_of rfl rfl) rfl rfl ?_; clear S a; intro a S
                refine s_move S rfl rfl ?_; clear S a; intro a S
                refine s_gF S (b := true) rfl rfl rfl rfl ?_; clear S a; intro a S
                refine s_gF S (b := true) rfl rfl rfl rfl ?_; clear S a; intro a S
                refine s_gF S (b := true) rfl rfl rfl rfl ?_; clear S a; intro a S
                refine s_gF S (b := true) rfl rfl rfl rfl ?_; clear S a; intro a S
                refine s_gF S (b := true) rfl rfl rfl rfl ?_; clear S a; intro a S
                refine s_gF S (b := true) rfl rfl rfl rfl ?_; clear S a; intro a S
                refine s_gF S (b := true) rfl rfl rfl rfl ?_; clear S a; intro a S
                refine s_gF S (b := true) rfl rfl rfl rfl ?_; clear S a; intro a S
                refine s_pick S (b := true) (hc_of rfl rfl) rfl rfl ?_; clear S a; intro a S
                refine c_end' ?_
                refine x_thenN ?_
                exact j5 _ true g11 a w (S.sub ⟨rfl, rfl, rfl, rfl, rfl, rfl, rfl, rfl, trivial⟩ (.cons .here (.cons .here .nil))) h2
              · refine s_gT S (b := (((gt x1 y27).2.2) != 0)) rfl rfl c10 ?_
                refine s_fieldAddr S rfl I54_0 T4 (by decide) rfl rfl ?_; clear S a; intro a S
                refine s_gT S (b := (((gt x1 y27).2.2) != 0)) rfl rfl c10 ?_
                refine s_load1 S rfl .here T4 (v := (.bool ((gt x1 y27).1))) rfl rfl ?_; clear S a; intro a S
                refine s_gT S (b := (((gt x1 y27).2.2) != 0)) rfl rfl c10 ?_
                refine s_move S rfl rfl ?_; clear S a; intro a S
                rcases ite_of h2 with ⟨c11, h3⟩ | ⟨c11, h3⟩ <;> clear h2
                · refine s_gT S (b := ((gt x1 y27).1)) rfl rfl c11 ?_
                  refine s_fieldAddr S rfl I54_1 T37 (by decide) rfl rfl ?_; clear S a; intro a S
                  refine s_gT S (b := ((gt x1 y27).1)) rfl rfl c11 ?_
                  refine s_loadSl S rfl .here T37 (A := A3) (len := ((gt x1 y27).2.1).length) (cap := cp11) rfl rfl ?_; clear S a; intro a S
                  refine s_gT S (b := ((gt x1 y27).1)) rfl rfl c11 ?_
                  refine s_lenS S rfl Tryd.underlying37 rfl ?_; clear S a; intro a S
                  refine s_gT S (b := ((gt x1 y27).1)) rfl rfl c11 ?_
                  refine s_bin S rfl rfl rfl rfl ?_; clear S a; intro a S
                  refine s_gT S (b := (((gt x1 y27).2.2) != 0)) rfl rfl c10 ?_
                  refine s_pick S (b := true) (hc_of rfl c11) rfl rfl ?_; clear S a; intro a S
                  refine s_pick S (b := false) (hc_of rfl c10) rfl rfl ?_; clear S a; intro a S
                  refine s_move S rfl rfl ?_; clear S a; intro a S
                  rcases ite_of h3 with ⟨c12, h4⟩ | ⟨c12, h4⟩ <;> clear h3
                  · refine s_gF S (b := (decide (0 < (((gt x1 y27).2.1).length : Int)))) rfl rfl c12 rfl ?_; clear S a; intro a S
                    refine s_gF S (b := (decide (0 < (((gt x1 y27).2.1).length : Int)))) rfl rfl c12 rfl ?_; clear S a; intro a S
                    refine s_gF S (b := (decide (0 < (((gt x1 y27).2.1).length : Int)))) rfl rfl c12 rfl ?_; clear S a; intro a S
                    refine s_pick S (b := true) (hc_of rfl c12) rfl rfl ?_; clear S a; intro a S
                    refine s_move S rfl rfl ?_; clear S a; intro a S
                    refine s_gF S (b := true) rfl rfl rfl rfl ?_; clear S a; intro a S
                    refine s_gF S (b := true) rfl rfl rfl rfl ?_; clear S a; intro a S
                    refine s_gF S (b := true) rfl rfl rfl rfl ?_; clear S a; intro a S
                    refine s_gF S (b := true) rfl rfl rfl rfl ?_; clear S a; intro a S
                    refine s_gF S (b := true) rfl rfl rfl rfl ?_; clear S a; intro a S
                    refine s_gF S (b := true) rfl rfl rfl rfl ?_; clear S a; intro a S
                    refine s_gF S (b := true) rfl rfl rfl rfl ?_; clear S a; intro a S
                    refine s_gF S (b := true) rfl rfl rfl rfl ?_; clear S a; intro a S
                    refine s_pick S (b := true) (hc_of rfl rfl) rfl rfl ?_; clear S a; intro a S
                    refine c_end' ?_
                    refine x_thenN ?_
                    exact j5 _ true g11 a w (S.sub ⟨rfl, rfl, rfl, rfl, rfl, rfl, rfl, rfl, trivial⟩ (.cons .here (.cons .here .nil))) h4
                  · refine s_gT S (b := (decide (0 < (((gt x1 y27).2.1).length : Int)))) rfl rfl c12 ?_
                    refine s_fieldAddr S rfl I54_2 T3 (by decide) rfl rfl ?_; clear S a; intro a S
                    refine s_gT S (b := (decide (0 < (((gt x1 y27).2.1).length : Int)))) rfl rfl c12 ?_
                    refine s_load1 S rfl .here T3 (v := (.int .i64 ((gt x1 y27).2.2))) rfl rfl ?_; clear S a; intro a S
                    refine s_gT S (b := (decide (0 < (((gt x1 y27).2.1).length : Int)))) rfl rfl c12 ?_
                    refine s_bin S rfl rfl rfl rfl ?_; clear S a; intro a S
                    refine s_pick S (b := false) (hc_of rfl c12) rfl rfl ?_; clear S a; intro a S
                    refine s_move S rfl rfl ?_; clear S a; intro a S
                    rcases ite_of h4 with ⟨c13, h5⟩ | ⟨c13, h5⟩ <;> clear h4
                    · refine s_gF S (b := (decide (((gt x1 y27).2.2) < 0))) rfl rfl c13 rfl ?_; clear S a; intro a S
                      refine s_gF S (b := (decide (((gt x1 y27).2.2) < 0))) rfl rfl c13 rfl ?_; clear S a; intro a S
                      refine s_gF S (b := (decide (((gt x1 y27).2.2) < 0))) rfl rfl c13 rfl ?_; clear S a; intro a S
                      refine s_gF S (b := (decide (((gt x1 y27).2.2) < 0))) rfl rfl c13 rfl ?_; clear S a; intro a S
                      refine s_gF S (b := (decide (((gt x1 y27).2.2) < 0))) rfl rfl c13 rfl ?_; clear S a; intro a S
                      refine s_gF S (b := (decide (((gt x1 y27).2.2) < 0))) rfl rfl c13 rfl ?_; clear S a; intro a S
                      refine s_gF S (b := (decide (((gt x1 y27).2.2) < 0))) rfl rfl c13 rfl ?_; clear S a; intro a S
                      refine s_gF S (b := (decide (((gt x1 y27).2.2) < 0))) rfl rfl c13 rfl ?_; clear S a; intro a S
                      refine s_pick S (b := true) (hc_of rfl c13) rfl rfl ?_; clear S a; intro a S
                      refine c_end' ?_
                      refine x_thenN ?_
                      exact j5 _ true g11 a w (S.sub ⟨rfl, rfl, rfl, rfl, rfl, rfl, rfl, rfl, trivial⟩ (.cons .here (.cons .here .nil))) h5
                    · refine s_gT S (b := (decide (((gt x1 y27).2.2) < 0))) rfl rfl c13 ?_
                      refine s_fieldAddr S rfl I54_2 T3 (by decide) rfl rfl ?_; clear S a; intro a S
                      refine s_gT S (b := (decide (((gt x1 y27).2.2) < 0))) rfl rfl c13 ?_
                      refine s_load1 S rfl .here T3 (v := (.int .i64 ((gt x1 y27).2.2))) rfl rfl ?_; clear S a; intro a S
                      refine s_gT S (b := (decide (((gt x1 y27).2.2) < 0))) rfl rfl c13 ?_
                      refine s_move S rfl rfl ?_; clear S a; intro a S
                      refine s_gT S (b := (decide (((gt x1 y27).2.2) < 0))) rfl rfl c13 ?_
                      refine s_lenS S rfl Tryd.underlying51 rfl ?_; clear S a; intro a S
                      refine s_gT S (b := (decide (((gt x1 y27).2.2) < 0))) rfl rfl c13 ?_
                      refine s_bin S rfl rfl rfl rfl ?_; clear S a; intro a S
                      refine s_gT S (b := (decide (((gt x1 y27).2.2) < 0))) rfl rfl c13 ?_
                      refine s_move S rfl rfl ?_; clear S a; intro a S
                      refine s_gT S (b := (decide (((gt x1 y27).2.2) < 0))) rfl rfl c13 ?_
                      refine s_bin S rfl rfl rfl rfl ?_; clear S a; intro a S
                      refine s_gT S (b := (decide (((gt x1 y27).2.2) < 0))) rfl rfl c13 ?_
                      refine s_bin S rfl rfl rfl rfl ?_; clear S a; intro a S
                      refine s_pick S (b := false) (hc_of rfl c13) rfl rfl ?_; clear S a; intro a S
                      refine c_end' ?_
                      refine x_thenN ?_
                      exact j5 _ (decide ((wr .i64 ((wr .i64 (((x1).length : Int) - 1)) - y27)) < ((gt x1 y27).2.2))) g11 a w (S.sub ⟨rfl, rfl, rfl, rfl, rfl, rfl, rfl, rfl, trivial⟩ (.cons .here (.cons .here .nil))) h5
                · refine s_gF S (b := ((gt x1 y27).1)) rfl rfl c11 rfl ?_; clear S a; intro a S
                  refine s_gF S (b := ((gt x1 y27).1)) rfl rfl c11 rfl ?_; clear S a; intro a S
                  refine s_gF S (b := ((gt x1 y27).1)) rfl rfl c11 rfl ?_; clear S a; intro a S
                  refine s_gF S (b := ((gt x1 y27).1)) rfl rfl c11 rfl ?_; clear S a; intro a S
                  refine s_gT S (b := (((gt x1 y27).2.2) != 0)) rfl rfl c10 ?_
                  refine s_pick S (b := false) (hc_of rfl c11) rfl rfl ?_; clear S a; intro a S
                  refine s_pick S (b := false) (hc_of rfl c10) rfl rfl ?_; clear S a; intro a S
                  refine s_move S rfl rfl ?_; clear S a; intro a S
                  refine s_gT S (b := false) rfl rfl rfl ?_
                  refine s_fieldAddr S rfl I54_2 T3 (by decide) rfl rfl ?_; clear S a; intro a S
                  refine s_gT S (b := false) rfl rfl rfl ?_
                  refine s_load1 S rfl .here T3 (v := (.int .i64 ((gt x1 y27).2.2))) rfl rfl ?_; clear S a; intro a S
                  refine s_gT S (b := false) rfl rfl rfl ?_
                  refine s_bin S rfl rfl rfl rfl ?_; clear S a; intro a S
                  refine s_pick S (b := false) (hc_of rfl rfl) rfl rfl ?_; clear S a; intro a S
                  refine s_move S rfl rfl ?_; clear S a; intro a S
                  rcases ite_of h3 with ⟨c14, h4⟩ | ⟨c14, h4⟩ <;> clear h3
                  · refine s_gF S (b := (decide (((gt x1 y27).2.2) < 0))) rfl rfl c14 rfl ?_; clear S a; intro a S
                    refine s_gF S (b := (decide (((gt x1 y27).2.2) < 0))) rfl rfl c14 rfl ?_; clear S a; intro a S
                    refine s_gF S (b := (decide (((gt x1 y27).2.2) < 0))) rfl rfl c14 rfl ?_; clear S a; intro a S
                    refine s_gF S (b := (decide (((gt x1 y27).2.2) < 0))) rfl rfl c14 rfl ?_; clear S a; intro a S
                    refine s_gF S (b := (decide (((gt x1 y27).2.2) < 0))) rfl rfl c14 rfl ?_; clear S a; intro a S
                    refine s_gF S (b := (decide (((gt x1 y27).2.2) < 0))) rfl rfl c14 rfl ?_; clear S a; intro a S
                    refine s_gF S (b := (decide (((gt x1 y27).2.2) < 0))) rfl rfl c14 rfl ?_; clear S a; intro a S
                    refine s_gF S (b := (decide (((gt x1 y27).2.2) < 0))) rfl rfl c14 rfl ?_; clear S a; intro a S
                    refine s_pick S (b := true) (hc_of rfl c14) rfl rfl ?_; clear S a; intro a S
                    refine c_end' ?_
                    refine x_thenN ?_
                    exact j5 _ true g11 a w (S.sub ⟨rfl, rfl, rfl, rfl, rfl, rfl, rfl, rfl, trivial⟩ (.cons .here (.cons .here .nil))) h4
                  · refine s_gT S (b := (decide (((gt x1 y27).2.2) < 0))) rfl rfl c14 ?_
                    refine s_fieldAddr S rfl I54_2 T3 (by decide) rfl rfl ?_; clear S a; intro a S
                    refine s_gT S (b := (decide (((gt x1 y27).2.2) < 0))) rfl rfl c14 ?_
                    refine s_load1 S rfl .here T3 (v := (.int .i64 ((gt x1 y27).2.2))) rfl rfl ?_; clear S a; intro a S
                    refine s_gT S (b := (decide (((gt x1 y27).2.2) < 0))) rfl rfl c14 ?_
                    refine s_move S rfl rfl ?_; clear S a; intro a S
                    refine s_gT S (b := (decide (((gt x1 y27).2.2) < 0))) rfl rfl c14 ?_
                    refine s_lenS S rfl Tryd.underlying51 rfl ?_; clear S a; intro a S
                    refine s_gT S (b := (decide (((gt x1 y27).2.2) < 0))) rfl rfl c14 ?_
                    refine s_bin S rfl rfl rfl rfl ?_; clear S a; intro a S
                    refine s_gT S (b := (decide (((gt x1 y27).2.2) < 0))) rfl rfl c14 ?_
                    refine s_move S rfl rfl ?_; clear S a; intro a S
                    refine s_gT S (b := (decide (((gt x1 y27).2.2) < 0))) rfl rfl c14 ?_
                    refine s_bin S rfl rfl rfl rfl ?_; clear S a; intro a S
                    refine s_gT S (b := (decide (((gt x1 y27).2.2) < 0))) rfl rfl c14 ?_
                    refine s_bin S rfl rfl rfl rfl ?_; clear S a; intro a S
                    refine s_pick S (b := false) (hc_of rfl c14) rfl rfl ?_; clear S a; intro a S
                    refine c_end' ?_
                    refine x_thenN ?_
                    exact j5 _ (decide ((wr .i64 ((wr .i64 (((x1).length : Int) - 1)) - y27)) < ((gt x1 y27).2.2))) g11 a w (S.sub ⟨rfl, rfl, rfl, rfl, rfl, rfl, rfl, rfl, trivial⟩ (.cons .here (.cons .here .nil))) h4
            · refine s_gF S (b := (!((gt x1 y27).1))) rfl rfl c9 rfl ?_; clear S a; intro a S
              refine s_gF S (b := (!((gt x1 y27).1))) rfl rfl c9 rfl ?_; clear S a; intro a S
              refine s_gF S (b := (!((gt x1 y27).1))) rfl rfl c9 rfl ?_; clear S a; intro a S
              refine s_pick S (b := false) (hc_of rfl c9) rfl rfl ?_; clear S a; intro a S
              refine s_move S rfl rfl ?_; clear S a; intro a S
              refine s_gT S (b := false) rfl rfl rfl ?_
              refine s_fieldAddr S rfl I54_0 T4 (by decide) rfl rfl ?_; clear S a; intro a S
              refine s_gT S (b := false) rfl rfl rfl ?_
              refine s_load1 S rfl .here T4 (v := (.bool ((gt x1 y27).1))) rfl rfl ?_; clear S a; intro a S
              refine s_gT S (b := false) rfl rfl rfl ?_
              refine s_move S rfl rfl ?_; clear S a; intro a S
              rcases ite_of h1 with ⟨c15, h2⟩ | ⟨c15, h2⟩ <;> clear h1
              · refine s_gT S (b := ((gt x1 y27).1)) rfl rfl c15 ?_
                refine s_fieldAddr S rfl I54_1 T37 (by decide) rfl rfl ?_; clear S a; intro a S
                refine s_gT S (b := ((gt x1 y27).1)) rfl rfl c15 ?_
                refine s_loadSl S rfl .here T37 (A := A3) (len := ((gt x1 y27).2.1).length) (cap := cp11) rfl rfl ?_; clear S a; intro a S
                refine s_gT S (b := ((gt x1 y27).1)) rfl rfl c15 ?_
                refine s_lenS S rfl Tryd.underlying37 rfl ?_; clear S a; intro a S
                refine s_gT S (b := ((gt x1 y27).1)) rfl rfl c15 ?_
                refine s_bin S rfl rfl rfl rfl ?_; clear S a; intro a S
                refine s_gT S (b := false) rfl rfl rfl ?_
                refine s_pick S (b := true) (hc_of rfl c15) rfl rfl ?_; clear S a; intro a S
                refine s_pick S (b := false) (hc_of rfl rfl) rfl rfl ?_; clear S a; intro a S
                refine s_move S rfl rfl ?_; clear S a; intro a S
                rcases ite_of h2 with ⟨c16, h3⟩ | ⟨c16, h3⟩ <;> clear h2
                · refine s_gF S (b := (decide (0 < (((gt x1 y27).2.1).length : Int)))) rfl rfl c16 rfl ?_; clear S a; intro a S
                  refine s_gF S (b := (decide (0 < (((gt x1 y27).2.1).length : Int)))) rfl rfl c16 rfl ?_; clear S a; intro a S
                  refine s_gF S (b := (decide (0 < (((gt x1 y27).2.1).length : Int)))) rfl rfl c16 rfl ?_; clear S a; intro a S
                  refine s_pick S (b := true) (hc_of rfl c16) rfl rfl ?_; clear S a; intro a S
                  refine s_move S rfl rfl ?_; clear S a; intro a S
                  refine s_gF S (b := true) rfl rfl rfl rfl ?_; clear S a; intro a S
                  refine s_gF S (b := true) rfl rfl rfl rfl ?_; clear S a; intro a S
                  refine s_gF S (b := true) rfl rfl rfl rfl ?_; clear S a; intro a S
                  refine s_gF S (b := true) rfl rfl rfl rfl ?_; clear S a; intro a S
                  refine s_gF S (b := true) rfl rfl rfl rfl ?_; clear S a; intro a S
                  refine s_gF S (b := true) rfl rfl rfl rfl ?_; clear S a; intro a S
                  refine s_gF S (b := true) rfl rfl rfl rfl ?_; clear S a; intro a S
                  refine s_gF S (b := true) rfl rfl rfl rfl ?_; clear S a; intro a S
                  refine s_pick S (b := true) (hc_of rfl rfl) rfl rfl ?_; clear S a; intro a S
                  refine c_end' ?_
                  refine x_thenN ?_
                  exact j5 _ true g11 a w (S.sub ⟨rfl, rfl, rfl, rfl, rfl, rfl, rfl, rfl, trivial⟩ (.cons .here (.cons .here .nil))) h3
                · refine s_gT S (b := (decide (0 < (((gt x1 y27).2.1).length : Int)))) rfl rfl c16 ?_
                  refine s_fieldAddr S rfl I54_2 T3 (by decide) rfl rfl ?_; clear S a; intro a S
                  refine s_gT S (b := (decide (0 < (((gt x1 y27).2.1).length : Int)))) rfl rfl c16 ?_
                  refine s_load1 S rfl .here T3 (v := (.int .i64 ((gt x1 y27).2.2))) rfl rfl ?_; clear S a; intro a S
                  refine s_gT S (b := (decide (0 < (((gt x1 y27).2.1).length : Int)))) rfl rfl c16 ?_
                  refine s_bin S rfl rfl rfl rfl ?_; clear S a; intro a S
                  refine s_pick S (b := false) (hc_of rfl c16) rfl rfl ?_; clear S a; intro a S
                  refine s_move S rfl rfl ?_; clear S a; intro a S
                  rcases ite_of h3 with ⟨c17, h4⟩ | ⟨c17, h4⟩ <;> clear h3
                  · refine s_gF S (b := (decide (((gt x1 y27).2.2) < 0))) rfl rfl c17 rfl ?_; clear S a; intro a S
                    refine s_gF S (b := (decide (((gt x1 y27).2.2) < 0))) rfl rfl c17 rfl ?_; clear S a; intro a S
                    refine s_gF S (b := (decide (((gt x1 y27).2.2) < 0))) rfl rfl c17 rfl ?_; clear S a; intro a S
                    refine s_gF S (b := (decide (((gt x1 y27).2.2) < 0))) rfl rfl c17 rfl ?_; clear S a; intro a S
                    refine s_gF S (b := (decide (((gt x1 y27).2.2) < 0))) rfl rfl c17 rfl ?_; clear S a; intro a S
                    refine s_gF S (b := (decide (((gt x1 y27).2.2) < 0))) rfl rfl c17 rfl ?_; clear S a; intro a S
                    refine s_gF S (b := (decide (((gt x1 y27).2.2) < 0))) rfl rfl c17 rfl ?_; clear S a; intro a S
                    refine s_gF S (b := (decide (((gt x1 y27).2.2) < 0))) rfl rfl c17 rfl ?_; clear S a; intro a S
                    refine s_pick S (b := true) (hc_of rfl c17) rfl rfl ?_; clear S a; intro a S
                    refine c_end' ?_
                    refine x_thenN ?_
                    exact j5 _ true g11 a w (S.sub ⟨rfl, rfl, rfl, rfl, rfl, rfl, rfl, rfl, trivial⟩ (.cons .here (.cons .here .nil))) h4
                  · refine s_gT S (b := (decide (((gt x1 y27).2.2) < 0))) rfl rfl c17 ?_
                    refine s_fieldAddr S rfl I54_2 T3 (by decide) rfl rfl ?_; clear S a; intro a S
                    refine s_gT S (b := (decide (((gt x1 y27).2.2) < 0))) rfl rfl c17 ?_
                    refine s_load1 S rfl .here T3 (v := (.int .i64 ((gt x1 y27).2.2))) rfl rfl ?_; clear S a; intro a S
                    refine s_gT S (b := (decide (((gt x1 y27).2.2) < 0))) rfl rfl c17 ?_
                    refine s_move S rfl rfl ?_; clear S a; intro a S
                    refine s_gT S (b := (decide (((gt x1 y27).2.2) < 0))) rfl rfl c17 ?_
                    refine s_lenS S rfl Tryd.underlying51 rfl ?_; clear S a; intro a S
                    refine s_gT S (b := (decide (((gt x1 y27).2.2) < 0))) rfl rfl c17 ?_
                    refine s_bin S rfl rfl rfl rfl ?_; clear S a; intro a S
                    refine s_gT S (b := (decide (((gt x1 y27).2.2) < 0))) rfl rfl c17 ?_
                    refine s_move S rfl rfl ?_; clear S a; intro a S
                    refine s_gT S (b := (decide (((gt x1 y27).2.2) < 0))) rfl rfl c17 ?_
                    refine s_bin S rfl rfl rfl rfl ?_; clear S a; intro a S
                    refine s_gT S (b := (decide (((gt x1 y27).2.2) < 0))) rfl rfl c17 ?_
                    refine s_bin S rfl rfl rfl rfl ?_; clear S a; intro a S
                    refine s_pick S (b := false) (hc_of rfl c17) rfl rfl ?_; clear S a; intro a S
                    refine c_end' ?_
                    refine x_thenN ?_
                    exact j5 _ (decide ((wr .i64 ((wr .i64 (((x1).length : Int) - 1)) - y27)) < ((gt x1 y27).2.2))) g11 a w (S.sub ⟨rfl, rfl, rfl, rfl, rfl, rfl, rfl, rfl, trivial⟩ (.cons .here (.cons .here .nil))) h4
              · refine s_gF S (b := ((gt x1 y27).1)) rfl rfl c15 rfl ?_; clear S a; intro a S
                refine s_gF S (b := ((gt x1 y27).1)) rfl rfl c15 rfl ?_; clear S a; intro a S
                refine s_gF S (b := ((gt x1 y27).1)) rfl rfl c15 rfl ?_; clear S a; intro a S
                refine s_gF S (b := ((gt x1 y27).1)) rfl rfl c15 rfl ?_; clear S a; intro a S
                refine s_gT S (b := false) rfl rfl rfl ?_
                refine s_pick S (b := false) (hc_of rfl c15) rfl rfl ?_; clear S a; intro a S
                refine s_pick S (b := false) (hc_of rfl rfl) rfl rfl ?_; clear S a; intro a S
                refine s_move S rfl rfl ?_; clear S a; intro a S
                refine s_gT S (b := false) rfl rfl rfl ?_
                refine s_fieldAddr S rfl I54_2 T3 (by decide) rfl rfl ?_; clear S a; intro a S
                refine s_gT S (b := false) rfl rfl rfl ?_
                refine s_load1 S rfl .here T3 (v := (.int .i64 ((gt x1 y27).2.2))) rfl rfl ?_; clear S a; intro a S
                refine s_gT S (b := false) rfl rfl rfl ?_
                refine s_bin S rfl rfl rfl rfl ?_; clear S a; intro a S
                refine s_pick S (b := false) (hc_of rfl rfl) rfl rfl ?_; clear S a; intro a S
                refine s_move S rfl rfl ?_; clear S a; intro a S
                rcases ite_of h2 with ⟨c18, h3⟩ | ⟨c18, h3⟩ <;> clear h2
                · refine s_gF S (b := (decide (((gt x1 y27).2.2) < 0))) rfl rfl c18 rfl ?_; clear S a; intro a S
                  refine s_gF S (b := (decide (((gt x1 y27).2.2) < 0))) rfl rfl c18 rfl ?_; clear S a; intro a S
                  refine s_gF S (b := (decide (((gt x1 y27).2.2) < 0))) rfl rfl c18 rfl ?_; clear S a; intro a S
                  refine s_gF S (b := (decide (((gt x1 y27).2.2) < 0))) rfl rfl c18 rfl ?_; clear S a; intro a S
                  refine s_gF S (b := (decide (((gt x1 y27).2.2) < 0))) rfl rfl c18 rfl ?_; clear S a; intro a S
                  refine s_gF S (b := (decide (((gt x1 y27).2.2) < 0))) rfl rfl c18 rfl ?_; clear S a; intro a S
                  refine s_gF S (b := (decide (((gt x1 y27).2.2) < 0))) rfl rfl c18 rfl ?_; clear S a; intro a S
                  refine s_gF S (b := (decide (((gt x1 y27).2.2) < 0))) rfl rfl c18 rfl ?_; clear S a; intro a S
                  refine s_pick S (b := true) (hc_of rfl c18) rfl rfl ?_; clear S a; intro a S
                  refine c_end' ?_
                  refine x_thenN ?_
                  exact j5 _ true g11 a w (S.sub ⟨rfl, rfl, rfl, rfl, rfl, rfl, rfl, rfl, trivial⟩ (.cons .here (.cons .here .nil))) h3
                · refine s_gT S (b := (decide (((gt x1 y27).2.2) < 0))) rfl rfl c18 ?_
                  refine s_fieldAddr S rfl I54_2 T3 (by decide) rfl rfl ?_; clear S a; intro a S
                  refine s_gT S (b := (decide (((gt x1 y27).2.2) < 0))) rfl rfl c18 ?_
                  refine s_load1 S rfl .here T3 (v := (.int .i64 ((gt x1 y27).2.2))) rfl rfl ?_; clear S a; intro a S
                  refine s_gT S (b := (decide (((gt x1 y27).2.2) < 0))) rfl rfl c18 ?_
                  refine s_move S rfl rfl ?_; clear S a; intro a S
                  refine s_gT S (b := (decide (((gt x1 y27).2.2) < 0))) rfl rfl c18 ?_
                  refine s_lenS S rfl Tryd.underlying51 rfl ?_; clear S a; intro a S
                  refine s_gT S (b := (decide (((gt x1 y27).2.2) < 0))) rfl rfl c18 ?_
                  refine s_bin S rfl rfl rfl rfl ?_; clear S a; intro a S
                  refine s_gT S (b := (decide (((gt x1 y27).2.2) < 0))) rfl rfl c18 ?_
                  refine s_move S rfl rfl ?_; clear S a; intro a S
                  refine s_gT S (b := (decide (((gt x1 y27).2.2) < 0))) rfl rfl c18 ?_
                  refine s_bin S rfl rfl rfl rfl ?_; clear S a; intro a S
                  refine s_gT S (b := (decide (((gt x1 y27).2.2) < 0))) rfl rfl c18 ?_
                  refine s_bin S rfl rfl rfl rfl ?_; clear S a; intro a S
                  refine s_pick S (b := false) (hc_of rfl c18) rfl rfl ?_; clear S a; intro a S
                  refine c_end' ?_
                  refine x_thenN ?_
                  exact j5 _ (decide ((wr .i64 ((wr .i64 (((x1).length : Int) - 1)) - y27)) < ((gt x1 y27).2.2))) g11 a w (S.sub ⟨rfl, rfl, rfl, rfl, rfl, rfl, rfl, rfl, trivial⟩ (.cons .here (.cons .here .nil))) h3
          refine wp_block ?_
          refine c_loop (fun q2 a w => ∃ (m : Mem) (g22 : Nat) (nn10 : Nat) (y48 : List Int) (A5 : Option Addr) (cp15 : Nat), St 101 m b0 [(4, (.v (.int .i64 y27))), (5, (.v (.pointer (some ⟨g22, 0, none⟩)))), (3, (.v (.slice A1 nn10 cp1))), (22, (.v (.int .i64 y27))), (21, (.v (.int .i64 ((x1).length : Int)))), (20, (.sl ch_0_0 (x1).length ch_0_1 (RdS (Ty.prod Ty.bool (Ty.prod (Ty.slice (Ty.int .u8)) (Ty.int .i64))) ch_0_0 x1))), (0, (.sl ch_0_0 (x1).length ch_0_1 (RdS (Ty.prod Ty.bool (Ty.prod (Ty.slice (Ty.int .u8)) (Ty.int .i64))) ch_0_0 x1)))] [Res.cells g22 54 [.one (.bool ((gt x1 y27).1)), .sl A5 ((gt x1 y27).2.1).length cp15 (RdS (Ty.int .u8) A5 ((gt x1 y27).2.1)), .one (.int .i64 ((gt x1 y27).2.2))], Res.row (Ty.int .i64) 3 A1 nn10 cp1 y48] a w ∧ rlp_one.l2 x1 y27 (rlp_one.l1 k x1 q1) q2 y48 = some r) ?_ ?_ (k := k) ⟨_, g1, nn1, y26, ch1.2.1.1, ch1.2.1.2, (S.sub ⟨rfl, rfl, rfl, rfl, rfl, rfl, rfl, trivial⟩ (.cons .here (.cons .here .nil))), h2⟩
          · rintro a w ⟨m, g22, nn10, y48, A5, cp15, S, h0⟩
            exact (nomatch (show (none : Option Bool) = some r from h0))
          · clear S h2
            rintro q2 a w ⟨m, g22, nn10, y48, A5, cp15, S, h0⟩
            replace h0 : rlp_one.b2 x1 y27 (rlp_one.l1 k x1 q1) (rlp_one.l2 x1 y27 (rlp_one.l1 k x1 q1) q2) y48 = some r := h0
            delta rlp_one.b2 at h0
            refine wp_seq ?_
            refine wp_seq_k ?_
            intro K7 hK7
            have j7 : ∀ (m : Mem) (y49 : Bool) (g24 : Nat) (a : Act) (w : World), St 101 m b0 [(39, (.v (.bool y49))), (4, (.v (.int .i64 y27))), (5, (.v (.pointer (some ⟨g24, 0, none⟩)))), (3, (.v (.slice A1 nn10 cp1))), (22, (.v (.int .i64 y27))), (21, (.v (.int .i64 ((x1).length : Int)))), (20, (.sl ch_0_0 (x1).length ch_0_1 (RdS (Ty.prod Ty.bool (Ty.prod (Ty.slice (Ty.int .u8)) (Ty.int .i64))) ch_0_0 x1))), (0, (.sl ch_0_0 (x1).length ch_0_1 (RdS (Ty.prod Ty.bool (Ty.prod (Ty.slice (Ty.int .u8)) (Ty.int .i64))) ch_0_0 x1)))] [Res.cells g24 54 [.one (.bool ((gt x1 y27).1)), .sl A5 ((gt x1 y27).2.1).length cp15 (RdS (Ty.int .u8) A5 ((gt x1 y27).2.1)), .one (.int .i64 ((gt x1 y27).2.2))], Res.row (Ty.int .i64) 3 A1 nn10 cp1 y48] a w → rlp_one.j7 x1 y27 (rlp_one.l1 k x1 q1) y48 (rlp_one.l2 x1 y27 (rlp_one.l1 k x1 q1) q2) y49 = some r → K7 a w := by
              intro m y49 g24 a w S h0
              delta rlp_one.j7 at h0
              refine hK7 a w ?_
              rcases ite_of h0 with ⟨c19, h1⟩ | ⟨c19, h1⟩ <;> clear h0
              · refine c_condT S rfl c19 ?_
                refine wp_skip ?_
                refine x_thenN ?_
                refine wp_block ?_
                refine c_region' ?_
                refine s_move S rfl rfl ?_; clear S a; intro a S
                refine s_move S rfl rfl ?_; clear S a; intro a S
                refine s_lenO S rfl (.there .here) Tryd.underlying88 rfl ?_; clear S a; intro a S
                refine s_bin S rfl rfl rfl rfl ?_; clear S a; intro a S
                obtain ⟨c20, h2⟩ := chk_of h1; clear h1
                refine s_cutO S (j := (wr .i64 (((y48).length : Int) - 1))) rfl (.there .here) Tryd.underlying88 T3 (.inl rfl) rfl c20.1 c20.2 rfl ?_; clear S a; intro a S
                refine s_assign S rfl rfl ?_; clear S a; intro a S
                refine c_end' ?_
                refine x_blockN ?_
                refine x_thenN ?_
                exact ⟨_, g24, (Int.toNat (wr .i64 (((y48).length : Int) - 1))), (y48.take (Int.toNat (wr .i64 (((y48).length : Int) - 1)))), A5, cp15, (S.sub ⟨rfl, rfl, rfl, rfl, rfl, rfl, rfl, trivial⟩ (.cons .here (.cons .here .nil))), h2⟩
              · refine c_condF S rfl c19 ?_
                refine wp_exit ?_
                refine x_thenX ?_
                refine x_thenX ?_
                refine x_blockX ?_
                refine x_thenN ?_
                exact j4 _ g24 nn10 y48 A5 cp15 a w (S.sub ⟨rfl, rfl, rfl, rfl, rfl, rfl, rfl, trivial⟩ (.cons .here (.cons .here .nil))) h1
            refine c_region' ?_
            refine s_move S rfl rfl ?_; clear S a; intro a S
            refine s_lenO S rfl (.there .here) Tryd.underlying88 rfl ?_; clear S a; intro a S
            refine s_bin S rfl rfl rfl rfl ?_; clear S a; intro a S
            refine s_move S rfl rfl ?_; clear S a; intro a S
            rcases ite_of h0 with ⟨c21, h1⟩ | ⟨c21, h1⟩ <;> clear h0
            · refine s_gT S (b := (decide (0 < ((y48).length : Int)))) rfl rfl c21 ?_
              refine s_move S rfl rfl ?_; clear S a; intro a S
              refine s_gT S (b := (decide (0 < ((y48).length : Int)))) rfl rfl c21 ?_
              refine s_move S rfl rfl ?_; clear S a; intro a S
              refine s_gT S (b := (decide (0 < ((y48).length : Int)))) rfl rfl c21 ?_
              refine s_lenO S rfl (.there .here) Tryd.underlying88 rfl ?_; clear S a; intro a S
              refine s_gT S (b := (decide (0 < ((y48).length : Int)))) rfl rfl c21 ?_
              refine s_bin S rfl rfl rfl rfl ?_; clear S a; intro a S
              refine s_gT S (b := (decide (0 < ((y48).length : Int)))) rfl rfl c21 ?_
              obtain ⟨c22, h2⟩ := chk_of h1; clear h1
              refine s_iaddrO S (ty' := (Ty.int .i64)) rfl (.there .here) rfl Tryd.underlying88 T3 c22.1 c22.2 rfl ?_; clear S a; intro g25 a hA2 S
              refine s_gT S (b := (decide (0 < ((y48).length : Int)))) rfl rfl c21 ?_
              refine s_ldR1 S (ty' := (Ty.int .i64)) (i := (wr .i64 (((y48).length : Int) - 1))) (off := 0) (v := (.int .i64 (rd y48 (wr .i64 (((y48).length : Int) - 1))))) rfl hA2 (.there .here) T3 c22.1 c22.2 rfl (fun _ => rfl) rfl ?_; clear S a; intro a S
              refine s_gT S (b := (decide (0 < ((y48).length : Int)))) rfl rfl c21 ?_
              refine s_move S rfl rfl ?_; clear S a; intro a S
              refine s_gT S (b := (decide (0 < ((y48).length : Int)))) rfl rfl c21 ?_
              refine s_bin S rfl rfl rfl rfl ?_; clear S a; intro a S
              refine s_pick S (b := true) (hc_of rfl c21) rfl rfl ?_; clear S a; intro a S
              refine c_end' ?_
              refine x_thenN ?_
              exact j7 _ ((rd y48 (wr .i64 (((y48).length : Int) - 1))) == y27) g22 a w (S.sub ⟨rfl, rfl, rfl, rfl, rfl, rfl, rfl, rfl, trivial⟩ (.cons .here (.cons .here .nil))) h2
            · refine s_gF S (b := (decide (0 < ((y48).length : Int)))) rfl rfl c21 rfl ?_; clear S a; intro a S
              refine s_gF S (b := (decide (0 < ((y48).length : Int)))) rfl rfl c21 rfl ?_; clear S a; intro a S
              refine s_gF S (b := (decide (0 < ((y48).length : Int)))) rfl rfl c21 rfl ?_; clear S a; intro a S
              refine s_gF S (b := (decide (0 < ((y48).length : Int)))) rfl rfl c21 rfl ?_; clear S a; intro a S
              refine s_gF S (b := (decide (0 < ((y48).length : Int)))) rfl rfl c21 rfl ?_; clear S a; intro a S
              refine s_gF S (b := (decide (0 < ((y48).length : Int)))) rfl rfl c21 rfl ?_; clear S a; intro a S
              refine s_gF S (b := (decide (0 < ((y48).length : Int)))) rfl rfl c21 rfl ?_; clear S a; intro a S
              refine s_gF S (b := (decide (0 < ((y48).length : Int)))) rfl rfl c21 rfl ?_; clear S a; intro a S
              refine s_pick S (b := false) (hc_of rfl c21) rfl rfl ?_; clear S a; intro a S
              refine c_end' ?_
              refine x_thenN ?_
              exact j7 _ false g22 a w (S.sub ⟨rfl, rfl, rfl, rfl, rfl, rfl, rfl, rfl, trivial⟩ (.cons .here (.cons .here .nil))) h1
        · refine c_condF S rfl c2 ?_
          refine wp_exit ?_
          refine x_thenX ?_
          refine x_thenX ?_
          refine x_blockX ?_
          refine x_thenN ?_
          exact j2 _ a w (S.sub trivial .nil) h1
  refine c_region' ?_
  refine s_move S rfl rfl ?_; clear S a; intro a S
  refine s_lenS S rfl Tryd.underlying51 rfl ?_; clear S a; intro a S
  refine s_bin S rfl rfl rfl rfl ?_; clear S a; intro a S
  refine s_move S rfl rfl ?_; clear S a; intro a S
  rcases ite_of h0 with ⟨c23, h1⟩ | ⟨c23, h1⟩ <;> clear h0
  · refine s_gF S (b := (((x1).length : Int) == 0)) rfl rfl c23 rfl ?_; clear S a; intro a S
    refine s_gF S (b := (((x1).length : Int) == 0)) rfl rfl c23 rfl ?_; clear S a; intro a S
    refine s_gF S (b := (((x1).length : Int) == 0)) rfl rfl c23 rfl ?_; clear S a; intro a S
    refine s_gF S (b := (((x1).length : Int) == 0)) rfl rfl c23 rfl ?_; clear S a; intro a S
    refine s_gF S (b := (((x1).length : Int) == 0)) rfl rfl c23 rfl ?_; clear S a; intro a S
    refine s_gF S (b := (((x1).length : Int) == 0)) rfl rfl c23 rfl ?_; clear S a; intro a S
    refine s_gF S (b := (((x1).length : Int) == 0)) rfl rfl c23 rfl ?_; clear S a; intro a S
    refine s_gF S (b := (((x1).length : Int) == 0)) rfl rfl c23 rfl ?_; clear S a; intro a S
    refine s_pick S (b := true) (hc_of rfl c23) rfl rfl ?_; clear S a; intro a S
    refine c_end' ?_
    refine x_thenN ?_
    exact j1 _ true a w0 (S.sub ⟨rfl, rfl, trivial⟩ .nil) h1
  · refine s_gT S (b := (((x1).length : Int) == 0)) rfl rfl c23 ?_
    refine s_move S rfl rfl ?_; clear S a; intro a S
    refine s_gT S (b := (((x1).length : Int) == 0)) rfl rfl c23 ?_
    obtain ⟨c24, h2⟩ := chk_of h1; clear h1
    refine s_iaddrS S rfl rfl rfl Tryd.underlying51 T54 c24.1 c24.2 rfl ?_; clear S a; intro p2 a S
    refine s_gT S (b := (((x1).length : Int) == 0)) rfl rfl c23 ?_
    refine s_faddrP S (tF := (Ty.int .i64)) (y := (gt x1 0).2.2) rfl I54_2 T3 (by decide) (fun m h => (at_snd (at_snd (at_0 h)))) rfl ?_; clear S a; intro a S
    refine s_gT S (b := (((x1).length : Int) == 0)) rfl rfl c23 ?_
    refine s_ld1 S (v := (.int .i64 ((gt x1 0).2.2))) rfl T3 (fun _ => rfl) rfl ?_; clear S a; intro a S
    refine s_gT S (b := (((x1).length : Int) == 0)) rfl rfl c23 ?_
    refine s_move S rfl rfl ?_; clear S a; intro a S
    refine s_gT S (b := (((x1).length : Int) == 0)) rfl rfl c23 ?_
    refine s_lenS S rfl Tryd.underlying51 rfl ?_; clear S a; intro a S
    refine s_gT S (b := (((x1).length : Int) == 0)) rfl rfl c23 ?_
    refine s_bin S rfl rfl rfl rfl ?_; clear S a; intro a S
    refine s_gT S (b := (((x1).length : Int) == 0)) rfl rfl c23 ?_
    refine s_bin S rfl rfl rfl rfl ?_; clear S a; intro a S
    refine s_pick S (b := false) (hc_of rfl c23) rfl rfl ?_; clear S a; intro a S
    refine c_end' ?_
    refine x_thenN ?_
    exact j1 _ (((gt x1 0).2.2) != (wr .i64 (((x1).length : Int) - 1))) a w0 (S.sub ⟨rfl, rfl, trivial⟩ .nil) h2
/-! (*smithy/rlp.writer).fail -/
abbrev rlp_writer_fail.Ty : Type := ((List (Bool × (List Int) × Int)) × Int) → Int → Option ((List Int) × ((List (Bool × (List Int) × Int)) × Int))
def rlp_writer_fail.Ctr (s : rlp_writer_fail.Ty) : Prop := ∀ (x1 : (List (Bool × (List Int) × Int)) × Int) (x2 : Int) (ch_0_0 : Nat) (ch_0_1 : Option Addr) (ch_0_2 : Nat) (r : (List Int) × ((List (Bool × (List Int) × Int)) × Int)) (h0 : s x1 x2 = some r) (mi : Mem) (w0 : World), okL mi [(.v (.pointer (some ⟨ch_0_0, 0, none⟩))), (.v (.int .i64 x2))] → Pre mi [Res.cells ch_0_0 98 [.sl ch_0_1 (x1.1).length ch_0_2 (RdS (Ty.prod Ty.bool (Ty.prod (Ty.slice (Ty.int .u8)) (Ty.int .i64))) ch_0_1 x1.1), .one (.int .i64 x1.2)]] w0 → Calls Tryd.prog 83 (([(.v (.pointer (some ⟨ch_0_0, 0, none⟩))), (.v (.int .i64 x2))] : List D).map D.val).toArray w0 (RetX mi [Res.cells ch_0_0 98 [.sl ch_0_1 (x1.1).length ch_0_2 (RdS (Ty.prod Ty.bool (Ty.prod (Ty.slice (Ty.int .u8)) (Ty.int .i64))) ch_0_1 x1.1), .one (.int .i64 x1.2)]] (fun (ch : (Option Addr) × Nat × (Option Addr) × Nat) => ((.sl ch.1 (r.1).length ch.2.1 (RdS (Ty.int .u8) ch.1 r.1)) : D)) (fun (ch : (Option Addr) × Nat × (Option Addr) × Nat) => [Res.cells ch_0_0 98 [.sl ch.2.2.1 (r.2.1).length ch.2.2.2 (RdS (Ty.prod Ty.bool (Ty.prod (Ty.slice (Ty.int .u8)) (Ty.int .i64))) ch.2.2.1 r.2.1), .one (.int .i64 r.2.2)]]) w0)
def rlp_writer_fail.j1 (x1 : (List (Bool × (List Int) × Int)) × Int) (y1 : Int) : Option ((List Int) × ((List (Bool × (List Int) × Int)) × Int)) := some (([] : List Int), (x1.1, y1))
def rlp_writer_fail.f (x1 : (List (Bool × (List Int) × Int)) × Int) (x2 : Int) : Option ((List Int) × ((List (Bool × (List Int) × Int)) × Int)) := if (x1.2 == 0) = true then (rlp_writer_fail.j1 x1 x2) else (rlp_writer_fail.j1 x1 x1.2)
theorem rlp_writer_fail.ok : rlp_writer_fail.Ctr (rlp_writer_fail.f) := by
  intro x1 x2 ch_0_0 ch_0_1 ch_0_2 r h0 mi w0 ok hm
  delta rlp_writer_fail.f at h0
  refine c_enterX (n := 14) [(.v (.pointer (some ⟨ch_0_0, 0, none⟩))), (.v (.int .i64 x2))] (l := [(0, (.v (.pointer (some ⟨ch_0_0, 0, none⟩)))), (1, (.v (.int .i64 x2)))]) Tryd.func83 rfl rfl rfl rfl ok hm ?_
  clear ok hm
  intro b0 hb a S
  refine c_region ?_
  refine s_assign S rfl rfl ?_; clear S a; intro a S
  refine c_end ?_
  refine wp_seq_k ?_
  intro K1 hK1
  have j1 : ∀ (m : Mem) (y1 : Int) (a : Act) (w : World), St 14 m b0 [] [Res.cells ch_0_0 98 [.sl ch_0_1 (x1.1).length ch_0_2 (RdS (Ty.prod Ty.bool (Ty.prod (Ty.slice (Ty.int .u8)) (Ty.int .i64))) ch_0_1 x1.1), .one (.int .i64 y1)]] a w → rlp_writer_fail.j1 x1 y1 = some r → K1 a w := by
    intro m y1 a w S h0
    delta rlp_writer_fail.j1 at h0
    refine hK1 a w ?_
    refine c_region ?_
    refine s_assign S rfl rfl ?_; clear S a; intro a S
    refine c_end ?_
    refine wp_ret ?_
    replace S := S.slot (u := 4) (d' := (.sl none (([] : List Int)).length 0 (RdS (Ty.int .u8) none ([] : List Int)))) rfl rfl ok_nil
    obtain rfl := Option.some.inj h0
    exact b_ret1 (d := (.sl none (([] : List Int)).length 0 (RdS (Ty.int .u8) none ([] : List Int)))) S rfl rfl fun ok => S.retX (Hx := []) hb _ _ ((none, 0, ch_0_1, ch_0_2) : (Option Addr) × Nat × (Option Addr) × Nat) (.cons .here .nil) ok
  refine c_region ?_
  refine s_move S rfl rfl ?_; clear S a; intro a S
  refine s_nilchk S rfl rfl ?_; clear S a; intro a S
  refine s_fieldAddr S rfl I98_1 T73 (by decide) rfl rfl ?_; clear S a; intro a S
  refine s_load1 S rfl .here T73 (v := (.int .i64 x1.2)) rfl rfl ?_; clear S a; intro a S
  refine s_bin S rfl rfl rfl rfl ?_; clear S a; intro a S
  refine c_end ?_
  rcases ite_of h0 with ⟨c1, h1⟩ | ⟨c1, h1⟩ <;> clear h0
  · refine c_condT S rfl c1 ?_
    refine c_region' ?_
    refine s_move S rfl rfl ?_; clear S a; intro a S
    refine s_move S rfl rfl ?_; clear S a; intro a S
    refine s_nilchk S rfl rfl ?_; clear S a; intro a S
    refine s_fieldAddr S rfl I98_1 T73 (by decide) rfl rfl ?_; clear S a; intro a S
    refine s_store S rfl rfl rfl (s' := [.sl ch_0_1 (x1.1).length ch_0_2 (RdS (Ty.prod Ty.bool (Ty.prod (Ty.slice (Ty.int .u8)) (Ty.int .i64))) ch_0_1 x1.1), .one (.int .i64 x2)]) .here T73 rfl rfl ?_; clear S; intro w S
    refine c_end' ?_
    refine x_thenN ?_
    exact j1 _ x2 a w (S.sub trivial (.cons .here .nil)) h1
  · refine c_condF S rfl c1 ?_
    refine wp_skip ?_
    refine x_thenN ?_
    exact j1 _ x1.2 a w0 (S.sub trivial (.cons .here .nil)) h1
/-! smithy/rlp.head -/
abbrev rlp_head.Ty : Type := Int → Int → Option ((List Int))
def rlp_head.Ctr (s : rlp_head.Ty) : Prop := ∀ (x1 : Int) (x2 : Int) (r : (List Int)) (h0 : s x1 x2 = some r) (mi : Mem) (w0 : World), okL mi [(.v (.int .i64 x1)), (.v (.int .u8 x2))] → Pre mi [] w0 → Calls Tryd.prog 84 (([(.v (.int .i64 x1)), (.v (.int .u8 x2))] : List D).map D.val).toArray w0 (RetX mi [] (fun (ch : (Option Addr) × Nat × Nat) => ((.v (.slice ch.1 ch.2.1 ch.2.2)) : D)) (fun (ch : (Option Addr) × Nat × Nat) => [Res.row (Ty.int .u8) 5 ch.1 ch.2.1 ch.2.2 r]) w0)
def rlp_head.f (k : Nat) (x1 : Int) (x2 : Int) : Option ((List Int)) := if (decide (x1 ≤ 55)) = true then (some [wr .u8 ((wr .u8 (128 + x2)) + (wr .u8 x1))]) else ((word_Of.f (wr .u64 x1)).bind fun t1 => ((rlp_Number.f k t1).bind fun t2 => (if (([wr .u8 ((wr .u8 (183 + x2)) + (wr .u8 ((t2).length : Int)))]).length + (t2).length) * 1 ≤ 140737488355328 then (some ([wr .u8 ((wr .u8 (183 + x2)) + (wr .u8 ((t2).length : Int)))] ++ t2)) else none)))
theorem rlp_head.ok (k : Nat) : rlp_head.Ctr (rlp_head.f k) := by
  intro x1 x2 r h0 mi w0 ok hm
  delta rlp_head.f at h0
  refine c_enterX (n := 27) [(.v (.int .i64 x1)), (.v (.int .u8 x2))] (l := [(0, (.v (.int .i64 x1))), (1, (.v (.int .u8 x2)))]) Tryd.func84 rfl rfl rfl rfl ok hm ?_
  clear ok hm
  intro b0 hb a S
  refine c_region ?_
  refine s_assign S rfl rfl ?_; clear S a; intro a S
  refine c_end ?_
  refine wp_seq ?_
  refine c_region ?_
  refine s_move S rfl rfl ?_; clear S a; intro a S
  refine s_bin S rfl rfl rfl rfl ?_; clear S a; intro a S
  refine c_end ?_
  rcases ite_of h0 with ⟨c1, h1⟩ | ⟨c1, h1⟩ <;> clear h0
  · refine c_condT S rfl c1 ?_
    refine c_region ?_
    refine s_move S rfl rfl ?_; clear S a; intro a S
    refine s_bin S rfl rfl rfl rfl ?_; clear S a; intro a S
    refine s_move S rfl rfl ?_; clear S a; intro a S
    refine s_conv S rfl rfl Tryd.underlying5 rfl ?_; clear S a; intro a S
    refine s_bin S rfl rfl rfl rfl ?_; clear S a; intro a S
    refine s_bldSl S (ty' := (Ty.int .u8)) (ds := [(0, (.v (.int .u8 (wr .u8 ((wr .u8 (128 + x2)) + (wr .u8 x1))))))]) (z := 0) (c0 := ()) (ys := [wr .u8 ((wr .u8 (128 + x2)) + (wr .u8 x1))]) (cs := [()]) rfl Tryd.underlying37 J5 Z5 rfl ⟨rfl, trivial⟩ rfl rfl rfl rfl rfl rfl ?_; clear S a; intro g1 a w S
    refine s_assign S rfl rfl ?_; clear S a; intro a S
    refine c_end ?_
    refine wp_ret ?_
    refine x_thenR ?_
    obtain rfl := Option.some.inj h1
    exact b_ret1 (d := (.v (.slice (some ⟨g1, 0, none⟩) 1 1))) S rfl rfl fun ok => S.retX (Hx := []) hb _ _ (((some ⟨g1, 0, none⟩), 1, 1) : (Option Addr) × Nat × Nat) (.cons .here .nil) ok
  · refine c_condF S rfl c1 ?_
    refine wp_skip ?_
    refine x_thenN ?_
    refine c_region ?_
    refine s_move S rfl rfl ?_; clear S a; intro a S
    refine s_conv S rfl rfl Tryd.underlying24 rfl ?_; clear S a; intro a S
    obtain ⟨t1, et1, h2⟩ := bind_of h1; clear h1
    refine s_callP S (fun (ch : Unit) => ((.agg [.ints .u64 t1 4]) : D)) N43 rfl rfl (word_Of.ok (wr .u64 x1) t1 et1 _ _) ?_; clear S a; intro ch1 m le1 a w S
    obtain ⟨t2, et2, h3⟩ := bind_of h2; clear h2
    refine s_callR S (fun (ch : (Option Addr) × Nat × Nat) => ((.v (.slice ch.1 ch.2.1 ch.2.2)) : D)) (fun (ch : (Option Addr) × Nat × Nat) => Res.row (Ty.int .u8) 5 ch.1 ch.2.1 ch.2.2 t2) N44 rfl rfl (rlp_Number.ok k t1 t2 et2 _ _) ?_; clear S a w; intro ch2 m le1 a w S
    refine s_assign S rfl rfl ?_; clear S a; intro a S
    refine c_end ?_
    refine c_region ?_
    refine s_move S rfl rfl ?_; clear S a; intro a S
    refine s_bin S rfl rfl rfl rfl ?_; clear S a; intro a S
    refine s_move S rfl rfl ?_; clear S a; intro a S
    refine s_lenO S rfl .here Tryd.underlying37 rfl ?_; clear S a; intro a S
    refine s_conv S rfl rfl Tryd.underlying5 rfl ?_; clear S a; intro a S
    refine s_bin S rfl rfl rfl rfl ?_; clear S a; intro a S
    refine s_bldSl S (ty' := (Ty.int .u8)) (ds := [(0, (.v (.int .u8 (wr .u8 ((wr .u8 (183 + x2)) + (wr .u8 ((t2).length : Int)))))))]) (z := 0) (c0 := ()) (ys := [wr .u8 ((wr .u8 (183 + x2)) + (wr .u8 ((t2).length : Int)))]) (cs := [()]) rfl Tryd.underlying37 J5 Z5 rfl ⟨rfl, trivial⟩ rfl rfl rfl rfl rfl rfl ?_; clear S a w; intro g2 a w S
    refine s_move S rfl rfl ?_; clear S a; intro a S
    obtain ⟨c2, h4⟩ := chk_of h3; clear h3
    refine s_app S (k2 := ch2.2.1) (ys := t2) rfl (fun _ _ => .here) rfl rfl (S.holds _ (Pull.mem (.there .here)).1).1 (Res.row.src (S.holds _ (Pull.mem (.there .here)).1)) Tryd.underlying37 J5 c2 rfl ?_; clear S a w; intro A1 cp1 a w S
    refine s_assign S rfl rfl ?_; clear S a; intro a S
    refine c_end ?_
    refine wp_ret ?_
    obtain rfl := Option.some.inj h4
    exact b_ret1 (d := (.v (.slice A1 (1 + ch2.2.1) cp1))) S rfl rfl fun ok => S.retX (Hx := []) hb _ _ ((A1, 1 + ch2.2.1, cp1) : (Option Addr) × Nat × Nat) (.cons .here .nil) ok
/-! (*smithy/rlp.writer).item -/
abbrev rlp_writer_item.Ty : Type := ((List (Bool × (List Int) × Int)) × Int) → Int → Option ((List Int) × ((List (Bool × (List Int) × Int)) × Int))
def rlp_writer_item.Ctr (s : rlp_writer_item.Ty) : Prop := ∀ (x1 : (List (Bool × (List Int) × Int)) × Int) (x2 : Int) (ch_0_0 : Nat) (ch_0_1 : Option Addr) (ch_0_2 : Nat) (r : (List Int) × ((List (Bool × (List Int) × Int)) × Int)) (h0 : s x1 x2 = some r) (mi : Mem) (w0 : World), okL mi [(.v (.pointer (some ⟨ch_0_0, 0, none⟩))), (.v (.int .i64 x2))] → Pre mi [Res.cells ch_0_0 98 [.sl ch_0_1 (x1.1).length ch_0_2 (RdS (Ty.prod Ty.bool (Ty.prod (Ty.slice (Ty.int .u8)) (Ty.int .i64))) ch_0_1 x1.1), .one (.int .i64 x1.2)]] w0 → Calls Tryd.prog 68 (([(.v (.pointer (some ⟨ch_0_0, 0, none⟩))), (.v (.int .i64 x2))] : List D).map D.val).toArray w0 (RetX mi [Res.cells ch_0_0 98 [.sl ch_0_1 (x1.1).length ch_0_2 (RdS (Ty.prod Ty.bool (Ty.prod (Ty.slice (Ty.int .u8)) (Ty.int .i64))) ch_0_1 x1.1), .one (.int .i64 x1.2)]] (fun (ch : (Option Addr) × Nat × (Option Addr) × Nat) => ((.sl ch.1 (r.1).length ch.2.1 (RdS (Ty.int .u8) ch.1 r.1)) : D)) (fun (ch : (Option Addr) × Nat × (Option Addr) × Nat) => [Res.cells ch_0_0 98 [.sl ch.2.2.1 (r.2.1).length ch.2.2.2 (RdS (Ty.prod Ty.bool (Ty.prod (Ty.slice (Ty.int .u8)) (Ty.int .i64))) ch.2.2.1 r.2.1), .one (.int .i64 r.2.2)]]) w0)
def rlp_writer_item.j4 (k : Nat) (x1 : (List (Bool × (List Int) × Int)) × Int) (y15 : List Int) (y16 : List (Bool × (List Int) × Int)) (y17 : Int) : Option ((List Int) × ((List (Bool × (List Int) × Int)) × Int)) := if (decide (((y16).length : Int) < (wr .i64 (((x1.1.drop (Int.toNat 1)).length : Int) - ((gt x1.1 0).2.2))))) = true then ((rlp_writer_fail.f (y16, y17) 2).bind fun t5 => (some (t5.1, (t5.2.1, t5.2.2)))) else ((rlp_head.f k ((y15).length : Int) 64).bind fun t6 => (if ((t6).length + (y15).length) * 1 ≤ 140737488355328 then (some (t6 ++ y15, (y16, y17))) else none))
def rlp_writer_item.j5 (k : Nat) (self0 : rlp_writer_item.Ty) (x1 : (List (Bool × (List Int) × Int)) × Int) (x2 : Int) (y23 : List Int) (y24 : List (Bool × (List Int) × Int)) (y25 : Int) (rec1 : (List Int) → (List (Bool × (List Int) × Int)) → Int → Option ((List Int) × ((List (Bool × (List Int) × Int)) × Int))) (y26 : Bool) : Option ((List Int) × ((List (Bool × (List Int) × Int)) × Int)) := if y26 = true then ((self0 (y24, y25) (wr .i64 (x2 + 1))).bind fun t9 => (if ((y23).length + (t9.1).length) * 1 ≤ 140737488355328 then (if (decide (1048576 < ((y23 ++ t9.1).length : Int))) = true then ((rlp_writer_fail.f (t9.2.1, t9.2.2) 4).bind fun t10 => (some (t10.1, (t10.2.1, t10.2.2)))) else (rec1 (y23 ++ t9.1) t9.2.1 t9.2.2)) else none)) else (rlp_writer_item.j4 k x1 y23 y24 y25)
def rlp_writer_item.b1 (k : Nat) (self0 : rlp_writer_item.Ty) (x1 : (List (Bool × (List Int) × Int)) × Int) (x2 : Int) (rec1 : (List Int) → (List (Bool × (List Int) × Int)) → Int → Option ((List Int) × ((List (Bool × (List Int) × Int)) × Int))) (y23 : List Int) (y24 : List (Bool × (List Int) × Int)) (y25 : Int) : Option ((List Int) × ((List (Bool × (List Int) × Int)) × Int)) := if (decide ((wr .i64 (((x1.1.drop (Int.toNat 1)).length : Int) - ((gt x1.1 0).2.2))) < ((y24).length : Int))) = true then (rlp_writer_item.j5 k self0 x1 x2 y23 y24 y25 rec1 (y25 == 0)) else (rlp_writer_item.j5 k self0 x1 x2 y23 y24 y25 rec1 false)
def rlp_writer_item.l1 (k : Nat) (self0 : rlp_writer_item.Ty) (x1 : (List (Bool × (List Int) × Int)) × Int) (x2 : Int) : Nat → (List Int) → (List (Bool × (List Int) × Int)) → Int → Option ((List Int) × ((List (Bool × (List Int) × Int)) × Int))
  | 0, _, _, _ => none
  | q + 1, y23, y24, y25 => rlp_writer_item.b1 k self0 x1 x2 (rlp_writer_item.l1 k self0 x1 x2 q) y23 y24 y25
def rlp_writer_item.j3 (k : Nat) (self0 : rlp_writer_item.Ty) (x1 : (List (Bool × (List Int) × Int)) × Int) (x2 : Int) (y5 : Bool) : Option ((List Int) × ((List (Bool × (List Int) × Int)) × Int)) := if y5 = true then (if (0 : Int) ≤ 0 ∧ 0 < (((gt x1.1 0).2.1).length : Int) then (some ([rd ((gt x1.1 0).2.1) 0], (x1.1.drop (Int.toNat 1), x1.2))) else none) else (if (!((gt x1.1 0).1)) = true then ((rlp_head.f k (((gt x1.1 0).2.1).length : Int) 0).bind fun t3 => (if ((t3).length + ((gt x1.1 0).2.1).length) * 1 ≤ 140737488355328 then (some (t3 ++ ((gt x1.1 0).2.1), (x1.1.drop (Int.toNat 1), x1.2))) else none)) else (if (x2 == 64) = true then ((rlp_writer_fail.f (x1.1.drop (Int.toNat 1), x1.2) 4).bind fun t4 => (some (t4.1, (t4.2.1, t4.2.2)))) else (rlp_writer_item.l1 k self0 x1 x2 k ([] : List Int) (x1.1.drop (Int.toNat 1)) x1.2)))
def rlp_writer_item.j2 (k : Nat) (self0 : rlp_writer_item.Ty) (x1 : (List (Bool × (List Int) × Int)) × Int) (x2 : Int) (y4 : Bool) : Option ((List Int) × ((List (Bool × (List Int) × Int)) × Int)) := if y4 = true then ((rlp_writer_fail.f (x1.1.drop (Int.toNat 1), x1.2) 2).bind fun t2 => (some (t2.1, (t2.2.1, t2.2.2)))) else (if (!((gt x1.1 0).1)) = true then (if ((((gt x1.1 0).2.1).length : Int) == 1) = true then (if (0 : Int) ≤ 0 ∧ 0 < (((gt x1.1 0).2.1).length : Int) then (rlp_writer_item.j3 k self0 x1 x2 (decide ((rd ((gt x1.1 0).2.1) 0) < 128))) else none) else (rlp_writer_item.j3 k self0 x1 x2 false)) else (rlp_writer_item.j3 k self0 x1 x2 false))
def rlp_writer_item.j7 (k : Nat) (self0 : rlp_writer_item.Ty) (x1 : (List (Bool × (List Int) × Int)) × Int) (x2 : Int) (y28 : Bool) : Option ((List Int) × ((List (Bool × (List Int) × Int)) × Int)) := if y28 = true then (rlp_writer_item.j2 k self0 x1 x2 y28) else (if (decide (((gt x1.1 0).2.2) < 0)) = true then (rlp_writer_item.j2 k self0 x1 x2 true) else (rlp_writer_item.j2 k self0 x1 x2 (decide (((x1.1.drop (Int.toNat 1)).length : Int) < ((gt x1.1 0).2.2)))))
def rlp_writer_item.j6 (k : Nat) (self0 : rlp_writer_item.Ty) (x1 : (List (Bool × (List Int) × Int)) × Int) (x2 : Int) (y27 : Bool) : Option ((List Int) × ((List (Bool × (List Int) × Int)) × Int)) := if y27 = true then (rlp_writer_item.j2 k self0 x1 x2 y27) else (if ((gt x1.1 0).1) = true then (rlp_writer_item.j7 k self0 x1 x2 (decide (0 < (((gt x1.1 0).2.1).length : Int)))) else (rlp_writer_item.j7 k self0 x1 x2 false))
def rlp_writer_item.j1 (k : Nat) (self0 : rlp_writer_item.Ty) (x1 : (List (Bool × (List Int) × Int)) × Int) (x2 : Int) (y1 : Bool) : Option ((List Int) × ((List (Bool × (List Int) × Int)) × Int)) := if y1 = true then ((rlp_writer_fail.f (x1.1, x1.2) 2).bind fun t1 => (some (t1.1, (t1.2.1, t1.2.2)))) else (if (0 : Int) ≤ 0 ∧ 0 < ((x1.1).length : Int) then (if (0 : Int) ≤ 1 ∧ (1 : Int) ≤ ((x1.1).length : Int) ∧ ((x1.1).length : Int) ≤ ((x1.1).length : Int) then (if (!((gt x1.1 0).1)) = true then (rlp_writer_item.j6 k self0 x1 x2 (((gt x1.1 0).2.2) != 0)) else (rlp_writer_item.j6 k self0 x1 x2 false)) else none) else none)
def rlp_writer_item.body (self0 : rlp_writer_item.Ty) (k : Nat) (x1 : (List (Bool × (List Int) × Int)) × Int) (x2 : Int) : Option ((List Int) × ((List (Bool × (List Int) × Int)) × Int)) := if (x1.2 != 0) = true then (rlp_writer_item.j1 k self0 x1 x2 true) else (rlp_writer_item.j1 k self0 x1 x2 (((x1.1).length : Int) == 0))
theorem rlp_writer_item.okb (self0 : rlp_writer_item.Ty) (c_0 : rlp_writer_item.Ctr self0) (k : Nat) : rlp_writer_item.Ctr (rlp_writer_item.body self0 k) := by
  intro x1 x2 ch_0_0 ch_0_1 ch_0_2 r h0 mi w0 ok hm
  delta rlp_writer_item.body at h0
  refine c_enterX (n := 154) [(.v (.pointer (some ⟨ch_0_0, 0, none⟩))), (.v (.int .i64 x2))] (l := [(0, (.v (.pointer (some ⟨ch_0_0, 0, none⟩)))), (1, (.v (.int .i64 x2)))]) Tryd.func68 rfl rfl rfl rfl ok hm ?_
  clear ok hm
  intro b0 hb a S
  refine c_region ?_
  refine s_assign S rfl rfl ?_; clear S a; intro a S
  refine c_end ?_
  refine wp_seq ?_
  refine wp_seq_k ?_
  intro K1 hK1
  have j1 : ∀ (m : Mem) (y1 : Bool) (a : Act) (w : World), St 154 m b0 [(20, (.v (.bool y1))), (0, (.v (.pointer (some ⟨ch_0_0, 0, none⟩)))), (1, (.v (.int .i64 x2)))] [Res.cells ch_0_0 98 [.sl ch_0_1 (x1.1).length ch_0_2 (RdS (Ty.prod Ty.bool (Ty.prod (Ty.slice (Ty.int .u8)) (Ty.int .i64))) ch_0_1 x1.1), .one (.int .i64 x1.2)]] a w → rlp_writer_item.j1 k self0 x1 x2 y1 = some r → K1 a w := by
    intro m y1 a w S h0
    delta rlp_writer_item.j1 at h0
    refine hK1 a w ?_
    rcases ite_of h0 with ⟨c1, h1⟩ | ⟨c1, h1⟩ <;> clear h0
    · refine c_condT S rfl c1 ?_
      refine c_region ?_
      refine s_move S rfl rfl ?_; clear S a; intro a S
      obtain ⟨t1, et1, h2⟩ := bind_of h1; clear h1
      refine s_callX S (ds' := [(.v (.pointer (some ⟨ch_0_0, 0, none⟩))), (.v (.int .i64 2))]) (ds := [(.v (.pointer (some ⟨ch_0_0, 0, none⟩))), (.v (.int .i64 2))]) [Res.cells ch_0_0 98 [.sl ch_0_1 (x1.1).length ch_0_2 (RdS (Ty.prod Ty.bool (Ty.prod (Ty.slice (Ty.int .u8)) (Ty.int .i64))) ch_0_1 x1.1), .one (.int .i64 x1.2)]] [] (fun (ch : (Option Addr) × Nat × (Option Addr) × Nat) => ((.sl ch.1 (t1.1).length ch.2.1 (RdS (Ty.int .u8) ch.1 t1.1)) : D)) (fun (ch : (Option Addr) × Nat × (Option Addr) × Nat) => [Res.cells ch_0_0 98 [.sl ch.2.2.1 (t1.2.1).length ch.2.2.2 (RdS (Ty.prod Ty.bool (Ty.prod (Ty.slice (Ty.int .u8)) (Ty.int .i64))) ch.2.2.1 t1.2.1), .one (.int .i64 t1.2.2)]]) (fun (ch : (Option Addr) × Nat × (Option Addr) × Nat) => [Res.cells ch_0_0 98 [.sl ch.2.2.1 (t1.2.1).length ch.2.2.2 (RdS (Ty.prod Ty.bool (Ty.prod (Ty.slice (Ty.int .u8)) (Ty.int .i64))) ch.2.2.1 t1.2.1), .one (.int .i64 t1.2.2)]]) (fun _ => rfl) N83 rfl rfl (fun ok => ok) (.cons .here .nil) rfl (rlp_writer_fail.ok (x1.1, x1.2) 2 ch_0_0 ch_0_1 ch_0_2 t1 et1 _ _) ?_; clear S a w; intro ch1 m le1 a w S
      refine s_assign S rfl rfl ?_; clear S a; intro a S
      refine c_end ?_
      refine wp_ret ?_
      refine x_thenR ?_
      obtain rfl := Option.some.inj h2
      exact b_ret1 (d := (.sl ch1.1 (t1.1).length ch1.2.1 (RdS (Ty.int .u8) ch1.1 t1.1))) S rfl rfl fun ok => S.retX (Hx := []) hb _ _ ((ch1.1, ch1.2.1, ch1.2.2.1, ch1.2.2.2) : (Option Addr) × Nat × (Option Addr) × Nat) (.cons .here .nil) ok
    · refine c_condF S rfl c1 ?_
      refine wp_skip ?_
      refine x_thenN ?_
      refine c_region ?_
      refine s_move S rfl rfl ?_; clear S a; intro a S
      refine s_nilchk S rfl rfl ?_; clear S a; intro a S
      refine s_fieldAddr S rfl I98_0 T51 (by decide) rfl rfl ?_; clear S a; intro a S
      refine s_loadSl S rfl .here T51 (A := ch_0_1) (len := (x1.1).length) (cap := ch_0_2) rfl rfl ?_; clear S a; intro a S
      obtain ⟨c2, h2⟩ := chk_of h1; clear h1
      refine s_iaddrS S rfl rfl rfl Tryd.underlying51 T54 c2.1 c2.2 rfl ?_; clear S a; intro p1 a S
      refine s_ldA S (fun (c : Unit × (Option Addr × Nat) × Unit) => [.one (.bool ((gt x1.1 0).1)), .sl c.2.1.1 ((gt x1.1 0).2.1).length c.2.1.2 (RdS (Ty.int .u8) c.2.1.1 ((gt x1.1 0).2.1)), .one (.int .i64 ((gt x1.1 0).2.2))]) rfl T54 (fun _ => rfl) rfl ?_; clear S a; intro ch2 a S
      refine s_alloc S Z54 rfl ⟨rfl, rfl, rfl, trivial⟩ rfl ?_; clear S a w; intro g1 a w S
      refine s_store S rfl rfl rfl (s' := [.one (.bool ((gt x1.1 0).1)), .sl ch2.2.1.1 ((gt x1.1 0).2.1).length ch2.2.1.2 (RdS (Ty.int .u8) ch2.2.1.1 ((gt x1.1 0).2.1)), .one (.int .i64 ((gt x1.1 0).2.2))]) .here T54 rfl rfl ?_; clear S w; intro w S
      refine c_end ?_
      refine c_region ?_
      refine s_move S rfl rfl ?_; clear S a; intro a S
      refine s_move S rfl rfl ?_; clear S a; intro a S
      refine s_nilchk S rfl rfl ?_; clear S a; intro a S
      refine s_fieldAddr S rfl I98_0 T51 (by decide) rfl rfl ?_; clear S a; intro a S
      refine s_loadSl S rfl (.there .here) T51 (A := ch_0_1) (len := (x1.1).length) (cap := ch_0_2) rfl rfl ?_; clear S a; intro a S
      obtain ⟨c3, h3⟩ := chk_of h2; clear h2
      refine s_cutS S (i := 1) (j := ((x1.1).length : Int)) (ys := x1.1.drop (Int.toNat 1)) rfl rfl Tryd.underlying51 T54 (.inr ⟨_, _, rfl, rfl⟩) (.inl ⟨rfl, rfl⟩) c3 rfl (cut_end rfl) ?_; clear S a; intro A1 cp1 a S
      refine s_nilchk S rfl rfl ?_; clear S a; intro a S
      refine s_fieldAddr S rfl I98_0 T51 (by decide) rfl rfl ?_; clear S a; intro a S
      refine s_store S rfl rfl rfl (s' := [.sl A1 (x1.1.drop (Int.toNat 1)).length cp1 (RdS (Ty.prod Ty.bool (Ty.prod (Ty.slice (Ty.int .u8)) (Ty.int .i64))) A1 (x1.1.drop (Int.toNat 1))), .one (.int .i64 x1.2)]) (.there .here) T51 rfl rfl ?_; clear S w; intro w S
      refine c_end ?_
      refine wp_seq ?_
      refine wp_block ?_
      refine wp_seq_k ?_
      intro K2 hK2
      have j2 : ∀ (m : Mem) (y4 : Bool) (g4 : Nat) (A2 : Option Addr) (cp4 : Nat) (A3 : Option Addr) (cp5 : Nat) (a : Act) (w : World), St 154 m b0 [(37, (.v (.bool y4))), (5, (.v (.pointer (some ⟨g4, 0, none⟩)))), (0, (.v (.pointer (some ⟨ch_0_0, 0, none⟩)))), (1, (.v (.int .i64 x2)))] [Res.cells g4 54 [.one (.bool ((gt x1.1 0).1)), .sl A3 ((gt x1.1 0).2.1).length cp5 (RdS (Ty.int .u8) A3 ((gt x1.1 0).2.1)), .one (.int .i64 ((gt x1.1 0).2.2))], Res.cells ch_0_0 98 [.sl A2 (x1.1.drop (Int.toNat 1)).length cp4 (RdS (Ty.prod Ty.bool (Ty.prod (Ty.slice (Ty.int .u8)) (Ty.int .i64))) A2 (x1.1.drop (Int.toNat 1))), .one (.int .i64 x1.2)]] a w → rlp_writer_item.j2 k self0 x1 x2 y4 = some r → K2 a w := by
        intro m y4 g4 A2 cp4 A3 cp5 a w S h0
        delta rlp_writer_item.j2 at h0
        refine hK2 a w ?_
        rcases ite_of h0 with ⟨c4, h1⟩ | ⟨c4, h1⟩ <;> clear h0
        · refine c_condT S rfl c4 ?_
          refine c_region ?_
          refine s_move S rfl rfl ?_; clear S a; intro a S
          obtain ⟨t2, et2, h2⟩ := bind_of h1; clear h1
          refine s_callX S (ds' := [(.v (.pointer (some ⟨ch_0_0, 0, none⟩))), (.v (.int .i64 2))]) (ds := [(.v (.pointer (some ⟨ch_0_0, 0, none⟩))), (.v (.int .i64 2))]) [Res.cells ch_0_0 98 [.sl A2 (x1.1.drop (Int.toNat 1)).length cp4 (RdS (Ty.prod Ty.bool (Ty.prod (Ty.slice (Ty.int .u8)) (Ty.int .i64))) A2 (x1.1.drop (Int.toNat 1))), .one (.int .i64 x1.2)]] [Res.cells g4 54 [.one (.bool ((gt x1.1 0).1)), .sl A3 ((gt x1.1 0).2.1).length cp5 (RdS (Ty.int .u8) A3 ((gt x1.1 0).2.1)), .one (.int .i64 ((gt x1.1 0).2.2))]] (fun (ch : (Option Addr) × Nat × (Option Addr) × Nat) => ((.sl ch.1 (t2.1).length ch.2.1 (RdS (Ty.int .u8) ch.1 t2.1)) : D)) (fun (ch : (Option Addr) × Nat × (Option Addr) × Nat) => [Res.cells ch_0_0 98 [.sl ch.2.2.1 (t2.2.1).length ch.2.2.2 (RdS (Ty.prod Ty.bool (Ty.prod (Ty.slice (Ty.int .u8)) (Ty.int .i64))) ch.2.2.1 t2.2.1), .one (.int .i64 t2.2.2)]]) (fun (ch : (Option Addr) × Nat × (Option Addr) × Nat) => [Res.cells ch_0_0 98 [.sl ch.2.2.1 (t2.2.1).length ch.2.2.2 (RdS (Ty.prod Ty.bool (Ty.prod (Ty.slice (Ty.int .u8)) (Ty.int .i64))) ch.2.2.1 t2.2.1), .one (.int .i64 t2.2.2)], Res.cells g4 54 [.one (.bool ((gt x1.1 0).1)), .sl A3 ((gt x1.1 0).2.1).length cp5 (RdS (Ty.int .u8) A3 ((gt x1.1 0).2.1)), .one (.int .i64 ((gt x1.1 0).2.2))]]) (fun _ => rfl) N83 rfl rfl (fun ok => ok) (.cons (.there .here) (.cons .here .nil)) rfl (rlp_writer_fail.ok (x1.1.drop (Int.toNat 1), x1.2) 2 ch_0_0 A2 cp4 t2 et2 _ _) ?_; clear S a w; intro ch3 m le1 a w S
          refine s_assign S rfl rfl ?_; clear S a; intro a S
          refine c_end ?_
          refine wp_ret ?_
          refine x_blockR ?_
          refine x_thenR ?_
          obtain rfl := Option.some.inj h2
          exact b_ret1 (d := (.sl ch3.1 (t2.1).length ch3.2.1 (RdS (Ty.int .u8) ch3.1 t2.1))) S rfl rfl fun ok => S.retX (Hx := []) hb _ _ ((ch3.1, ch3.2.1, ch3.2.2.1, ch3.2.2.2) : (Option Addr) × Nat × (Option Addr) × Nat) (.cons .here .nil) ok
        · refine c_condF S rfl c4 ?_
          refine wp_seq_k ?_
          intro K3 hK3
          have j3 : ∀ (m : Mem) (y5 : Bool) (g5 : Nat) (a : Act) (w : World), St 154 m b0 [(69, (.v (.bool y5))), (5, (.v (.pointer (some ⟨g5, 0, none⟩)))), (0, (.v (.pointer (some ⟨ch_0_0, 0, none⟩)))), (1, (.v (.int .i64 x2)))] [Res.cells g5 54 [.one (.bool ((gt x1.1 0).1)), .sl A3 ((gt x1.1 0).2.1).length cp5 (RdS (Ty.int .u8) A3 ((gt x1.1 0).2.1)), .one (.int .i64 ((gt x1.1 0).2.2))], Res.cells ch_0_0 98 [.sl A2 (x1.1.drop (Int.toNat 1)).length cp4 (RdS (Ty.prod Ty.bool (Ty.prod (Ty.slice (Ty.int .u8)) (Ty.int .i64))) A2 (x1.1.drop (Int.toNat 1))), .one (.int .i64 x1.2)]] a w → rlp_writer_item.j3 k self0 x1 x2 y5 = some r → K3 a w := by
            intro m y5 g5 a w S h0
            delta rlp_writer_item.j3 at h0
            refine hK3 a w ?_
            rcases ite_of h0 with ⟨c5, h1⟩ | ⟨c5, h1⟩ <;> clear h0
            · refine c_condT S rfl c5 ?_
              refine c_region ?_
              refine s_fieldAddr S rfl I54_1 T37 (by decide) rfl rfl ?_; clear S a; intro a S
              refine s_loadSl S rfl .here T37 (A := A3) (len := ((gt x1.1 0).2.1).length) (cap := cp5) rfl rfl ?_; clear S a; intro a S
              obtain ⟨c6, h2⟩ := chk_of h1; clear h1
              refine s_iaddrS S rfl rfl rfl Tryd.underlying37 T5 c6.1 c6.2 rfl ?_; clear S a; intro p3 a S
              refine s_ld1 S (v := (.int .u8 (rd ((gt x1.1 0).2.1) 0))) rfl T5 (fun _ => rfl) rfl ?_; clear S a; intro a S
              refine s_bldSl S (ty' := (Ty.int .u8)) (ds := [(0, (.v (.int .u8 (rd ((gt x1.1 0).2.1) 0))))]) (z := 0) (c0 := ()) (ys := [rd ((gt x1.1 0).2.1) 0]) (cs := [()]) rfl Tryd.underlying37 J5 Z5 rfl ⟨rfl, trivial⟩ rfl rfl rfl rfl rfl rfl ?_; clear S a w; intro g6 a w S
              refine s_assign S rfl rfl ?_; clear S a; intro a S
              refine c_end ?_
              refine wp_ret ?_
              refine x_blockR ?_
              refine x_thenR ?_
              replace S := S.rowfro .here
              obtain ⟨m, le1, S, hro⟩ := S
              replace S := S.slotro (u := 4) rfl hro
              replace S := S.slotro (u := 90) rfl hro
              obtain rfl := Option.some.inj h2
              exact b_ret1 (d := (.sl (some ⟨g6, 0, none⟩) ([rd ((gt x1.1 0).2.1) 0]).length 1 (RdS (Ty.int .u8) (some ⟨g6, 0, none⟩) [rd ((gt x1.1 0).2.1) 0]))) S rfl rfl fun ok => S.retX (Hx := []) hb _ _ (((some ⟨g6, 0, none⟩), 1, A2, cp4) : (Option Addr) × Nat × (Option Addr) × Nat) (.cons (.there .here) .nil) ok
            · refine c_condF S rfl c5 ?_
              refine c_region ?_
              refine s_fieldAddr S rfl I54_0 T4 (by decide) rfl rfl ?_; clear S a; intro a S
              refine s_load1 S rfl .here T4 (v := (.bool ((gt x1.1 0).1))) rfl rfl ?_; clear S a; intro a S
              refine s_not S rfl rfl ?_; clear S a; intro a S
              refine s_assign S rfl rfl ?_; clear S a; intro a S
              refine c_end ?_
              rcases ite_of h1 with ⟨c7, h2⟩ | ⟨c7, h2⟩ <;> clear h1
              · refine c_condT S rfl c7 ?_
                refine wp_seq (c_heldS S (.take 0 (.take 1 (.take 2 (.take 4 (.take 5 (.alts (.run 3 true (.alts (.run 6 true (.take 7 .done) .nil)) .nil))))))) 8 [Res.cells g5 54 [.one (.bool ((gt x1.1 0).1)), .sl A3 ((gt x1.1 0).2.1).length cp5 (RdS (Ty.int .u8) A3 ((gt x1.1 0).2.1)), .one (.int .i64 ((gt x1.1 0).2.2))], Res.cells ch_0_0 98 [.sl A2 (x1.1.drop (Int.toNat 1)).length cp4 (RdS (Ty.prod Ty.bool (Ty.prod (Ty.slice (Ty.int .u8)) (Ty.int .i64))) A2 (x1.1.drop (Int.toNat 1))), .one (.int .i64 x1.2)]] (.cons .here (.cons .here .nil)) ⟨Res.stay_cells, Res.stay_cells, trivial⟩ [(5, (.v (.pointer (some ⟨g5, 0, none⟩))))] ⟨rfl, trivial⟩ (by kernel_rfl) (by kernel_rfl) ?_); clear S; intro w S CL hw le
                refine h_fieldAddr S CL hw le ⟨rfl, trivial⟩ rfl I54_1 T37 (by decide) rfl rfl rfl trivial ?_; clear S CL a; intro a S CL
                refine h_loadSl S CL hw le ⟨rfl, rfl, trivial⟩ rfl .here T37 (A := A3) (len := ((gt x1.1 0).2.1).length) (cap := cp5) rfl rfl rfl trivial ?_; clear S CL a; intro a S CL
                refine h_lenS S CL hw le ⟨rfl, rfl, rfl, trivial⟩ rfl Tryd.underlying37 rfl rfl trivial ?_; clear S CL a; intro a S CL
                refine h_fieldAddr S CL hw le ⟨rfl, rfl, rfl, rfl, trivial⟩ rfl I54_1 T37 (by decide) rfl rfl rfl trivial ?_; clear S CL a; intro a S CL
                refine h_loadSl S CL hw le ⟨rfl, rfl, rfl, rfl, rfl, trivial⟩ rfl .here T37 (A := A3) (len := ((gt x1.1 0).2.1).length) (cap := cp5) rfl rfl rfl trivial ?_; clear S CL a; intro a S CL
                refine h_run' S rfl trivial ?_
                obtain ⟨t3, et3, h3⟩ := bind_of h2; clear h2
                refine s_callR S (fun (ch : (Option Addr) × Nat × Nat) => ((.v (.slice ch.1 ch.2.1 ch.2.2)) : D)) (fun (ch : (Option Addr) × Nat × Nat) => Res.row (Ty.int .u8) 5 ch.1 ch.2.1 ch.2.2 t3) N84 rfl rfl (rlp_head.ok k (((gt x1.1 0).2.1).length : Int) 0 t3 et3 _ _) ?_; clear S a; intro ch4 m le1 a w S
                replace le := le.trans le1
                replace hw := CL.again hw S (.cons (.there .here) (.cons (.there .here) .nil)) le
                refine h_back ⟨fun _ => hw, ?_⟩
                refine h_run' S rfl trivial ?_
                obtain ⟨c8, h4⟩ := chk_of h3; clear h3
                refine s_app S (k2 := (((gt x1.1 0).2.1).length)) (ys := ((gt x1.1 0).2.1)) rfl (fun _ _ => .here) rfl rfl rfl (RdS.src (S.get 100 (.sl A3 ((gt x1.1 0).2.1).length cp5 (RdS (Ty.int .u8) A3 ((gt x1.1 0).2.1))) rfl).2.2.2.1 (by decide) S.frz) Tryd.underlying37 J5 c8 rfl ?_; clear S a; intro A4 cp6 a w S
                replace hw := CL.again hw S (.cons (.there .here) (.cons (.there .here) .nil)) le
                refine h_back ⟨fun _ => hw, ?_⟩
                replace CL := CL.add (t := 101) (d := (.v (.slice A4 (ch4.2.1 + (((gt x1.1 0).2.1).length)) cp6))) S rfl rfl
                refine h_assign S CL hw le ⟨rfl, rfl, rfl, rfl, rfl, rfl, rfl, trivial⟩ rfl rfl rfl trivial ?_; clear S CL a; intro a S CL
                refine h_done ?_; clear CL hw le
                refine x_thenN ?_
                refine wp_ret ?_
                refine x_blockR ?_
                refine x_thenR ?_
                replace S := S.rowfro .here
                obtain ⟨m, le1, S, hro⟩ := S
                replace S := S.slotro (u := 4) rfl hro
                replace S := S.slotro (u := 101) rfl hro
                obtain rfl := Option.some.inj h4
                exact b_ret1 (d := (.sl A4 (t3 ++ ((gt x1.1 0).2.1)).length cp6 (RdS (Ty.int .u8) A4 (t3 ++ ((gt x1.1 0).2.1))))) S rfl rfl fun ok => S.retX (Hx := []) hb _ _ ((A4, cp6, A2, cp4) : (Option Addr) × Nat × (Option Addr) × Nat) (.cons (.there .here) .nil) ok
              · refine c_condF S rfl c7 ?_
                refine c_region ?_
                refine s_move S rfl rfl ?_; clear S a; intro a S
                refine s_bin S rfl rfl rfl rfl ?_; clear S a; intro a S
                refine s_assign S rfl rfl ?_; clear S a; intro a S
                refine c_end ?_
                rcases ite_of h2 with ⟨c9, h3⟩ | ⟨c9, h3⟩ <;> clear h2
                · refine c_condT S rfl c9 ?_
                  refine c_region ?_
                  refine s_move S rfl rfl ?_; clear S a; intro a S
                  obtain ⟨t4, et4, h4⟩ := bind_of h3; clear h3
                  refine s_callX S (ds' := [(.v (.pointer (some ⟨ch_0_0, 0, none⟩))), (.v (.int .i64 4))]) (ds := [(.v (.pointer (some ⟨ch_0_0, 0, none⟩))), (.v (.int .i64 4))]) [Res.cells ch_0_0 98 [.sl A2 (x1.1.drop (Int.toNat 1)).length cp4 (RdS (Ty.prod Ty.bool (Ty.prod (Ty.slice (Ty.int .u8)) (Ty.int .i64))) A2 (x1.1.drop (Int.toNat 1))), .one (.int .i64 x1.2)]] [Res.cells g5 54 [.one (.bool ((gt x1.1 0).1)), .sl A3 ((gt x1.1 0).2.1).length cp5 (RdS (Ty.int .u8) A3 ((gt x1.1 0).2.1)), .one (.int .i64 ((gt x1.1 0).2.2))]] (fun (ch : (Option Addr) × Nat × (Option Addr) × Nat) => ((.sl ch.1 (t4.1).length ch.2.1 (RdS (Ty.int .u8) ch.1 t4.1)) : D)) (fun (ch : (Option Addr) × Nat × (Option Addr) × Nat) => [Res.cells ch_0_0 98 [.sl ch.2.2.1 (t4.2.1).length ch.2.2.2 (RdS (Ty.prod Ty.bool (Ty.prod (Ty.slice (Ty.int .u8)) (Ty.int .i64))) ch.2.2.1 t4.2.1), .one (.int .i64 t4.2.2)]]) (fun (ch : (Option Addr) × Nat × (Option Addr) × Nat) => [Res.cells ch_0_0 98 [.sl ch.2.2.1 (t4.2.1).length ch.2.2.2 (RdS (Ty.prod Ty.bool (Ty.prod (Ty.slice (Ty.int .u8)) (Ty.int .i64))) ch.2.2.1 t4.2.1), .one (.int .i64 t4.2.2)], Res.cells g5 54 [.one (.bool ((gt x1.1 0).1)), .sl A3 ((gt x1.1 0).2.1).length cp5 (RdS (Ty.int .u8) A3 ((gt x1.1 0).2.1)), .one (.int .i64 ((gt x1.1 0).2.2))]]) (fun _ => rfl) N83 rfl rfl (fun ok => ok) (.cons (.there .here) (.cons .here .nil)) rfl (rlp_writer_fail.ok (x1.1.drop (Int.toNat 1), x1.2) 4 ch_0_0 A2 cp4 t4 et4 _ _) ?_; clear S a w; intro ch5 m le1 a w S
                  refine s_assign S rfl rfl ?_; clear S a; intro a S
                  refine c_end ?_
                  refine wp_ret ?_
                  refine x_blockR ?_
                  refine x_thenR ?_
                  obtain rfl := Option.some.inj h4
                  exact b_ret1 (d := (.sl ch5.1 (t4.1).length ch5.2.1 (RdS (Ty.int .u8) ch5.1 t4.1))) S rfl rfl fun ok => S.retX (Hx := []) hb _ _ ((ch5.1, ch5.2.1, ch5.2.2.1, ch5.2.2.2) : (Option Addr) × Nat × (Option Addr) × Nat) (.cons .here .nil) ok
                · refine c_condF S rfl c9 ?_
                  refine wp_skip ?_
                  refine x_blockN ?_
                  refine x_thenN ?_
                  refine wp_seq (c_heldS S (.take 0 (.take 1 (.take 2 (.take 3 (.take 4 (.take 5 (.take 6 (.take 7 (.take 8 .done))))))))) 9 [Res.cells g5 54 [.one (.bool ((gt x1.1 0).1)), .sl A3 ((gt x1.1 0).2.1).length cp5 (RdS (Ty.int .u8) A3 ((gt x1.1 0).2.1)), .one (.int .i64 ((gt x1.1 0).2.2))], Res.cells ch_0_0 98 [.sl A2 (x1.1.drop (Int.toNat 1)).length cp4 (RdS (Ty.prod Ty.bool (Ty.prod (Ty.slice (Ty.int .u8)) (Ty.int .i64))) A2 (x1.1.drop (Int.toNat 1))), .one (.int .i64 x1.2)]] (.cons .here (.cons .here .nil)) ⟨Res.stay_cells, Res.stay_cells, trivial⟩ [(5, (.v (.pointer (some ⟨g5, 0, none⟩)))), (0, (.v (.pointer (some ⟨ch_0_0, 0, none⟩))))] ⟨rfl, rfl, trivial⟩ (by kernel_rfl) (by kernel_rfl) ?_); clear S; intro w S CL hw le
                  refine h_move S CL hw le ⟨rfl, rfl, trivial⟩ rfl rfl rfl trivial ?_; clear S CL a; intro a S CL
                  refine h_nilchk S CL hw le ⟨rfl, rfl, rfl, trivial⟩ rfl rfl rfl rfl trivial ?_; clear S CL a; intro a S CL
                  refine h_fieldAddr S CL hw le ⟨rfl, rfl, rfl, rfl, trivial⟩ rfl I98_0 T51 (by decide) rfl rfl rfl trivial ?_; clear S CL a; intro a S CL
                  refine h_loadSl S CL hw le ⟨rfl, rfl, rfl, rfl, rfl, trivial⟩ rfl (.there .here) T51 (A := A2) (len := (x1.1.drop (Int.toNat 1)).length) (cap := cp4) rfl rfl rfl trivial ?_; clear S CL a; intro a S CL
                  refine h_lenS S CL hw le ⟨rfl, rfl, rfl, rfl, rfl, rfl, trivial⟩ rfl Tryd.underlying51 rfl rfl trivial ?_; clear S CL a; intro a S CL
                  refine h_fieldAddr S CL hw le ⟨rfl, rfl, rfl, rfl, rfl, rfl, rfl, trivial⟩ rfl I54_2 T3 (by decide) rfl rfl rfl trivial ?_; clear S CL a; intro a S CL
                  refine h_load1 S CL hw le ⟨rfl, rfl, rfl, rfl, rfl, rfl, rfl, rfl, trivial⟩ rfl .here T3 (v := (.int .i64 ((gt x1.1 0).2.2))) rfl rfl rfl trivial ?_; clear S CL a; intro a S CL
                  refine h_bin S CL hw le ⟨rfl, rfl, rfl, rfl, rfl, rfl, rfl, rfl, rfl, trivial⟩ rfl rfl rfl rfl rfl trivial ?_; clear S CL a; intro a S CL
                  refine h_assign S CL hw le ⟨rfl, rfl, rfl, rfl, rfl, rfl, rfl, rfl, rfl, rfl, trivial⟩ rfl rfl rfl trivial ?_; clear S CL a; intro a S CL
                  refine h_done ?_; clear CL hw le
                  refine x_thenN ?_
                  refine c_region ?_
                  refine s_assign S rfl rfl ?_; clear S a; intro a S
                  refine c_end ?_
                  refine wp_seq_k ?_
                  intro K4 hK4
                  have j4 : ∀ (m : Mem) (A5 : Option Addr) (nn1 : Nat) (cp13 : Nat) (y15 : List Int) (A6 : Option Addr) (cp14 : Nat) (y16 : List (Bool × (List Int) × Int)) (y17 : Int) (a : Act) (w : World), St 154 m b0 [(7, (.v (.slice A5 nn1 cp13))), (6, (.v (.int .i64 (wr .i64 (((x1.1.drop (Int.toNat 1)).length : Int) - ((gt x1.1 0).2.2)))))), (0, (.v (.pointer (some ⟨ch_0_0, 0, none⟩))))] [Res.row (Ty.int .u8) 5 A5 nn1 cp13 y15, Res.cells ch_0_0 98 [.sl A6 (y16).length cp14 (RdS (Ty.prod Ty.bool (Ty.prod (Ty.slice (Ty.int .u8)) (Ty.int .i64))) A6 y16), .one (.int .i64 y17)]] a w → rlp_writer_item.j4 k x1 y15 y16 y17 = some r → K4 a w := by
                    intro m A5 nn1 cp13 y15 A6 cp14 y16 y17 a w S h0
                    delta rlp_writer_item.j4 at h0
                    refine hK4 a w ?_
                    refine wp_seq ?_
                    refine c_region ?_
                    refine s_move S rfl rfl ?_; clear S a; intro a S
                    refine s_nilchk S rfl rfl ?_; clear S a; intro a S
                    refine s_fieldAddr S rfl I98_0 T51 (by decide) rfl rfl ?_; clear S a; intro a S
                    refine s_loadSl S rfl (.there .here) T51 (A := A6) (len := (y16).length) (cap := cp14) rfl rfl ?_; clear S a; intro a S
                    refine s_lenS S rfl Tryd.underlying51 rfl ?_; clear S a; intro a S
                    refine s_move S rfl rfl ?_; clear S a; intro a S
                    refine s_bin S rfl rfl rfl rfl ?_; clear S a; intro a S
                    refine c_end ?_
                    rcases ite_of h0 with ⟨c10, h1⟩ | ⟨c10, h1⟩ <;> clear h0
                    · refine c_condT S rfl c10 ?_
                      refine c_region ?_
                      refine s_move S rfl rfl ?_; clear S a; intro a S
                      obtain ⟨t5, et5, h2⟩ := bind_of h1; clear h1
                      refine s_callX S (ds' := [(.v (.pointer (some ⟨ch_0_0, 0, none⟩))), (.v (.int .i64 2))]) (ds := [(.v (.pointer (some ⟨ch_0_0, 0, none⟩))), (.v (.int .i64 2))]) [Res.cells ch_0_0 98 [.sl A6 (y16).length cp14 (RdS (Ty.prod Ty.bool (Ty.prod (Ty.slice (Ty.int .u8)) (Ty.int .i64))) A6 y16), .one (.int .i64 y17)]] [Res.row (Ty.int .u8) 5 A5 nn1 cp13 y15] (fun (ch : (Option Addr) × Nat × (Option Addr) × Nat) => ((.sl ch.1 (t5.1).length ch.2.1 (RdS (Ty.int .u8) ch.1 t5.1)) : D)) (fun (ch : (Option Addr) × Nat × (Option Addr) × Nat) => [Res.cells ch_0_0 98 [.sl ch.2.2.1 (t5.2.1).length ch.2.2.2 (RdS (Ty.prod Ty.bool (Ty.prod (Ty.slice (Ty.int .u8)) (Ty.int .i64))) ch.2.2.1 t5.2.1), .one (.int .i64 t5.2.2)]]) (fun (ch : (Option Addr) × Nat × (Option Addr) × Nat) => [Res.cells ch_0_0 98 [.sl ch.2.2.1 (t5.2.1).length ch.2.2.2 (RdS (Ty.prod Ty.bool (Ty.prod (Ty.slice (Ty.int .u8)) (Ty.int .i64))) ch.2.2.1 t5.2.1), .one (.int .i64 t5.2.2)], Res.row (Ty.int .u8) 5 A5 nn1 cp13 y15]) (fun _ => rfl) N83 rfl rfl (fun ok => ok) (.cons (.there .here) (.cons .here .nil)) rfl (rlp_writer_fail.ok (y16, y17) 2 ch_0_0 A6 cp14 t5 et5 _ _) ?_; clear S a w; intro ch6 m le1 a w S
                      refine s_assign S rfl rfl ?_; clear S a; intro a S
                      refine c_end ?_
                      refine wp_ret ?_
                      refine x_thenR ?_
                      obtain rfl := Option.some.inj h2
                      exact b_ret1 (d := (.sl ch6.1 (t5.1).length ch6.2.1 (RdS (Ty.int .u8) ch6.1 t5.1))) S rfl rfl fun ok => S.retX (Hx := []) hb _ _ ((ch6.1, ch6.2.1, ch6.2.2.1, ch6.2.2.2) : (Option Addr) × Nat × (Option Addr) × Nat) (.cons .here .nil) ok
                    · refine c_condF S rfl c10 ?_
                      refine wp_skip ?_
                      refine x_thenN ?_
                      refine c_region ?_
                      refine s_move S rfl rfl ?_; clear S a; intro a S
                      refine s_lenO S rfl .here Tryd.underlying37 rfl ?_; clear S a; intro a S
                      obtain ⟨t6, et6, h2⟩ := bind_of h1; clear h1
                      refine s_callR S (fun (ch : (Option Addr) × Nat × Nat) => ((.v (.slice ch.1 ch.2.1 ch.2.2)) : D)) (fun (ch : (Option Addr) × Nat × Nat) => Res.row (Ty.int .u8) 5 ch.1 ch.2.1 ch.2.2 t6) N84 rfl rfl (rlp_head.ok k ((y15).length : Int) 64 t6 et6 _ _) ?_; clear S a w; intro ch7 m le1 a w S
                      refine s_move S rfl rfl ?_; clear S a; intro a S
                      obtain ⟨c11, h3⟩ := chk_of h2; clear h2
                      refine s_app S (k2 := nn1) (ys := y15) rfl (fun _ _ => .here) rfl rfl (S.holds _ (Pull.mem (.there .here)).1).1 (Res.row.src (S.holds _ (Pull.mem (.there .here)).1)) Tryd.underlying37 J5 c11 rfl ?_; clear S a w; intro A7 cp15 a w S
                      refine s_assign S rfl rfl ?_; clear S a; intro a S
                      refine c_end ?_
                      refine wp_ret ?_
                      replace S := S.rowfro .here
                      obtain ⟨m, le1, S, hro⟩ := S
                      replace S := S.slotro (u := 4) rfl hro
                      replace S := S.slotro (u := 153) rfl hro
                      obtain rfl := Option.some.inj h3
                      exact b_ret1 (d := (.sl A7 (t6 ++ y15).length cp15 (RdS (Ty.int .u8) A7 (t6 ++ y15)))) S rfl rfl fun ok => S.retX (Hx := []) hb _ _ ((A7, cp15, A6, cp14) : (Option Addr) × Nat × (Option Addr) × Nat) (.cons (.there .here) .nil) ok
                  refine wp_block ?_
                  replace S := S.nilrow (Ty.int .u8) 5
                  refine c_loop (fun q1 a w => ∃ (m : Mem) (A8 : Option Addr) (nn3 : Nat) (cp20 : Nat) (y23 : List Int) (A9 : Option Addr) (cp21 : Nat) (y24 : List (Bool × (List Int) × Int)) (y25 : Int), St 154 m b0 [(7, (.v (.slice A8 nn3 cp20))), (6, (.v (.int .i64 (wr .i64 (((x1.1.drop (Int.toNat 1)).length : Int) - ((gt x1.1 0).2.2)))))), (0, (.v (.pointer (some ⟨ch_0_0, 0, none⟩)))), (1, (.v (.int .i64 x2)))] [Res.row (Ty.int .u8) 5 A8 nn3 cp20 y23, Res.cells ch_0_0 98 [.sl A9 (y24).length cp21 (RdS (Ty.prod Ty.bool (Ty.prod (Ty.slice (Ty.int .u8)) (Ty.int .i64))) A9 y24), .one (.int .i64 y25)]] a w ∧ rlp_writer_item.l1 k self0 x1 x2 q1 y23 y24 y25 = some r) ?_ ?_ (k := k) ⟨_, none, 0, 0, ([] : List Int), A2, cp4, (x1.1.drop (Int.toNat 1)), x1.2, (S.sub ⟨rfl, rfl, rfl, rfl, trivial⟩ (.cons .here (.cons (.there .here) .nil))), h3⟩
                  · rintro a w ⟨m, A8, nn3, cp20, y23, A9, cp21, y24, y25, S, h0⟩
                    exact (nomatch (show (none : Option ((List Int) × ((List (Bool × (List Int) × Int)) × Int))) = some r from h0))
                  · clear S h3
                    rintro q1 a w ⟨m, A8, nn3, cp20, y23, A9, cp21, y24, y25, S, h0⟩
                    replace h0 : rlp_writer_item.b1 k self0 x1 x2 (rlp_writer_item.l1 k self0 x1 x2 q1) y23 y24 y25 = some r := h0
                    delta rlp_writer_item.b1 at h0
                    refine wp_seq ?_
                    refine wp_seq_k ?_
                    intro K5 hK5
                    have j5 : ∀ (m : Mem) (y26 : Bool) (a : Act) (w : World), St 154 m b0 [(128, (.v (.bool y26))), (7, (.v (.slice A8 nn3 cp20))), (6, (.v (.int .i64 (wr .i64 (((x1.1.drop (Int.toNat 1)).length : Int) - ((gt x1.1 0).2.2)))))), (0, (.v (.pointer (some ⟨ch_0_0, 0, none⟩)))), (1, (.v (.int .i64 x2)))] [Res.row (Ty.int .u8) 5 A8 nn3 cp20 y23, Res.cells ch_0_0 98 [.sl A9 (y24).length cp21 (RdS (Ty.prod Ty.bool (Ty.prod (Ty.slice (Ty.int .u8)) (Ty.int .i64))) A9 y24), .one (.int .i64 y25)]] a w → rlp_writer_item.j5 k self0 x1 x2 y23 y24 y25 (rlp_writer_item.l1 k self0 x1 x2 q1) y26 = some r → K5 a w := by
                      intro m y26 a w S h0
                      delta rlp_writer_item.j5 at h0
                      refine hK5 a w ?_
                      rcases ite_of h0 with ⟨c12, h1⟩ | ⟨c12, h1⟩ <;> clear h0
                      · refine c_condT S rfl c12 ?_
                        refine wp_skip ?_
                        refine x_thenN ?_
                        refine wp_block ?_
                        refine c_region ?_
                        refine s_move S rfl rfl ?_; clear S a; intro a S
                        refine s_move S rfl rfl ?_; clear S a; intro a S
                        refine s_move S rfl rfl ?_; clear S a; intro a S
                        refine s_bin S rfl rfl rfl rfl ?_; clear S a; intro a S
                        obtain ⟨t9, et9, h2⟩ := bind_of h1; clear h1
                        refine s_callX S (ds' := [(.v (.pointer (some ⟨ch_0_0, 0, none⟩))), (.v (.int .i64 (wr .i64 (x2 + 1))))]) (ds := [(.v (.pointer (some ⟨ch_0_0, 0, none⟩))), (.v (.int .i64 (wr .i64 (x2 + 1))))]) [Res.cells ch_0_0 98 [.sl A9 (y24).length cp21 (RdS (Ty.prod Ty.bool (Ty.prod (Ty.slice (Ty.int .u8)) (Ty.int .i64))) A9 y24), .one (.int .i64 y25)]] [Res.row (Ty.int .u8) 5 A8 nn3 cp20 y23] (fun (ch : (Option Addr) × Nat × (Option Addr) × Nat) => ((.sl ch.1 (t9.1).length ch.2.1 (RdS (Ty.int .u8) ch.1 t9.1)) : D)) (fun (ch : (Option Addr) × Nat × (Option Addr) × Nat) => [Res.cells ch_0_0 98 [.sl ch.2.2.1 (t9.2.1).length ch.2.2.2 (RdS (Ty.prod Ty.bool (Ty.prod (Ty.slice (Ty.int .u8)) (Ty.int .i64))) ch.2.2.1 t9.2.1), .one (.int .i64 t9.2.2)]]) (fun (ch : (Option Addr) × Nat × (Option Addr) × Nat) => [Res.cells ch_0_0 98 [.sl ch.2.2.1 (t9.2.1).length ch.2.2.2 (RdS (Ty.prod Ty.bool (Ty.prod (Ty.slice (Ty.int .u8)) (Ty.int .i64))) ch.2.2.1 t9.2.1), .one (.int .i64 t9.2.2)], Res.row (Ty.int .u8) 5 A8 nn3 cp20 y23]) (fun _ => rfl) N68 rfl rfl (fun ok => ok) (.cons (.there .here) (.cons .here .nil)) rfl (c_0 (y24, y25) (wr .i64 (x2 + 1)) ch_0_0 A9 cp21 t9 et9 _ _) ?_; clear S a w; intro ch10 m le1 a w S
                        obtain ⟨c13, h3⟩ := chk_of h2; clear h2
                        refine s_app S (k2 := ((t9.1).length)) (ys := t9.1) rfl (fun _ _ => (.there .here)) rfl rfl rfl (RdS.src (S.get 133 (.sl ch10.1 (t9.1).length ch10.2.1 (RdS (Ty.int .u8) ch10.1 t9.1)) rfl).2.2.2.1 (by decide) S.frz) Tryd.underlying37 J5 c13 rfl ?_; clear S a w; intro A10 cp22 a w S
                        refine s_assign S rfl rfl ?_; clear S a; intro a S
                        refine c_end ?_
                        refine c_region ?_
                        refine s_move S rfl rfl ?_; clear S a; intro a S
                        refine s_lenO S rfl (.there .here) Tryd.underlying37 rfl ?_; clear S a; intro a S
                        refine s_bin S rfl rfl rfl rfl ?_; clear S a; intro a S
                        refine c_end ?_
                        rcases ite_of h3 with ⟨c14, h4⟩ | ⟨c14, h4⟩ <;> clear h3
                        · refine c_condT S rfl c14 ?_
                          refine c_region ?_
                          refine s_move S rfl rfl ?_; clear S a; intro a S
                          obtain ⟨t10, et10, h5⟩ := bind_of h4; clear h4
                          refine s_callX S (ds' := [(.v (.pointer (some ⟨ch_0_0, 0, none⟩))), (.v (.int .i64 4))]) (ds := [(.v (.pointer (some ⟨ch_0_0, 0, none⟩))), (.v (.int .i64 4))]) [Res.cells ch_0_0 98 [.sl ch10.2.2.1 (t9.2.1).length ch10.2.2.2 (RdS (Ty.prod Ty.bool (Ty.prod (Ty.slice (Ty.int .u8)) (Ty.int .i64))) ch10.2.2.1 t9.2.1), .one (.int .i64 t9.2.2)]] [Res.row (Ty.int .u8) 5 A10 (nn3 + ((t9.1).length)) cp22 (y23 ++ t9.1)] (fun (ch : (Option Addr) × Nat × (Option Addr) × Nat) => ((.sl ch.1 (t10.1).length ch.2.1 (RdS (Ty.int .u8) ch.1 t10.1)) : D)) (fun (ch : (Option Addr) × Nat × (Option Addr) × Nat) => [Res.cells ch_0_0 98 [.sl ch.2.2.1 (t10.2.1).length ch.2.2.2 (RdS (Ty.prod Ty.bool (Ty.prod (Ty.slice (Ty.int .u8)) (Ty.int .i64))) ch.2.2.1 t10.2.1), .one (.int .i64 t10.2.2)]]) (fun (ch : (Option Addr) × Nat × (Option Addr) × Nat) => [Res.cells ch_0_0 98 [.sl ch.2.2.1 (t10.2.1).length ch.2.2.2 (RdS (Ty.prod Ty.bool (Ty.prod (Ty.slice (Ty.int .u8)) (Ty.int .i64))) ch.2.2.1 t10.2.1), .one (.int .i64 t10.2.2)], Res.row (Ty.int .u8) 5 A10 (nn3 + ((t9.1).length)) cp22 (y23 ++ t9.1)]) (fun _ => rfl) N83 rfl rfl (fun ok => ok) (.cons .here (.cons .here .nil)) rfl (rlp_writer_fail.ok (t9.2.1, t9.2.2) 4 ch_0_0 ch10.2.2.1 ch10.2.2.2 t10 et10 _ _) ?_; clear S a w; intro ch11 m le1 a w S
                          refine s_assign S rfl rfl ?_; clear S a; intro a S
                          refine c_end ?_
                          refine wp_ret ?_
                          refine x_blockR ?_
                          refine x_thenR ?_
                          refine x_blockR ?_
                          refine x_thenR ?_
                          obtain rfl := Option.some.inj h5
                          exact b_ret1 (d := (.sl ch11.1 (t10.1).length ch11.2.1 (RdS (Ty.int .u8) ch11.1 t10.1))) S rfl rfl fun ok => S.retX (Hx := []) hb _ _ ((ch11.1, ch11.2.1, ch11.2.2.1, ch11.2.2.2) : (Option Addr) × Nat × (Option Addr) × Nat) (.cons .here .nil) ok
                        · refine c_condF S rfl c14 ?_
                          refine wp_skip ?_
                          refine x_blockN ?_
                          refine x_thenN ?_
                          exact ⟨_, A10, (nn3 + ((t9.1).length)), cp22, (y23 ++ t9.1), ch10.2.2.1, ch10.2.2.2, t9.2.1, t9.2.2, (S.sub ⟨rfl, rfl, rfl, rfl, trivial⟩ (.cons (.there .here) (.cons .here .nil))), h4⟩
                      · refine c_condF S rfl c12 ?_
                        refine wp_exit ?_
                        refine x_thenX ?_
                        refine x_thenX ?_
                        refine x_blockX ?_
                        refine x_thenN ?_
                        exact j4 _ A8 nn3 cp20 y23 A9 cp21 y24 y25 a w (S.sub ⟨rfl, rfl, rfl, trivial⟩ (.cons .here (.cons .here .nil))) h1
                    refine c_region' ?_
                    refine s_move S rfl rfl ?_; clear S a; intro a S
                    refine s_nilchk S rfl rfl ?_; clear S a; intro a S
                    refine s_fieldAddr S rfl I98_0 T51 (by decide) rfl rfl ?_; clear S a; intro a S
                    refine s_loadSl S rfl (.there .here) T51 (A := A9) (len := (y24).length) (cap := cp21) rfl rfl ?_; clear S a; intro a S
                    refine s_lenS S rfl Tryd.underlying51 rfl ?_; clear S a; intro a S
                    refine s_move S rfl rfl ?_; clear S a; intro a S
                    refine s_bin S rfl rfl rfl rfl ?_; clear S a; intro a S
                    refine s_move S rfl rfl ?_; clear S a; intro a S
                    rcases ite_of h0 with ⟨c15, h1⟩ | ⟨c15, h1⟩ <;> clear h0
                    · refine s_gT S (b := (decide ((wr .i64 (((x1.1.drop (Int.toNat 1)).length : Int) - ((gt x1.1 0).2.2))) < ((y24).length : Int)))) rfl rfl c15 ?_
                      refine s_move S rfl rfl ?_; clear S a; intro a S
                      refine s_gT S (b := (decide ((wr .i64 (((x1.1.drop (Int.toNat 1)).length : Int) - ((gt x1.1 0).2.2))) < ((y24).length : Int)))) rfl rfl c15 ?_
                      refine s_nilchk S rfl rfl ?_; clear S a; intro a S
                      refine s_gT S (b := (decide ((wr .i64 (((x1.1.drop (Int.toNat 1)).length : Int) - ((gt x1.1 0).2.2))) < ((y24).length : Int)))) rfl rfl c15 ?_
                      refine s_fieldAddr S rfl I98_1 T73 (by decide) rfl rfl ?_; clear S a; intro a S
                      refine s_gT S (b := (decide ((wr .i64 (((x1.1.drop (Int.toNat 1)).length : Int) - ((gt x1.1 0).2.2))) < ((y24).length : Int)))) rfl rfl c15 ?_
                      refine s_load1 S rfl (.there .here) T73 (v := (.int .i64 y25)) rfl rfl ?_; clear S a; intro a S
                      refine s_gT S (b := (decide ((wr .i64 (((x1.1.drop (Int.toNat 1)).length : Int) - ((gt x1.1 0).2.2))) < ((y24).length : Int)))) rfl rfl c15 ?_
                      refine s_bin S rfl rfl rfl rfl ?_; clear S a; intro a S
                      refine s_pick S (b := true) (hc_of rfl c15) rfl rfl ?_; clear S a; intro a S
                      refine c_end' ?_
                      refine x_thenN ?_
                      exact j5 _ (y25 == 0) a w (S.sub ⟨rfl, rfl, rfl, rfl, rfl, trivial⟩ (.cons .here (.cons .here .nil))) h1
                    · refine s_gF S (b := (decide ((wr .i64 (((x1.1.drop (Int.toNat 1)).length : Int) - ((gt x1.1 0).2.2))) < ((y24).length : Int)))) rfl rfl c15 rfl ?_; clear S a; intro a S
                      refine s_gF S (b := (decide ((wr .i64 (((x1.1.drop (Int.toNat 1)).length : Int) - ((gt x1.1 0).2.2))) < ((y24).length : Int)))) rfl rfl c15 rfl ?_; clear S a; intro a S
                      refine s_gF S (b := (decide ((wr .i64 (((x1.1.drop (Int.toNat 1)).length : Int) - ((gt x1.1 0).2.2))) < ((y24).length : Int)))) rfl rfl c15 rfl ?_; clear S a; intro a S
                      refine s_gF S (b := (decide ((wr .i64 (((x1.1.drop (Int.toNat 1)).length : Int) - ((gt x1.1 0).2.2))) < ((y24).length : Int)))) rfl rfl c15 rfl ?_; clear S a; intro a S
                      refine s_gF S (b := (decide ((wr .i64 (((x1.1.drop (Int.toNat 1)).length : Int) - ((gt x1.1 0).2.2))) < ((y24).length : Int)))) rfl rfl c15 rfl ?_; clear S a; intro a S
                      refine s_pick S (b := false) (hc_of rfl c15) rfl rfl ?_; clear S a; intro a S
                      refine c_end' ?_
                      refine x_thenN ?_
                      exact j5 _ false a w (S.sub ⟨rfl, rfl, rfl, rfl, rfl, trivial⟩ (.cons .here (.cons .here .nil))) h1
          refine c_region' ?_
          refine s_fieldAddr S rfl I54_0 T4 (by decide) rfl rfl ?_; clear S a; intro a S
          refine s_load1 S rfl .here T4 (v := (.bool ((gt x1.1 0).1))) rfl rfl ?_; clear S a; intro a S
          refine s_not S rfl rfl ?_; clear S a; intro a S
          refine s_move S rfl rfl ?_; clear S a; intro a S
          rcases ite_of h1 with ⟨c16, h2⟩ | ⟨c16, h2⟩ <;> clear h1
          · refine s_gT S (b := (!((gt x1.1 0).1))) rfl rfl c16 ?_
            refine s_fieldAddr S rfl I54_1 T37 (by decide) rfl rfl ?_; clear S a; intro a S
            refine s_gT S (b := (!((gt x1.1 0).1))) rfl rfl c16 ?_
            refine s_loadSl S rfl .here T37 (A := A3) (len := ((gt x1.1 0).2.1).length) (cap := cp5) rfl rfl ?_; clear S a; intro a S
            refine s_gT S (b := (!((gt x1.1 0).1))) rfl rfl c16 ?_
            refine s_lenS S rfl Tryd.underlying37 rfl ?_; clear S a; intro a S
            refine s_gT S (b := (!((gt x1.1 0).1))) rfl rfl c16 ?_
            refine s_bin S rfl rfl rfl rfl ?_; clear S a; intro a S
            refine s_pick S (b := true) (hc_of rfl c16) rfl rfl ?_; clear S a; intro a S
            refine s_move S rfl rfl ?_; clear S a; intro a S
            rcases ite_of h2 with ⟨c17, h3⟩ | ⟨c17, h3⟩ <;> clear h2
            · refine s_gT S (b := ((((gt x1.1 0).2.1).length : Int) == 1)) rfl rfl c17 ?_
              refine s_fieldAddr S rfl I54_1 T37 (by decide) rfl rfl ?_; clear S a; intro a S
              refine s_gT S (b := ((((gt x1.1 0).2.1).length : Int) == 1)) rfl rfl c17 ?_
              refine s_loadSl S rfl .here T37 (A := A3) (len := ((gt x1.1 0).2.1).length) (cap := cp5) rfl rfl ?_; clear S a; intro a S
              refine s_gT S (b := ((((gt x1.1 0).2.1).length : Int) == 1)) rfl rfl c17 ?_
              obtain ⟨c18, h4⟩ := chk_of h3; clear h3
              refine s_iaddrS S rfl rfl rfl Tryd.underlying37 T5 c18.1 c18.2 rfl ?_; clear S a; intro p4 a S
              refine s_gT S (b := ((((gt x1.1 0).2.1).length : Int) == 1)) rfl rfl c17 ?_
              refine s_ld1 S (v := (.int .u8 (rd ((gt x1.1 0).2.1) 0))) rfl T5 (fun _ => rfl) rfl ?_; clear S a; intro a S
              refine s_gT S (b := ((((gt x1.1 0).2.1).length : Int) == 1)) rfl rfl c17 ?_
              refine s_bin S rfl rfl rfl rfl ?_; clear S a; intro a S
              refine s_pick S (b := true) (hc_of rfl c17) rfl rfl ?_; clear S a; intro a S
              refine s_assign S rfl rfl ?_; clear S a; intro a S
              refine c_end' ?_
              refine x_thenN ?_
              exact j3 _ (decide ((rd ((gt x1.1 0).2.1) 0) < 128)) g4 a w (S.sub ⟨rfl, rfl, rfl, rfl, trivial⟩ (.cons .here (.cons .here .nil))) h4
            · refine s_gF S (b := ((((gt x1.1 0).2.1).length : Int) == 1)) rfl rfl c17 rfl ?_; clear S a; intro a S
              refine s_gF S (b := ((((gt x1.1 0).2.1).length : Int) == 1)) rfl rfl c17 rfl ?_; clear S a; intro a S
              refine s_gF S (b := ((((gt x1.1 0).2.1).length : Int) == 1)) rfl rfl c17 rfl ?_; clear S a; intro a S
              refine s_gF S (b := ((((gt x1.1 0).2.1).length : Int) == 1)) rfl rfl c17 rfl ?_; clear S a; intro a S
              refine s_gF S (b := ((((gt x1.1 0).2.1).length : Int) == 1)) rfl rfl c17 rfl ?_; clear S a; intro a S
              refine s_pick S (b := false) (hc_of rfl c17) rfl rfl ?_; clear S a; intro a S
              refine s_assign S rfl rfl ?_; clear S a; intro a S
              refine c_end' ?_
              refine x_thenN ?_
              exact j3 _ false g4 a w (S.sub ⟨rfl, rfl, rfl, rfl, trivial⟩ (.cons .here (.cons .here .nil))) h3
          · refine s_gF S (b := (!((gt x1.1 0).1))) rfl rfl c16 rfl ?_; clear S a; intro a S
            refine s_gF S (b := (!((gt x1.1 0).1))) rfl rfl c16 rfl ?_; clear S a; intro a S
            refine s_gF S (b := (!((gt x1.1 0).1))) rfl rfl c16 rfl ?_; clear S a; intro a S
            refine s_gF S (b := (!((gt x1.1 0).1))) rfl rfl c16 rfl ?_; clear S a; intro a S
            refine s_pick S (b := false) (hc_of rfl c16) rfl rfl ?_; clear S a; intro a S
            refine s_move S rfl rfl ?_; clear S a; intro a S
            refine s_gF S (b := false) rfl rfl rfl rfl ?_; clear S a; intro a S
            refine s_gF S (b := false) rfl rfl rfl rfl ?_; clear S a; intro a S
            refine s_gF S (b := false) rfl rfl rfl rfl ?_; clear S a; intro a S
            refine s_gF S (b := false) rfl rfl rfl rfl ?_; clear S a; intro a S
            refine s_gF S (b := false) rfl rfl rfl rfl ?_; clear S a; intro a S
            refine s_pick S (b := false) (hc_of rfl rfl) rfl rfl ?_; clear S a; intro a S
            refine s_assign S rfl rfl ?_; clear S a; intro a S
            refine c_end' ?_
            refine x_thenN ?_
            exact j3 _ false g4 a w (S.sub ⟨rfl, rfl, rfl, rfl, trivial⟩ (.cons .here (.cons .here .nil))) h2
      refine wp_seq_k ?_
      intro K6 hK6
      have j6 : ∀ (m : Mem) (y27 : Bool) (g7 : Nat) (A11 : Option Addr) (cp23 : Nat) (A12 : Option Addr) (cp24 : Nat) (a : Act) (w : World), St 154 m b0 [(37, (.v (.bool y27))), (5, (.v (.pointer (some ⟨g7, 0, none⟩)))), (0, (.v (.pointer (some ⟨ch_0_0, 0, none⟩)))), (1, (.v (.int .i64 x2)))] [Res.cells g7 54 [.one (.bool ((gt x1.1 0).1)), .sl A12 ((gt x1.1 0).2.1).length cp24 (RdS (Ty.int .u8) A12 ((gt x1.1 0).2.1)), .one (.int .i64 ((gt x1.1 0).2.2))], Res.cells ch_0_0 98 [.sl A11 (x1.1.drop (Int.toNat 1)).length cp23 (RdS (Ty.prod Ty.bool (Ty.prod (Ty.slice (Ty.int .u8)) (Ty.int .i64))) A11 (x1.1.drop (Int.toNat 1))), .one (.int .i64 x1.2)]] a w → rlp_writer_item.j6 k self0 x1 x2 y27 = some r → K6 a w := by
        intro m y27 g7 A11 cp23 A12 cp24 a w S h0
        delta rlp_writer_item.j6 at h0
        refine hK6 a w ?_
        rcases ite_of h0 with ⟨c19, h1⟩ | ⟨c19, h1⟩ <;> clear h0
        · refine c_condT S rfl c19 ?_
          refine wp_skip ?_
          refine x_thenN ?_
          exact j2 _ y27 g7 A11 cp23 A12 cp24 a w (S.sub ⟨rfl, rfl, rfl, rfl, trivial⟩ (.cons .here (.cons .here .nil))) h1
        · refine c_condF S rfl c19 ?_
          refine wp_seq_k ?_
          intro K7 hK7
          have j7 : ∀ (m : Mem) (y28 : Bool) (g8 : Nat) (a : Act) (w : World), St 154 m b0 [(37, (.v (.bool y28))), (5, (.v (.pointer (some ⟨g8, 0, none⟩)))), (0, (.v (.pointer (some ⟨ch_0_0, 0, none⟩)))), (1, (.v (.int .i64 x2)))] [Res.cells g8 54 [.one (.bool ((gt x1.1 0).1)), .sl A12 ((gt x1.1 0).2.1).length cp24 (RdS (Ty.int .u8) A12 ((gt x1.1 0).2.1)), .one (.int .i64 ((gt x1.1 0).2.2))], Res.cells ch_0_0 98 [.sl A11 (x1.1.drop (Int.toNat 1)).length cp23 (RdS (Ty.prod Ty.bool (Ty.prod (Ty.slice (Ty.int .u8)) (Ty.int .i64))) A11 (x1.1.drop (Int.toNat 1))), .one (.int .i64 x1.2)]] a w → rlp_writer_item.j7 k self0 x1 x2 y28 = some r → K7 a w := by
            intro m y28 g8 a w S h0
            delta rlp_writer_item.j7 at h0
            refine hK7 a w ?_
            rcases ite_of h0 with ⟨c20, h1⟩ | ⟨c20, h1⟩ <;> clear h0
            · refine c_condT S rfl c20 ?_
              refine wp_skip ?_
              refine x_thenN ?_
              exact j2 _ y28 g8 A11 cp23 A12 cp24 a w (S.sub ⟨rfl, rfl, rfl, rfl, trivial⟩ (.cons .here (.cons .here .nil))) h1
            · refine c_condF S rfl c20 ?_
              refine c_heldS S (.take 0 (.take 1 (.take 2 (.take 3 (.take 4 (.take 5 (.take 6 (.take 7 (.take 8 (.take 9 (.take 10 (.take 11 (.take 12 (.take 13 .done)))))))))))))) 14 [Res.cells g8 54 [.one (.bool ((gt x1.1 0).1)), .sl A12 ((gt x1.1 0).2.1).length cp24 (RdS (Ty.int .u8) A12 ((gt x1.1 0).2.1)), .one (.int .i64 ((gt x1.1 0).2.2))], Res.cells ch_0_0 98 [.sl A11 (x1.1.drop (Int.toNat 1)).length cp23 (RdS (Ty.prod Ty.bool (Ty.prod (Ty.slice (Ty.int .u8)) (Ty.int .i64))) A11 (x1.1.drop (Int.toNat 1))), .one (.int .i64 x1.2)]] (.cons .here (.cons .here .nil)) ⟨Res.stay_cells, Res.stay_cells, trivial⟩ [(5, (.v (.pointer (some ⟨g8, 0, none⟩)))), (0, (.v (.pointer (some ⟨ch_0_0, 0, none⟩))))] ⟨rfl, rfl, trivial⟩ (by kernel_rfl) (by kernel_rfl) ?_; clear S; intro w S CL hw le
              refine h_fieldAddr S CL hw le ⟨rfl, rfl, trivial⟩ rfl I54_2 T3 (by decide) rfl rfl rfl trivial ?_; clear S CL a; intro a S CL
              refine h_load1 S CL hw le ⟨rfl, rfl, rfl, trivial⟩ rfl .here T3 (v := (.int .i64 ((gt x1.1 0).2.2))) rfl rfl rfl trivial ?_; clear S CL a; intro a S CL
              refine h_bin S CL hw le ⟨rfl, rfl, rfl, rfl, trivial⟩ rfl rfl rfl rfl rfl trivial ?_; clear S CL a; intro a S CL
              refine h_move S CL hw le ⟨rfl, rfl, rfl, rfl, rfl, trivial⟩ rfl rfl rfl trivial ?_; clear S CL a; intro a S CL
              rcases ite_of h1 with ⟨c21, h2⟩ | ⟨c21, h2⟩ <;> clear h1
              · refine h_skip S CL rfl rfl rfl (ne_bool c21) rfl ?_; clear S CL a; intro a S CL
                refine h_skip S CL rfl rfl rfl (ne_bool c21) rfl ?_; clear S CL a; intro a S CL
                refine h_skip S CL rfl rfl rfl (ne_bool c21) rfl ?_; clear S CL a; intro a S CL
                refine h_skip S CL rfl rfl rfl (ne_bool c21) rfl ?_; clear S CL a; intro a S CL
                refine h_skip S CL rfl rfl rfl (ne_bool c21) rfl ?_; clear S CL a; intro a S CL
                refine h_skip S CL rfl rfl rfl (ne_bool c21) rfl ?_; clear S CL a; intro a S CL
                refine h_skip S CL rfl rfl rfl (ne_bool c21) rfl ?_; clear S CL a; intro a S CL
                refine h_skip S CL rfl rfl rfl (ne_bool c21) rfl ?_; clear S CL a; intro a S CL
                refine h_pick S CL hw le ⟨rfl, rfl, rfl, rfl, rfl, rfl, rfl, rfl, rfl, rfl, rfl, rfl, rfl, rfl, trivial⟩ (b := true) (hc_of rfl c21) rfl rfl rfl trivial ?_; clear S CL a; intro a S CL
                refine h_assign S CL hw le ⟨rfl, rfl, rfl, rfl, rfl, rfl, rfl, rfl, rfl, rfl, rfl, rfl, rfl, rfl, rfl, trivial⟩ rfl rfl rfl trivial ?_; clear S CL a; intro a S CL
                refine h_done ?_; clear CL hw le
                refine x_thenN ?_
                exact j2 _ true g8 A11 cp23 A12 cp24 a w (S.sub ⟨rfl, rfl, rfl, rfl, trivial⟩ (.cons .here (.cons .here .nil))) h2
              · refine h_fieldAddr S CL hw le ⟨rfl, rfl, rfl, rfl, rfl, rfl, trivial⟩ rfl I54_2 T3 (by decide) rfl rfl rfl ⟨_, _, rfl, rfl, c21⟩ ?_; clear S CL a; intro a S CL
                refine h_load1 S CL hw le ⟨rfl, rfl, rfl, rfl, rfl, rfl, rfl, trivial⟩ rfl .here T3 (v := (.int .i64 ((gt x1.1 0).2.2))) rfl rfl rfl ⟨_, _, rfl, rfl, c21⟩ ?_; clear S CL a; intro a S CL
                refine h_move S CL hw le ⟨rfl, rfl, rfl, rfl, rfl, rfl, rfl, rfl, trivial⟩ rfl rfl rfl ⟨_, _, rfl, rfl, c21⟩ ?_; clear S CL a; intro a S CL
                refine h_nilchk S CL hw le ⟨rfl, rfl, rfl, rfl, rfl, rfl, rfl, rfl, rfl, trivial⟩ rfl rfl rfl rfl ⟨_, _, rfl, rfl, c21⟩ ?_; clear S CL a; intro a S CL
                refine h_fieldAddr S CL hw le ⟨rfl, rfl, rfl, rfl, rfl, rfl, rfl, rfl, rfl, rfl, trivial⟩ rfl I98_0 T51 (by decide) rfl rfl rfl ⟨_, _, rfl, rfl, c21⟩ ?_; clear S CL a; intro a S CL
                refine h_loadSl S CL hw le ⟨rfl, rfl, rfl, rfl, rfl, rfl, rfl, rfl, rfl, rfl, rfl, trivial⟩ rfl (.there .here) T51 (A := A11) (len := (x1.1.drop (Int.toNat 1)).length) (cap := cp23) rfl rfl rfl ⟨_, _, rfl, rfl, c21⟩ ?_; clear S CL a; intro a S CL
                refine h_lenS S CL hw le ⟨rfl, rfl, rfl, rfl, rfl, rfl, rfl, rfl, rfl, rfl, rfl, rfl, trivial⟩ rfl Tryd.underlying51 rfl rfl ⟨_, _, rfl, rfl, c21⟩ ?_; clear S CL a; intro a S CL
                refine h_bin S CL hw le ⟨rfl, rfl, rfl, rfl, rfl, rfl, rfl, rfl, rfl, rfl, rfl, rfl, rfl, trivial⟩ rfl rfl rfl rfl rfl ⟨_, _, rfl, rfl, c21⟩ ?_; clear S CL a; intro a S CL
                refine h_pick S CL hw le ⟨rfl, rfl, rfl, rfl, rfl, rfl, rfl, rfl, rfl, rfl, rfl, rfl, rfl, rfl, trivial⟩ (b := false) (hc_of rfl c21) rfl rfl rfl trivial ?_; clear S CL a; intro a S CL
                refine h_assign S CL hw le ⟨rfl, rfl, rfl, rfl, rfl, rfl, rfl, rfl, rfl, rfl, rfl, rfl, rfl, rfl, rfl, trivial⟩ rfl rfl rfl trivial ?_; clear S CL a; intro a S CL
                refine h_done ?_; clear CL hw le
                refine x_thenN ?_
                exact j2 _ (decide (((x1.1.drop (Int.toNat 1)).length : Int) < ((gt x1.1 0).2.2))) g8 A11 cp23 A12 cp24 a w (S.sub ⟨rfl, rfl, rfl, rfl, trivial⟩ (.cons .here (.cons .here .nil))) h2
          refine c_region' ?_
          refine s_fieldAddr S rfl I54_0 T4 (by decide) rfl rfl ?_; clear S a; intro a S
          refine s_load1 S rfl .here T4 (v := (.bool ((gt x1.1 0).1))) rfl rfl ?_; clear S a; intro a S
          refine s_move S rfl rfl ?_; clear S a; intro a S
          rcases ite_of h1 with ⟨c22, h2⟩ | ⟨c22, h2⟩ <;> clear h1
          · refine s_gT S (b := ((gt x1.1 0).1)) rfl rfl c22 ?_
            refine s_fieldAddr S rfl I54_1 T37 (by decide) rfl rfl ?_; clear S a; intro a S
            refine s_gT S (b := ((gt x1.1 0).1)) rfl rfl c22 ?_
            refine s_loadSl S rfl .here T37 (A := A12) (len := ((gt x1.1 0).2.1).length) (cap := cp24) rfl rfl ?_; clear S a; intro a S
            refine s_gT S (b := ((gt x1.1 0).1)) rfl rfl c22 ?_
            refine s_lenS S rfl Tryd.underlying37 rfl ?_; clear S a; intro a S
            refine s_gT S (b := ((gt x1.1 0).1)) rfl rfl c22 ?_
            refine s_bin S rfl rfl rfl rfl ?_; clear S a; intro a S
            refine s_pick S (b := true) (hc_of rfl c22) rfl rfl ?_; clear S a; intro a S
            refine s_assign S rfl rfl ?_; clear S a; intro a S
            refine c_end' ?_
            refine x_thenN ?_
            exact j7 _ (decide (0 < (((gt x1.1 0).2.1).length : Int))) g7 a w (S.sub ⟨rfl, rfl, rfl, rfl, trivial⟩ (.cons .here (.cons .here .nil))) h2
          · refine s_gF S (b := ((gt x1.1 0).1)) rfl rfl c22 rfl ?_; clear S a; intro a S
            refine s_gF S (b := ((gt x1.1 0).1)) rfl rfl c22 rfl ?_; clear S a; intro a S
            refine s_gF S (b := ((gt x1.1 0).1)) rfl rfl c22 rfl ?_; clear S a; intro a S
            refine s_gF S (b := ((gt x1.1 0).1)) rfl rfl c22 rfl ?_; clear S a; intro a S
            refine s_pick S (b := false) (hc_of rfl c22) rfl rfl ?_; clear S a; intro a S
            refine s_assign S rfl rfl ?_; clear S a; intro a S
            refine c_end' ?_
            refine x_thenN ?_
            exact j7 _ false g7 a w (S.sub ⟨rfl, rfl, rfl, rfl, trivial⟩ (.cons .here (.cons .here .nil))) h2
      refine c_region' ?_
      refine s_fieldAddr S rfl I54_0 T4 (by decide) rfl rfl ?_; clear S a; intro a S
      refine s_load1 S rfl .here T4 (v := (.bool ((gt x1.1 0).1))) rfl rfl ?_; clear S a; intro a S
      refine s_not S rfl rfl ?_; clear S a; intro a S
      refine s_move S rfl rfl ?_; clear S a; intro a S
      rcases ite_of h3 with ⟨c23, h4⟩ | ⟨c23, h4⟩ <;> clear h3
      · refine s_gT S (b := (!((gt x1.1 0).1))) rfl rfl c23 ?_
        refine s_fieldAddr S rfl I54_2 T3 (by decide) rfl rfl ?_; clear S a; intro a S
        refine s_gT S (b := (!((gt x1.1 0).1))) rfl rfl c23 ?_
        refine s_load1 S rfl .here T3 (v := (.int .i64 ((gt x1.1 0).2.2))) rfl rfl ?_; clear S a; intro a S
        refine s_gT S (b := (!((gt x1.1 0).1))) rfl rfl c23 ?_
        refine s_bin S rfl rfl rfl rfl ?_; clear S a; intro a S
        refine s_pick S (b := true) (hc_of rfl c23) rfl rfl ?_; clear S a; intro a S
        refine s_assign S rfl rfl ?_; clear S a; intro a S
        refine c_end' ?_
        refine x_thenN ?_
        exact j6 _ (((gt x1.1 0).2.2) != 0) g1 A1 cp1 ch2.2.1.1 ch2.2.1.2 a w (S.sub ⟨rfl, rfl, rfl, rfl, trivial⟩ (.cons .here (.cons .here .nil))) h4
      · refine s_gF S (b := (!((gt x1.1 0).1))) rfl rfl c23 rfl ?_; clear S a; intro a S
        refine s_gF S (b := (!((gt x1.1 0).1))) rfl rfl c23 rfl ?_; clear S a; intro a S
        refine s_gF S (b := (!((gt x1.1 0).1))) rfl rfl c23 rfl ?_; clear S a; intro a S
        refine s_pick S (b := false) (hc_of rfl c23) rfl rfl ?_; clear S a; intro a S
        refine s_assign S rfl rfl ?_; clear S a; intro a S
        refine c_end' ?_
        refine x_thenN ?_
        exact j6 _ false g1 A1 cp1 ch2.2.1.1 ch2.2.1.2 a w (S.sub ⟨rfl, rfl, rfl, rfl, trivial⟩ (.cons .here (.cons .here .nil))) h4
  refine c_region' ?_
  refine s_move S rfl rfl ?_; clear S a; intro a S
  refine s_nilchk S rfl rfl ?_; clear S a; intro a S
  refine s_fieldAddr S rfl I98_1 T73 (by decide) rfl rfl ?_; clear S a; intro a S
  refine s_load1 S rfl .here T73 (v := (.int .i64 x1.2)) rfl rfl ?_; clear S a; intro a S
  refine s_bin S rfl rfl rfl rfl ?_; clear S a; intro a S
  refine s_move S rfl rfl ?_; clear S a; intro a S
  rcases ite_of h0 with ⟨c24, h1⟩ | ⟨c24, h1⟩ <;> clear h0
  · refine s_gF S (b := (x1.2 != 0)) rfl rfl c24 rfl ?_; clear S a; intro a S
    refine s_gF S (b := (x1.2 != 0)) rfl rfl c24 rfl ?_; clear S a; intro a S
    refine s_gF S (b := (x1.2 != 0)) rfl rfl c24 rfl ?_; clear S a; intro a S
    refine s_gF S (b := (x1.2 != 0)) rfl rfl c24 rfl ?_; clear S a; intro a S
    refine s_gF S (b := (x1.2 != 0)) rfl rfl c24 rfl ?_; clear S a; intro a S
    refine s_gF S (b := (x1.2 != 0)) rfl rfl c24 rfl ?_; clear S a; intro a S
    refine s_pick S (b := true) (hc_of rfl c24) rfl rfl ?_; clear S a; intro a S
    refine c_end' ?_
    refine x_thenN ?_
    exact j1 _ true a w0 (S.sub ⟨rfl, rfl, rfl, trivial⟩ (.cons .here .nil)) h1
  · refine s_gT S (b := (x1.2 != 0)) rfl rfl c24 ?_
    refine s_move S rfl rfl ?_; clear S a; intro a S
    refine s_gT S (b := (x1.2 != 0)) rfl rfl c24 ?_
    refine s_nilchk S rfl rfl ?_; clear S a; intro a S
    refine s_gT S (b := (x1.2 != 0)) rfl rfl c24 ?_
    refine s_fieldAddr S rfl I98_0 T51 (by decide) rfl rfl ?_; clear S a; intro a S
    refine s_gT S (b := (x1.2 != 0)) rfl rfl c24 ?_
    refine s_loadSl S rfl .here T51 (A := ch_0_1) (len := (x1.1).length) (cap := ch_0_2) rfl rfl ?_; clear S a; intro a S
    refine s_gT S (b := (x1.2 != 0)) rfl rfl c24 ?_
    refine s_lenS S rfl Tryd.underlying51 rfl ?_; clear S a; intro a S
    refine s_gT S (b := (x1.2 != 0)) rfl rfl c24 ?_
    refine s_bin S rfl rfl rfl rfl ?_; clear S a; intro a S
    refine s_pick S (b := false) (hc_of rfl c24) rfl rfl ?_; clear S a; intro a S
    refine c_end' ?_
    refine x_thenN ?_
    exact j1 _ (((x1.1).length : Int) == 0) a w0 (S.sub ⟨rfl, rfl, rfl, trivial⟩ (.cons .here .nil)) h1
def rlp_writer_item.f : Nat → rlp_writer_item.Ty
  | 0 => fun _ _ => none
  | k + 1 => rlp_writer_item.body (rlp_writer_item.f k) k
theorem rlp_writer_item.f_succ (k : Nat) : rlp_writer_item.f (k + 1) = rlp_writer_item.body (rlp_writer_item.f k) k := rfl
theorem rlp_writer_item.oks : ∀ k : Nat, rlp_writer_item.Ctr (rlp_writer_item.f k)
  | 0 => fun _ _ _ _ _ r h0 => (nomatch (show (none : Option ((List Int) × ((List (Bool × (List Int) × Int)) × Int))) = some r from h0))
  | k + 1 => by
    have ih := rlp_writer_item.oks k
    exact rlp_writer_item.okb (rlp_writer_item.f k) ih k
theorem rlp_writer_item.ok (k : Nat) : rlp_writer_item.Ctr (rlp_writer_item.f k) := (rlp_writer_item.oks k)
end GW
