/-
  Printed by a program of these sessions (wip/gw/gx.py): for each Go function a Lean function with the same answers, and the walk that shows it.
-/
import Derived.Test.YtnloindmiejbeaaDoorProg
import Derived.Test.YtnloindmiejbeaaDoorGWRQui
set_option linter.unusedVariables false
set_option maxRecDepth 10000
namespace GW
open Go Go.RowKit Go.Proofs
def tbl_keccak_constants : List Int := [1, 32898, 9223372036854808714, 9223372039002292224, 32907, 2147483649, 9223372039002292353, 9223372036854808585, 138, 136, 2147516425, 2147483658, 2147516555, 9223372036854775947, 9223372036854808713, 9223372036854808579, 9223372036854808578, 9223372036854775936, 32778, 9223372039002259466, 9223372039002292353, 9223372036854808704, 2147483649, 9223372039002292232]
def tbl_keccak_places : List Int := [10, 7, 11, 17, 18, 3, 5, 16, 8, 21, 24, 4, 15, 23, 19, 13, 12, 2, 20, 14, 22, 9, 6, 1]
def tbl_keccak_turns : List Int := [1, 3, 6, 10, 15, 21, 28, 36, 45, 55, 2, 14, 27, 41, 56, 8, 25, 43, 62, 18, 39, 61, 20, 44]
def Glob (m : Mem) : Prop := FroAt m 0 [.ints .u64 tbl_keccak_constants 24] ∧ FroAt m 1 [.ints .i64 tbl_keccak_places 24] ∧ FroAt m 2 [.ints .i64 tbl_keccak_turns 24]
theorem Glob.mono {m m' : Mem} (h : Glob m) (hm : LeM m m') : Glob m' := ⟨(FroAt.mono hm h.1), (FroAt.mono hm h.2.1), (FroAt.mono hm h.2.2)⟩
theorem T30 : tyI Tryd.prog 30 = some (true, 57) := by kernel_rfl
theorem I30_5 : fieldI Tryd.prog 30 5 = some (46, 27) := by kernel_rfl
theorem T27 : tyI Tryd.prog 27 = some (false, 1) := by kernel_rfl
theorem I30_9 : fieldI Tryd.prog 30 9 = some (56, 28) := by kernel_rfl
theorem T28 : tyI Tryd.prog 28 = some (false, 1) := by kernel_rfl
theorem T35 : tyI Tryd.prog 35 = some (true, 21) := by kernel_rfl
theorem I35_1 : fieldI Tryd.prog 35 1 = some (20, 33) := by kernel_rfl
theorem T33 : tyI Tryd.prog 33 = some (false, 1) := by kernel_rfl
theorem N4 : Fn_ Tryd.prog 4 := ⟨_, Tryd.func4, rfl, by decide⟩
theorem P30 : ∀ w : World, ((match Tryd.prog.underlying 30 with | some (.struct fs) => fs | _ => (#[] : Array Field)).mapM fun (f : Field) => (do pure (f.offset, ← Go.sizeOf f.type) : Sem (Nat × Nat))).run Tryd.prog w = .ok #[(0, 20), (20, 20), (40, 1), (41, 1), (42, 4), (46, 1), (47, 1), (48, 4), (52, 4), (56, 1)] w := fun _ => by kernel_rfl
theorem Z30 : zeroI Tryd.prog 30 = some (D.val (.agg [.ints .u8 [0, 0, 0, 0, 0, 0, 0, 0, 0, 0, 0, 0, 0, 0, 0, 0, 0, 0, 0, 0] 20, .ints .u8 [0, 0, 0, 0, 0, 0, 0, 0, 0, 0, 0, 0, 0, 0, 0, 0, 0, 0, 0, 0] 20, .one (.bool false), .one (.int .u64 0), .ints .u64 [0, 0, 0, 0] 4, .one (.slice none 0 0), .one (.int .u64 0), .ints .u64 [0, 0, 0, 0] 4, .ints .u64 [0, 0, 0, 0] 4, .one (.slice none 0 0)])) := by kernel_rfl
theorem Z26 : zeroI Tryd.prog 26 = some (D.val (.agg [.ints .u64 [0, 0, 0, 0] 4])) := by kernel_rfl
theorem I30_6 : fieldI Tryd.prog 30 6 = some (47, 24) := by kernel_rfl
theorem T24 : tyI Tryd.prog 24 = some (false, 1) := by kernel_rfl
theorem I30_7 : fieldI Tryd.prog 30 7 = some (48, 26) := by kernel_rfl
theorem T26 : tyI Tryd.prog 26 = some (true, 4) := by kernel_rfl
theorem N14 : Fn_ Tryd.prog 14 := ⟨_, Tryd.func14, rfl, by decide⟩
theorem Z81 : zeroI Tryd.prog 81 = some (D.val (.agg [.ints .u64 [0, 0, 0, 0, 0, 0, 0, 0] 8])) := by kernel_rfl
theorem N39 : Fn_ Tryd.prog 39 := ⟨_, Tryd.func39, rfl, by decide⟩
theorem X40 : isExt Tryd.prog 40 add64Entry := ⟨_, Tryd.func40, by kernel_rfl, by kernel_rfl, by kernel_rfl, by kernel_rfl⟩
theorem N26 : Fn_ Tryd.prog 26 := ⟨_, Tryd.func26, rfl, by decide⟩
theorem I30_4 : fieldI Tryd.prog 30 4 = some (42, 26) := by kernel_rfl
theorem N27 : Fn_ Tryd.prog 27 := ⟨_, Tryd.func27, rfl, by decide⟩
theorem Q26 : Tryd.prog.eqGuardType Tryd.prog.depth 26 = false := by kernel_rfl
theorem N25 : Fn_ Tryd.prog 25 := ⟨_, Tryd.func25, rfl, by decide⟩
theorem N9 : Fn_ Tryd.prog 9 := ⟨_, Tryd.func9, rfl, by decide⟩
theorem X41 : isExt Tryd.prog 41 subEntry := ⟨_, Tryd.func41, by kernel_rfl, by kernel_rfl, by kernel_rfl, by kernel_rfl⟩
theorem N28 : Fn_ Tryd.prog 28 := ⟨_, Tryd.func28, rfl, by decide⟩
theorem I30_8 : fieldI Tryd.prog 30 8 = some (52, 26) := by kernel_rfl
theorem N10 : Fn_ Tryd.prog 10 := ⟨_, Tryd.func10, rfl, by decide⟩
theorem N5 : Fn_ Tryd.prog 5 := ⟨_, Tryd.func5, rfl, by decide⟩
theorem J35 : appI Tryd.prog 35 = some (21, 48) := by kernel_rfl
theorem Z35 : zeroI Tryd.prog 35 = some (D.val (.agg [.ints .u8 [0, 0, 0, 0, 0, 0, 0, 0, 0, 0, 0, 0, 0, 0, 0, 0, 0, 0, 0, 0] 20, .one (.slice none 0 0)])) := by kernel_rfl
theorem P35 : ∀ w : World, ((match Tryd.prog.underlying 35 with | some (.struct fs) => fs | _ => (#[] : Array Field)).mapM fun (f : Field) => (do pure (f.offset, ← Go.sizeOf f.type) : Sem (Nat × Nat))).run Tryd.prog w = .ok #[(0, 20), (20, 1)] w := fun _ => by kernel_rfl
theorem J26 : appI Tryd.prog 26 = some (4, 32) := by kernel_rfl
theorem Z37 : zeroI Tryd.prog 37 = some (D.val (.agg [.ints .u8 [0, 0, 0, 0, 0, 0, 0, 0, 0, 0, 0, 0, 0, 0, 0, 0, 0, 0, 0, 0, 0, 0, 0, 0, 0, 0, 0, 0, 0, 0, 0, 0] 32])) := by kernel_rfl
theorem N11 : Fn_ Tryd.prog 11 := ⟨_, Tryd.func11, rfl, by decide⟩
theorem T37 : tyI Tryd.prog 37 = some (true, 32) := by kernel_rfl
theorem I30_1 : fieldI Tryd.prog 30 1 = some (20, 23) := by kernel_rfl
theorem T23 : tyI Tryd.prog 23 = some (true, 20) := by kernel_rfl
theorem T5 : tyI Tryd.prog 5 = some (false, 1) := by kernel_rfl
theorem I30_2 : fieldI Tryd.prog 30 2 = some (40, 4) := by kernel_rfl
theorem T4 : tyI Tryd.prog 4 = some (false, 1) := by kernel_rfl
theorem P46 : ∀ w : World, ((match Tryd.prog.underlying 46 with | some (.struct fs) => fs | _ => (#[] : Array Field)).mapM fun (f : Field) => (do pure (f.offset, ← Go.sizeOf f.type) : Sem (Nat × Nat))).run Tryd.prog w = .ok #[(0, 1), (1, 1), (2, 1)] w := fun _ => by kernel_rfl
theorem Z46 : zeroI Tryd.prog 46 = some (D.val (.agg [.one (.bool false), .one (.slice none 0 0), .one (.int .i64 0)])) := by kernel_rfl
theorem I30_0 : fieldI Tryd.prog 30 0 = some (0, 23) := by kernel_rfl
theorem I30_3 : fieldI Tryd.prog 30 3 = some (41, 24) := by kernel_rfl
theorem T46 : tyI Tryd.prog 46 = some (true, 3) := by kernel_rfl
theorem N12 : Fn_ Tryd.prog 12 := ⟨_, Tryd.func12, rfl, by decide⟩
theorem Z36 : zeroI Tryd.prog 36 = some (D.val (.agg [.ints .u8 [0, 0, 0, 0, 0, 0, 0, 0, 0, 0, 0, 0, 0, 0, 0, 0, 0, 0, 0, 0, 0, 0, 0, 0, 0, 0, 0, 0, 0, 0, 0, 0] 32])) := by kernel_rfl
theorem T36 : tyI Tryd.prog 36 = some (true, 32) := by kernel_rfl
theorem N30 : Fn_ Tryd.prog 30 := ⟨_, Tryd.func30, rfl, by decide⟩
theorem J5 : appI Tryd.prog 5 = some (1, 1) := by kernel_rfl
theorem Z5 : zeroI Tryd.prog 5 = some (D.val (.v (.int .u8 0))) := by kernel_rfl
def txt0 : ByteArray := ByteArray.mk #[0, 1, 2, 2, 3, 3, 3, 3, 4, 4, 4, 4, 4, 4, 4, 4, 5, 5, 5, 5, 5, 5, 5, 5, 5, 5, 5, 5, 5, 5, 5, 5, 6, 6, 6, 6, 6, 6, 6, 6, 6, 6, 6, 6, 6, 6, 6, 6, 6, 6, 6, 6, 6, 6, 6, 6, 6, 6, 6, 6, 6, 6, 6, 6, 7, 7, 7, 7, 7, 7, 7, 7, 7, 7, 7, 7, 7, 7, 7, 7, 7, 7, 7, 7, 7, 7, 7, 7, 7, 7, 7, 7, 7, 7, 7, 7, 7, 7, 7, 7, 7, 7, 7, 7, 7, 7, 7, 7, 7, 7, 7, 7, 7, 7, 7, 7, 7, 7, 7, 7, 7, 7, 7, 7, 7, 7, 7, 7, 8, 8, 8, 8, 8, 8, 8, 8, 8, 8, 8, 8, 8, 8, 8, 8, 8, 8, 8, 8, 8, 8, 8, 8, 8, 8, 8, 8, 8, 8, 8, 8, 8, 8, 8, 8, 8, 8, 8, 8, 8, 8, 8, 8, 8, 8, 8, 8, 8, 8, 8, 8, 8, 8, 8, 8, 8, 8, 8, 8, 8, 8, 8, 8, 8, 8, 8, 8, 8, 8, 8, 8, 8, 8, 8, 8, 8, 8, 8, 8, 8, 8, 8, 8, 8, 8, 8, 8, 8, 8, 8, 8, 8, 8, 8, 8, 8, 8, 8, 8, 8, 8, 8, 8, 8, 8, 8, 8, 8, 8, 8, 8, 8, 8, 8, 8, 8, 8, 8, 8, 8, 8, 8, 8, 8, 8, 8, 8]
theorem N54 : Fn_ Tryd.prog 54 := ⟨_, Tryd.func54, rfl, by decide⟩
theorem N51 : Fn_ Tryd.prog 51 := ⟨_, Tryd.func51, rfl, by decide⟩
theorem N42 : Fn_ Tryd.prog 42 := ⟨_, Tryd.func42, rfl, by decide⟩
theorem N29 : Fn_ Tryd.prog 29 := ⟨_, Tryd.func29, rfl, by decide⟩
theorem N13 : Fn_ Tryd.prog 13 := ⟨_, Tryd.func13, rfl, by decide⟩
theorem J46 : appI Tryd.prog 46 = some (3, 40) := by kernel_rfl
theorem I35_0 : fieldI Tryd.prog 35 0 = some (0, 23) := by kernel_rfl
theorem I46_2 : fieldI Tryd.prog 46 2 = some (2, 3) := by kernel_rfl
theorem T3 : tyI Tryd.prog 3 = some (false, 1) := by kernel_rfl
theorem N15 : Fn_ Tryd.prog 15 := ⟨_, Tryd.func15, rfl, by decide⟩
theorem I46_0 : fieldI Tryd.prog 46 0 = some (0, 4) := by kernel_rfl
theorem I46_1 : fieldI Tryd.prog 46 1 = some (1, 27) := by kernel_rfl
theorem J3 : appI Tryd.prog 3 = some (1, 8) := by kernel_rfl
theorem Z3 : zeroI Tryd.prog 3 = some (D.val (.v (.int .i64 0))) := by kernel_rfl
theorem N31 : Fn_ Tryd.prog 31 := ⟨_, Tryd.func31, rfl, by decide⟩
theorem P71 : ∀ w : World, ((match Tryd.prog.underlying 71 with | some (.struct fs) => fs | _ => (#[] : Array Field)).mapM fun (f : Field) => (do pure (f.offset, ← Go.sizeOf f.type) : Sem (Nat × Nat))).run Tryd.prog w = .ok #[(0, 1), (1, 1)] w := fun _ => by kernel_rfl
theorem Z71 : zeroI Tryd.prog 71 = some (D.val (.agg [.one (.slice none 0 0), .one (.int .i64 0)])) := by kernel_rfl
theorem I71_1 : fieldI Tryd.prog 71 1 = some (1, 39) := by kernel_rfl
theorem T39 : tyI Tryd.prog 39 = some (false, 1) := by kernel_rfl
theorem I71_0 : fieldI Tryd.prog 71 0 = some (0, 50) := by kernel_rfl
theorem T50 : tyI Tryd.prog 50 = some (false, 1) := by kernel_rfl
theorem N43 : Fn_ Tryd.prog 43 := ⟨_, Tryd.func43, rfl, by decide⟩
theorem N44 : Fn_ Tryd.prog 44 := ⟨_, Tryd.func44, rfl, by decide⟩
theorem N32 : Fn_ Tryd.prog 32 := ⟨_, Tryd.func32, rfl, by decide⟩
theorem N16 : Fn_ Tryd.prog 16 := ⟨_, Tryd.func16, rfl, by decide⟩
theorem Z73 : zeroI Tryd.prog 73 = some (D.val (.agg [.ints .u64 [0, 0, 0, 0, 0, 0, 0, 0, 0, 0, 0, 0, 0, 0, 0, 0, 0, 0, 0, 0, 0, 0, 0, 0, 0] 25])) := by kernel_rfl
theorem T73 : tyI Tryd.prog 73 = some (true, 25) := by kernel_rfl
theorem T91 : tyI Tryd.prog 91 = some (true, 24) := by kernel_rfl
theorem Z97 : zeroI Tryd.prog 97 = some (D.val (.agg [.ints .u64 [0, 0, 0, 0, 0] 5])) := by kernel_rfl
theorem N55 : Fn_ Tryd.prog 55 := ⟨_, Tryd.func55, rfl, by decide⟩
theorem T100 : tyI Tryd.prog 100 = some (true, 24) := by kernel_rfl
theorem T97 : tyI Tryd.prog 97 = some (true, 5) := by kernel_rfl
theorem N52 : Fn_ Tryd.prog 52 := ⟨_, Tryd.func52, rfl, by decide⟩
theorem N45 : Fn_ Tryd.prog 45 := ⟨_, Tryd.func45, rfl, by decide⟩
theorem N33 : Fn_ Tryd.prog 33 := ⟨_, Tryd.func33, rfl, by decide⟩
theorem Z75 : zeroI Tryd.prog 75 = some (D.val (.agg [.ints .u8 (List.replicate 136 0) 136])) := by kernel_rfl
theorem N17 : Fn_ Tryd.prog 17 := ⟨_, Tryd.func17, rfl, by decide⟩
theorem N6 : Fn_ Tryd.prog 6 := ⟨_, Tryd.func6, rfl, by decide⟩
theorem N18 : Fn_ Tryd.prog 18 := ⟨_, Tryd.func18, rfl, by decide⟩
theorem Z57 : zeroI Tryd.prog 57 = some (D.val (.agg [.ints .i64 [0, 0, 0, 0, 0, 0, 0, 0, 0, 0, 0, 0, 0, 0, 0, 0, 0, 0, 0, 0, 0, 0, 0, 0, 0, 0, 0, 0, 0, 0, 0, 0] 32])) := by kernel_rfl
theorem T57 : tyI Tryd.prog 57 = some (true, 32) := by kernel_rfl
theorem N20 : Fn_ Tryd.prog 20 := ⟨_, Tryd.func20, rfl, by decide⟩
theorem N21 : Fn_ Tryd.prog 21 := ⟨_, Tryd.func21, rfl, by decide⟩
theorem N19 : Fn_ Tryd.prog 19 := ⟨_, Tryd.func19, rfl, by decide⟩
theorem N34 : Fn_ Tryd.prog 34 := ⟨_, Tryd.func34, rfl, by decide⟩
theorem N35 : Fn_ Tryd.prog 35 := ⟨_, Tryd.func35, rfl, by decide⟩
theorem N46 : Fn_ Tryd.prog 46 := ⟨_, Tryd.func46, rfl, by decide⟩
theorem N36 : Fn_ Tryd.prog 36 := ⟨_, Tryd.func36, rfl, by decide⟩
theorem N22 : Fn_ Tryd.prog 22 := ⟨_, Tryd.func22, rfl, by decide⟩
theorem Z91 : zeroI Tryd.prog 91 = some (D.val (.agg [.ints .u64 [0, 0, 0, 0, 0, 0, 0, 0, 0, 0, 0, 0, 0, 0, 0, 0, 0, 0, 0, 0, 0, 0, 0, 0] 24])) := by kernel_rfl
theorem N47 : Fn_ Tryd.prog 47 := ⟨_, Tryd.func47, rfl, by decide⟩
theorem N53 : Fn_ Tryd.prog 53 := ⟨_, Tryd.func53, rfl, by decide⟩
theorem N48 : Fn_ Tryd.prog 48 := ⟨_, Tryd.func48, rfl, by decide⟩
theorem N37 : Fn_ Tryd.prog 37 := ⟨_, Tryd.func37, rfl, by decide⟩
theorem N23 : Fn_ Tryd.prog 23 := ⟨_, Tryd.func23, rfl, by decide⟩
theorem N7 : Fn_ Tryd.prog 7 := ⟨_, Tryd.func7, rfl, by decide⟩
theorem Q37 : Tryd.prog.eqGuardType Tryd.prog.depth 37 = false := by kernel_rfl
theorem N49 : Fn_ Tryd.prog 49 := ⟨_, Tryd.func49, rfl, by decide⟩
theorem N50 : Fn_ Tryd.prog 50 := ⟨_, Tryd.func50, rfl, by decide⟩
theorem N38 : Fn_ Tryd.prog 38 := ⟨_, Tryd.func38, rfl, by decide⟩
theorem N24 : Fn_ Tryd.prog 24 := ⟨_, Tryd.func24, rfl, by decide⟩
theorem N8 : Fn_ Tryd.prog 8 := ⟨_, Tryd.func8, rfl, by decide⟩
def Gd23 : (List Int) → Prop := fun xs => xs.length = 20 ∧ ∀ y ∈ xs, inK .u8 y
def Gd4 : Bool → Prop := fun _ => True
def Gd24 : Int → Prop := fun x => inK .u64 x
def Gd26 : (List Int) → Prop := fun xs => xs.length = 4 ∧ ∀ y ∈ xs, inK .u64 y
def Gd5 : Int → Prop := fun x => inK .u8 x
def Gd27 : (List Int) → Prop := fun xs => (∀ y ∈ xs, Gd5 y) ∧ xs.length ≤ maxLen
def Gd33 : (List (List Int)) → Prop := fun xs => (∀ y ∈ xs, Gd26 y) ∧ xs.length ≤ maxLen
def Gd35 : ((List Int) × (List (List Int))) → Prop := fun y => Gd23 y.1 ∧ (Gd33 y.2)
def Gd28 : (List ((List Int) × (List (List Int)))) → Prop := fun xs => (∀ y ∈ xs, Gd35 y) ∧ xs.length ≤ maxLen
def Gd30 : ((List Int) × (List Int) × Bool × Int × (List Int) × (List Int) × Int × (List Int) × (List Int) × (List ((List Int) × (List (List Int))))) → Prop := fun y => Gd23 y.1 ∧ (Gd23 y.2.1 ∧ (Gd4 y.2.2.1 ∧ (Gd24 y.2.2.2.1 ∧ (Gd26 y.2.2.2.2.1 ∧ (Gd27 y.2.2.2.2.2.1 ∧ (Gd24 y.2.2.2.2.2.2.1 ∧ (Gd26 y.2.2.2.2.2.2.2.1 ∧ (Gd26 y.2.2.2.2.2.2.2.2.1 ∧ (Gd28 y.2.2.2.2.2.2.2.2.2)))))))))
/-! smithy/smithyref19.Great -/
abbrev smithyref19_Great.Ty : Type := ((List Int) × (List Int) × Bool × Int × (List Int) × (List Int) × Int × (List Int) × (List Int) × (List ((List Int) × (List (List Int))))) → Option Bool
def smithyref19_Great.Ctr (s : smithyref19_Great.Ty) : Prop := ∀ (x1 : (List Int) × (List Int) × Bool × Int × (List Int) × (List Int) × Int × (List Int) × (List Int) × (List ((List Int) × (List (List Int))))) (ch_0_0 : Option Addr) (ch_0_1 : Nat) (ch_0_2 : Option Addr) (ch_0_3 : Nat) (r : Bool) (h0 : s x1 = some r) (mi : Mem) (w0 : World), okL mi [(.agg [.ints .u8 x1.1 20, .ints .u8 x1.2.1 20, .one (.bool x1.2.2.1), .one (.int .u64 x1.2.2.2.1), .ints .u64 x1.2.2.2.2.1 4, .sl ch_0_0 (x1.2.2.2.2.2.1).length ch_0_1 (RdS (Ty.int .u8) ch_0_0 x1.2.2.2.2.2.1), .one (.int .u64 x1.2.2.2.2.2.2.1), .ints .u64 x1.2.2.2.2.2.2.2.1 4, .ints .u64 x1.2.2.2.2.2.2.2.2.1 4, .sl ch_0_2 (x1.2.2.2.2.2.2.2.2.2).length ch_0_3 (RdS (Ty.prod (Ty.arr .u8 20) (Ty.slice (Ty.arr .u64 4))) ch_0_2 x1.2.2.2.2.2.2.2.2.2)])] → Pre mi [] w0 → Calls Tryd.prog 4 (([(.agg [.ints .u8 x1.1 20, .ints .u8 x1.2.1 20, .one (.bool x1.2.2.1), .one (.int .u64 x1.2.2.2.1), .ints .u64 x1.2.2.2.2.1 4, .sl ch_0_0 (x1.2.2.2.2.2.1).length ch_0_1 (RdS (Ty.int .u8) ch_0_0 x1.2.2.2.2.2.1), .one (.int .u64 x1.2.2.2.2.2.2.1), .ints .u64 x1.2.2.2.2.2.2.2.1 4, .ints .u64 x1.2.2.2.2.2.2.2.2.1 4, .sl ch_0_2 (x1.2.2.2.2.2.2.2.2.2).length ch_0_3 (RdS (Ty.prod (Ty.arr .u8 20) (Ty.slice (Ty.arr .u64 4))) ch_0_2 x1.2.2.2.2.2.2.2.2.2)])] : List D).map D.val).toArray w0 (RetX mi [] (fun (ch : Unit) => ((.v (.bool r)) : D)) (fun (ch : Unit) => []) w0)
def smithyref19_Great.j2 : Option Bool := some false
def smithyref19_Great.b1 (x1 : (List Int) × (List Int) × Bool × Int × (List Int) × (List Int) × Int × (List Int) × (List Int) × (List ((List Int) × (List (List Int))))) (rec1 : Int → Option Bool) (y5 : Int) : Option Bool := if (decide (y5 < ((x1.2.2.2.2.2.2.2.2.2).length : Int))) = true then (if (0 : Int) ≤ y5 ∧ y5 < ((x1.2.2.2.2.2.2.2.2.2).length : Int) then (if (decide (30 < (((gt x1.2.2.2.2.2.2.2.2.2 y5).2).length : Int))) = true then (some true) else (rec1 (wr .i64 (y5 + 1)))) else none) else smithyref19_Great.j2
def smithyref19_Great.l1 (x1 : (List Int) × (List Int) × Bool × Int × (List Int) × (List Int) × Int × (List Int) × (List Int) × (List ((List Int) × (List (List Int))))) : Nat → Int → Option Bool
  | 0, _ => none
  | q + 1, y5 => smithyref19_Great.b1 x1 (smithyref19_Great.l1 x1 q) y5
def smithyref19_Great.j1 (k : Nat) (x1 : (List Int) × (List Int) × Bool × Int × (List Int) × (List Int) × Int × (List Int) × (List Int) × (List ((List Int) × (List (List Int))))) (y1 : Bool) : Option Bool := if y1 = true then (some true) else (smithyref19_Great.l1 x1 k 0)
def smithyref19_Great.f (k : Nat) (x1 : (List Int) × (List Int) × Bool × Int × (List Int) × (List Int) × Int × (List Int) × (List Int) × (List ((List Int) × (List (List Int))))) : Option Bool := if (decide (3000 < ((x1.2.2.2.2.2.1).length : Int))) = true then (smithyref19_Great.j1 k x1 true) else (smithyref19_Great.j1 k x1 (decide (30 < ((x1.2.2.2.2.2.2.2.2.2).length : Int))))
theorem smithyref19_Great.ok (k : Nat) : smithyref19_Great.Ctr (smithyref19_Great.f k) := by
  intro x1 ch_0_0 ch_0_1 ch_0_2 ch_0_3 r h0 mi w0 ok hm
  delta smithyref19_Great.f at h0
  refine c_enterX (n := 29) [(.agg [.ints .u8 x1.1 20, .ints .u8 x1.2.1 20, .one (.bool x1.2.2.1), .one (.int .u64 x1.2.2.2.1), .ints .u64 x1.2.2.2.2.1 4, .sl ch_0_0 (x1.2.2.2.2.2.1).length ch_0_1 (RdS (Ty.int .u8) ch_0_0 x1.2.2.2.2.2.1), .one (.int .u64 x1.2.2.2.2.2.2.1), .ints .u64 x1.2.2.2.2.2.2.2.1 4, .ints .u64 x1.2.2.2.2.2.2.2.2.1 4, .sl ch_0_2 (x1.2.2.2.2.2.2.2.2.2).length ch_0_3 (RdS (Ty.prod (Ty.arr .u8 20) (Ty.slice (Ty.arr .u64 4))) ch_0_2 x1.2.2.2.2.2.2.2.2.2)])] (l := [(0, (.agg [.ints .u8 x1.1 20, .ints .u8 x1.2.1 20, .one (.bool x1.2.2.1), .one (.int .u64 x1.2.2.2.1), .ints .u64 x1.2.2.2.2.1 4, .sl ch_0_0 (x1.2.2.2.2.2.1).length ch_0_1 (RdS (Ty.int .u8) ch_0_0 x1.2.2.2.2.2.1), .one (.int .u64 x1.2.2.2.2.2.2.1), .ints .u64 x1.2.2.2.2.2.2.2.1 4, .ints .u64 x1.2.2.2.2.2.2.2.2.1 4, .sl ch_0_2 (x1.2.2.2.2.2.2.2.2.2).length ch_0_3 (RdS (Ty.prod (Ty.arr .u8 20) (Ty.slice (Ty.arr .u64 4))) ch_0_2 x1.2.2.2.2.2.2.2.2.2)]))]) Tryd.func4 rfl rfl rfl rfl ok hm ?_
  clear ok hm
  intro b0 hb a S
  refine c_region ?_
  refine s_box S rfl rfl rfl ?_; clear S a; intro g1 a w S
  refine s_assign S rfl rfl ?_; clear S a; intro a S
  refine c_end ?_
  refine wp_seq ?_
  refine wp_seq_k ?_
  intro K1 hK1
  have j1 : ∀ (m : Mem) (y1 : Bool) (g2 : Nat) (a : Act) (w : World), St 29 m b0 [(13, (.v (.bool y1))), (1, (.v (.pointer (some ⟨g2, 0, none⟩))))] [Res.cells g2 30 [.ints .u8 x1.1 20, .ints .u8 x1.2.1 20, .one (.bool x1.2.2.1), .one (.int .u64 x1.2.2.2.1), .ints .u64 x1.2.2.2.2.1 4, .sl ch_0_0 (x1.2.2.2.2.2.1).length ch_0_1 (RdS (Ty.int .u8) ch_0_0 x1.2.2.2.2.2.1), .one (.int .u64 x1.2.2.2.2.2.2.1), .ints .u64 x1.2.2.2.2.2.2.2.1 4, .ints .u64 x1.2.2.2.2.2.2.2.2.1 4, .sl ch_0_2 (x1.2.2.2.2.2.2.2.2.2).length ch_0_3 (RdS (Ty.prod (Ty.arr .u8 20) (Ty.slice (Ty.arr .u64 4))) ch_0_2 x1.2.2.2.2.2.2.2.2.2)]] a w → smithyref19_Great.j1 k x1 y1 = some r → K1 a w := by
    intro m y1 g2 a w S h0
    delta smithyref19_Great.j1 at h0
    refine hK1 a w ?_
    rcases ite_of h0 with ⟨c1, h1⟩ | ⟨c1, h1⟩ <;> clear h0
    · refine c_condT S rfl c1 ?_
      refine c_region ?_
      refine s_assign S rfl rfl ?_; clear S a; intro a S
      refine c_end ?_
      refine wp_ret ?_
      refine x_thenR ?_
      obtain rfl := Option.some.inj h1
      exact b_ret1 (d := (.v (.bool true))) S rfl rfl fun ok => S.retX (Hx := []) hb _ _ (() : Unit) .nil ok
    · refine c_condF S rfl c1 ?_
      refine wp_skip ?_
      refine x_thenN ?_
      refine wp_seq_k ?_
      intro K2 hK2
      have j2 : ∀ (m : Mem) (a : Act) (w : World), St 29 m b0 [] [] a w → smithyref19_Great.j2 = some r → K2 a w := by
        intro m a w S h0
        delta smithyref19_Great.j2 at h0
        refine hK2 a w ?_
        refine c_region ?_
        refine s_assign S rfl rfl ?_; clear S a; intro a S
        refine c_end ?_
        refine wp_ret ?_
        obtain rfl := Option.some.inj h0
        exact b_ret1 (d := (.v (.bool false))) S rfl rfl fun ok => S.retX (Hx := []) hb _ _ (() : Unit) .nil ok
      refine c_region ?_
      refine s_fieldAddr S rfl I30_9 T28 (by decide) rfl rfl ?_; clear S a; intro a S
      refine s_loadSl S rfl .here T28 (A := ch_0_2) (len := (x1.2.2.2.2.2.2.2.2.2).length) (cap := ch_0_3) rfl rfl ?_; clear S a; intro a S
      refine s_lenS S rfl Tryd.underlying28 rfl ?_; clear S a; intro a S
      refine s_move S rfl rfl ?_; clear S a; intro a S
      refine c_end ?_
      refine wp_block ?_
      refine c_loop (fun q1 a w => ∃ (m : Mem) (y5 : Int) (g8 : Nat), St 29 m b0 [(17, (.v (.int .i64 y5))), (16, (.v (.int .i64 ((x1.2.2.2.2.2.2.2.2.2).length : Int)))), (1, (.v (.pointer (some ⟨g8, 0, none⟩))))] [Res.cells g8 30 [.ints .u8 x1.1 20, .ints .u8 x1.2.1 20, .one (.bool x1.2.2.1), .one (.int .u64 x1.2.2.2.1), .ints .u64 x1.2.2.2.2.1 4, .sl ch_0_0 (x1.2.2.2.2.2.1).length ch_0_1 (RdS (Ty.int .u8) ch_0_0 x1.2.2.2.2.2.1), .one (.int .u64 x1.2.2.2.2.2.2.1), .ints .u64 x1.2.2.2.2.2.2.2.1 4, .ints .u64 x1.2.2.2.2.2.2.2.2.1 4, .sl ch_0_2 (x1.2.2.2.2.2.2.2.2.2).length ch_0_3 (RdS (Ty.prod (Ty.arr .u8 20) (Ty.slice (Ty.arr .u64 4))) ch_0_2 x1.2.2.2.2.2.2.2.2.2)]] a w ∧ smithyref19_Great.l1 x1 q1 y5 = some r) ?_ ?_ (k := k) ⟨_, 0, g2, (S.sub ⟨rfl, rfl, rfl, trivial⟩ (.cons .here .nil)), h1⟩
      · rintro a w ⟨m, y5, g8, S, h0⟩
        exact (nomatch (show (none : Option Bool) = some r from h0))
      · clear S h1
        rintro q1 a w ⟨m, y5, g8, S, h0⟩
        replace h0 : smithyref19_Great.b1 x1 (smithyref19_Great.l1 x1 q1) y5 = some r := h0
        delta smithyref19_Great.b1 at h0
        refine c_region ?_
        refine s_bin S rfl rfl rfl rfl ?_; clear S a; intro a S
        refine c_end ?_
        refine wp_seq ?_
        rcases ite_of h0 with ⟨c2, h1⟩ | ⟨c2, h1⟩ <;> clear h0
        · refine c_condT S rfl c2 ?_
          refine wp_skip ?_
          refine x_thenN ?_
          refine wp_seq ?_
          refine wp_block ?_
          refine c_region ?_
          refine s_move S rfl rfl ?_; clear S a; intro a S
          refine s_assign S rfl rfl ?_; clear S a; intro a S
          refine c_end ?_
          refine c_region ?_
          refine s_fieldAddr S rfl I30_9 T28 (by decide) rfl rfl ?_; clear S a; intro a S
          refine s_loadSl S rfl .here T28 (A := ch_0_2) (len := (x1.2.2.2.2.2.2.2.2.2).length) (cap := ch_0_3) rfl rfl ?_; clear S a; intro a S
          refine s_move S rfl rfl ?_; clear S a; intro a S
          obtain ⟨c3, h2⟩ := chk_of h1; clear h1
          refine s_iaddrS S rfl rfl rfl Tryd.underlying28 T35 c3.1 c3.2 rfl ?_; clear S a; intro p1 a S
          refine s_faddrP S (tF := (Ty.slice (Ty.arr .u64 4))) (y := (gt x1.2.2.2.2.2.2.2.2.2 y5).2) rfl I35_1 T33 (by decide) (fun m h => (at_snd (at_0 h))) rfl ?_; clear S a; intro a S
          refine s_ldS S (fun c => c) rfl T33 (fun _ => rfl) rfl ?_; clear S a; intro A1 cp1 a S
          refine s_lenS S rfl Tryd.underlying33 rfl ?_; clear S a; intro a S
          refine s_bin S rfl rfl rfl rfl ?_; clear S a; intro a S
          refine c_end ?_
          rcases ite_of h2 with ⟨c4, h3⟩ | ⟨c4, h3⟩ <;> clear h2
          · refine c_condT S rfl c4 ?_
            refine c_region ?_
            refine s_assign S rfl rfl ?_; clear S a; intro a S
            refine c_end ?_
            refine wp_ret ?_
            refine x_blockR ?_
            refine x_thenR ?_
            refine x_thenR ?_
            refine x_blockR ?_
            refine x_thenR ?_
            obtain rfl := Option.some.inj h3
            exact b_ret1 (d := (.v (.bool true))) S rfl rfl fun ok => S.retX (Hx := []) hb _ _ (() : Unit) .nil ok
          · refine c_condF S rfl c4 ?_
            refine wp_skip ?_
            refine x_blockN ?_
            refine x_thenN ?_
            refine c_region' ?_
            refine s_bin S rfl rfl rfl rfl ?_; clear S a; intro a S
            refine s_move S rfl rfl ?_; clear S a; intro a S
            refine c_end' ?_
            refine x_thenN ?_
            exact ⟨_, (wr .i64 (y5 + 1)), g8, (S.sub ⟨rfl, rfl, rfl, trivial⟩ (.cons .here .nil)), h3⟩
        · refine c_condF S rfl c2 ?_
          refine wp_exit ?_
          refine x_thenX ?_
          refine x_thenX ?_
          refine x_blockX ?_
          refine x_thenN ?_
          exact j2 _ a w (S.sub trivial .nil) h1
  refine c_region' ?_
  refine s_fieldAddr S rfl I30_5 T27 (by decide) rfl rfl ?_; clear S a; intro a S
  refine s_loadSl S rfl .here T27 (A := ch_0_0) (len := (x1.2.2.2.2.2.1).length) (cap := ch_0_1) rfl rfl ?_; clear S a; intro a S
  refine s_lenS S rfl Tryd.underlying27 rfl ?_; clear S a; intro a S
  refine s_bin S rfl rfl rfl rfl ?_; clear S a; intro a S
  refine s_move S rfl rfl ?_; clear S a; intro a S
  rcases ite_of h0 with ⟨c5, h1⟩ | ⟨c5, h1⟩ <;> clear h0
  · refine s_gF S (b := (decide (3000 < ((x1.2.2.2.2.2.1).length : Int)))) rfl rfl c5 rfl ?_; clear S a; intro a S
    refine s_gF S (b := (decide (3000 < ((x1.2.2.2.2.2.1).length : Int)))) rfl rfl c5 rfl ?_; clear S a; intro a S
    refine s_gF S (b := (decide (3000 < ((x1.2.2.2.2.2.1).length : Int)))) rfl rfl c5 rfl ?_; clear S a; intro a S
    refine s_gF S (b := (decide (3000 < ((x1.2.2.2.2.2.1).length : Int)))) rfl rfl c5 rfl ?_; clear S a; intro a S
    refine s_pick S (b := true) (hc_of rfl c5) rfl rfl ?_; clear S a; intro a S
    refine c_end' ?_
    refine x_thenN ?_
    exact j1 _ true g1 a w (S.sub ⟨rfl, rfl, trivial⟩ (.cons .here .nil)) h1
  · refine s_gT S (b := (decide (3000 < ((x1.2.2.2.2.2.1).length : Int)))) rfl rfl c5 ?_
    refine s_fieldAddr S rfl I30_9 T28 (by decide) rfl rfl ?_; clear S a; intro a S
    refine s_gT S (b := (decide (3000 < ((x1.2.2.2.2.2.1).length : Int)))) rfl rfl c5 ?_
    refine s_loadSl S rfl .here T28 (A := ch_0_2) (len := (x1.2.2.2.2.2.2.2.2.2).length) (cap := ch_0_3) rfl rfl ?_; clear S a; intro a S
    refine s_gT S (b := (decide (3000 < ((x1.2.2.2.2.2.1).length : Int)))) rfl rfl c5 ?_
    refine s_lenS S rfl Tryd.underlying28 rfl ?_; clear S a; intro a S
    refine s_gT S (b := (decide (3000 < ((x1.2.2.2.2.2.1).length : Int)))) rfl rfl c5 ?_
    refine s_bin S rfl rfl rfl rfl ?_; clear S a; intro a S
    refine s_pick S (b := false) (hc_of rfl c5) rfl rfl ?_; clear S a; intro a S
    refine c_end' ?_
    refine x_thenN ?_
    exact j1 _ (decide (30 < ((x1.2.2.2.2.2.2.2.2.2).length : Int))) g1 a w (S.sub ⟨rfl, rfl, trivial⟩ (.cons .here .nil)) h1
/-! smithy/word.Of -/
abbrev word_Of.Ty : Type := Int → Option ((List Int))
def word_Of.Ctr (s : word_Of.Ty) : Prop := ∀ (x1 : Int) (r : (List Int)) (h0 : s x1 = some r) (mi : Mem) (w0 : World), okL mi [(.v (.int .u64 x1))] → Pre mi [] w0 → Calls Tryd.prog 14 (([(.v (.int .u64 x1))] : List D).map D.val).toArray w0 (RetX mi [] (fun (ch : Unit) => ((.agg [.ints .u64 r 4]) : D)) (fun (ch : Unit) => []) w0)
def word_Of.f (x1 : Int) : Option ((List Int)) := some [x1, 0, 0, 0]
theorem word_Of.ok : word_Of.Ctr (word_Of.f) := by
  intro x1 r h0 mi w0 ok hm
  delta word_Of.f at h0
  refine c_enterX (n := 5) [(.v (.int .u64 x1))] (l := [(0, (.v (.int .u64 x1)))]) Tryd.func14 rfl rfl rfl rfl ok hm ?_
  clear ok hm
  intro b0 hb a S
  refine c_region ?_
  refine s_alloc S Z26 rfl ⟨rfl, trivial⟩ rfl ?_; clear S a; intro g1 a w S
  refine c_end ?_
  refine c_region ?_
  refine s_move S rfl rfl ?_; clear S a; intro a S
  refine s_build S (ds := [(0, (.v (.int .u64 x1)))]) (dv := (.agg [.ints .u64 [x1, 0, 0, 0] 4])) rfl (fun _ => by kernel_rfl) ⟨rfl, trivial⟩ rfl ?_; clear S a; intro a S
  refine s_store S rfl rfl rfl (s' := [.ints .u64 [x1, 0, 0, 0] 4]) .here T26 rfl rfl ?_; clear S w; intro w S
  refine c_end ?_
  refine wp_ret ?_
  obtain rfl := Option.some.inj h0
  exact b_ret1 (d := (.agg [.ints .u64 [x1, 0, 0, 0] 4])) S rfl (resD_cell rfl .here T26 rfl rfl) fun ok => S.retX (Hx := []) hb _ _ (() : Unit) .nil ok
/-! math/bits.Mul64 -/
abbrev bits_Mul64.Ty : Type := Int → Int → Option (Int × Int)
def bits_Mul64.Ctr (s : bits_Mul64.Ty) : Prop := ∀ (x1 : Int) (x2 : Int) (r : Int × Int) (h0 : s x1 x2 = some r) (mi : Mem) (w0 : World), okL mi [(.v (.int .u64 x1)), (.v (.int .u64 x2))] → Pre mi [] w0 → Calls Tryd.prog 39 (([(.v (.int .u64 x1)), (.v (.int .u64 x2))] : List D).map D.val).toArray w0 (RetX mi [] (fun (ch : Unit) => ((.tup [(false, [.one (.int .u64 r.1)]), (false, [.one (.int .u64 r.2)])]) : D)) (fun (ch : Unit) => []) w0)
def bits_Mul64.f (x1 : Int) (x2 : Int) : Option (Int × Int) := some (wr .u64 ((wr .u64 ((wr .u64 ((shr x1 32) * (shr x2 32))) + (shr (wr .u64 ((wr .u64 ((shr x1 32) * (bits .and .u64 x2 4294967295))) + (shr (wr .u64 ((bits .and .u64 x1 4294967295) * (bits .and .u64 x2 4294967295))) 32))) 32))) + (shr (wr .u64 ((bits .and .u64 (wr .u64 ((wr .u64 ((shr x1 32) * (bits .and .u64 x2 4294967295))) + (shr (wr .u64 ((bits .and .u64 x1 4294967295) * (bits .and .u64 x2 4294967295))) 32))) 4294967295) + (wr .u64 ((bits .and .u64 x1 4294967295) * (shr x2 32))))) 32)), wr .u64 (x1 * x2))
theorem bits_Mul64.ok : bits_Mul64.Ctr (bits_Mul64.f) := by
  intro x1 x2 r h0 mi w0 ok hm
  delta bits_Mul64.f at h0
  refine c_enterX (n := 51) [(.v (.int .u64 x1)), (.v (.int .u64 x2))] (l := [(0, (.v (.int .u64 x1))), (1, (.v (.int .u64 x2)))]) Tryd.func39 rfl rfl rfl rfl ok hm ?_
  clear ok hm
  intro b0 hb a S
  refine c_region ?_
  refine s_assign S rfl rfl ?_; clear S a; intro a S
  refine s_assign S rfl rfl ?_; clear S a; intro a S
  refine c_end ?_
  refine c_region ?_
  refine s_move S rfl rfl ?_; clear S a; intro a S
  refine s_bin S rfl rfl rfl rfl ?_; clear S a; intro a S
  refine s_assign S rfl rfl ?_; clear S a; intro a S
  refine c_end ?_
  refine c_region ?_
  refine s_move S rfl rfl ?_; clear S a; intro a S
  refine s_shr S (e := 32) rfl rfl (by decide) rfl rfl ?_; clear S a; intro a S
  refine s_assign S rfl rfl ?_; clear S a; intro a S
  refine c_end ?_
  refine c_region ?_
  refine s_move S rfl rfl ?_; clear S a; intro a S
  refine s_bin S rfl rfl rfl rfl ?_; clear S a; intro a S
  refine s_assign S rfl rfl ?_; clear S a; intro a S
  refine c_end ?_
  refine c_region ?_
  refine s_move S rfl rfl ?_; clear S a; intro a S
  refine s_shr S (e := 32) rfl rfl (by decide) rfl rfl ?_; clear S a; intro a S
  refine s_assign S rfl rfl ?_; clear S a; intro a S
  refine c_end ?_
  refine c_region ?_
  refine s_move S rfl rfl ?_; clear S a; intro a S
  refine s_move S rfl rfl ?_; clear S a; intro a S
  refine s_bin S rfl rfl rfl rfl ?_; clear S a; intro a S
  refine s_assign S rfl rfl ?_; clear S a; intro a S
  refine c_end ?_
  refine c_region ?_
  refine s_move S rfl rfl ?_; clear S a; intro a S
  refine s_move S rfl rfl ?_; clear S a; intro a S
  refine s_bin S rfl rfl rfl rfl ?_; clear S a; intro a S
  refine s_move S rfl rfl ?_; clear S a; intro a S
  refine s_shr S (e := 32) rfl rfl (by decide) rfl rfl ?_; clear S a; intro a S
  refine s_bin S rfl rfl rfl rfl ?_; clear S a; intro a S
  refine s_assign S rfl rfl ?_; clear S a; intro a S
  refine c_end ?_
  refine c_region ?_
  refine s_move S rfl rfl ?_; clear S a; intro a S
  refine s_bin S rfl rfl rfl rfl ?_; clear S a; intro a S
  refine s_assign S rfl rfl ?_; clear S a; intro a S
  refine c_end ?_
  refine c_region ?_
  refine s_move S rfl rfl ?_; clear S a; intro a S
  refine s_shr S (e := 32) rfl rfl (by decide) rfl rfl ?_; clear S a; intro a S
  refine s_assign S rfl rfl ?_; clear S a; intro a S
  refine c_end ?_
  refine c_region ?_
  refine s_move S rfl rfl ?_; clear S a; intro a S
  refine s_move S rfl rfl ?_; clear S a; intro a S
  refine s_move S rfl rfl ?_; clear S a; intro a S
  refine s_bin S rfl rfl rfl rfl ?_; clear S a; intro a S
  refine s_bin S rfl rfl rfl rfl ?_; clear S a; intro a S
  refine s_assign S rfl rfl ?_; clear S a; intro a S
  refine c_end ?_
  refine c_region ?_
  refine s_move S rfl rfl ?_; clear S a; intro a S
  refine s_move S rfl rfl ?_; clear S a; intro a S
  refine s_bin S rfl rfl rfl rfl ?_; clear S a; intro a S
  refine s_move S rfl rfl ?_; clear S a; intro a S
  refine s_bin S rfl rfl rfl rfl ?_; clear S a; intro a S
  refine s_move S rfl rfl ?_; clear S a; intro a S
  refine s_shr S (e := 32) rfl rfl (by decide) rfl rfl ?_; clear S a; intro a S
  refine s_bin S rfl rfl rfl rfl ?_; clear S a; intro a S
  refine s_assign S rfl rfl ?_; clear S a; intro a S
  refine c_end ?_
  refine c_region ?_
  refine s_move S rfl rfl ?_; clear S a; intro a S
  refine s_move S rfl rfl ?_; clear S a; intro a S
  refine s_bin S rfl rfl rfl rfl ?_; clear S a; intro a S
  refine s_assign S rfl rfl ?_; clear S a; intro a S
  refine c_end ?_
  refine wp_ret ?_
  obtain rfl := Option.some.inj h0
  exact b_ret2 (d1 := (.v (.int .u64 (wr .u64 ((wr .u64 ((wr .u64 ((shr x1 32) * (shr x2 32))) + (shr (wr .u64 ((wr .u64 ((shr x1 32) * (bits .and .u64 x2 4294967295))) + (shr (wr .u64 ((bits .and .u64 x1 4294967295) * (bits .and .u64 x2 4294967295))) 32))) 32))) + (shr (wr .u64 ((bits .and .u64 (wr .u64 ((wr .u64 ((shr x1 32) * (bits .and .u64 x2 4294967295))) + (shr (wr .u64 ((bits .and .u64 x1 4294967295) * (bits .and .u64 x2 4294967295))) 32))) 4294967295) + (wr .u64 ((bits .and .u64 x1 4294967295) * (shr x2 32))))) 32)))))) (d2 := (.v (.int .u64 (wr .u64 (x1 * x2))))) S rfl rfl rfl fun ok1 ok2 => S.retX (Hx := []) hb _ _ (() : Unit) .nil ⟨⟨ok1, trivial⟩, ⟨ok2, trivial⟩, trivial⟩
/-! smithy/wide.Product -/
abbrev wide_Product.Ty : Type := (List Int) → (List Int) → Option ((List Int) × (List Int))
def wide_Product.Ctr (s : wide_Product.Ty) : Prop := ∀ (x1 : List Int) (x2 : List Int) (r : (List Int) × (List Int)) (h0 : s x1 x2 = some r) (mi : Mem) (w0 : World), okL mi [(.agg [.ints .u64 x1 4]), (.agg [.ints .u64 x2 4])] → Pre mi [] w0 → Calls Tryd.prog 26 (([(.agg [.ints .u64 x1 4]), (.agg [.ints .u64 x2 4])] : List D).map D.val).toArray w0 (RetX mi [] (fun (ch : Unit) => ((.tup [(true, [.ints .u64 r.1 4]), (true, [.ints .u64 r.2 4])]) : D)) (fun (ch : Unit) => []) w0)
def wide_Product.j1 (y1 : List Int) : Option ((List Int) × (List Int)) := some (((y1).drop 0).take 4, ((y1).drop 4).take 4)
def wide_Product.j2 (y22 : Int) (rec1 : Int → (List Int) → Option ((List Int) × (List Int))) (y32 : List Int) : Option ((List Int) × (List Int)) := rec1 (wr .i64 (y22 + 1)) y32
def wide_Product.j3 (y22 : Int) (rec1 : Int → (List Int) → Option ((List Int) × (List Int))) (y39 : Int) (y40 : List Int) : Option ((List Int) × (List Int)) := if (0 : Int) ≤ (wr .i64 (y22 + 4)) ∧ (wr .i64 (y22 + 4)) < 8 then (wide_Product.j2 y22 rec1 (y40.set (Int.toNat (wr .i64 (y22 + 4))) y39)) else none
def wide_Product.b2 (x1 : List Int) (x2 : List Int) (y22 : Int) (rec1 : Int → (List Int) → Option ((List Int) × (List Int))) (rec2 : Int → Int → (List Int) → Option ((List Int) × (List Int))) (y44 : Int) (y45 : Int) (y46 : List Int) : Option ((List Int) × (List Int)) := if (decide (y44 < 4)) = true then (if (0 : Int) ≤ y22 ∧ y22 < 4 then (if (0 : Int) ≤ y44 ∧ y44 < 4 then ((bits_Mul64.f (rd x1 y22) (rd x2 y44)).bind fun t1 => (if (0 : Int) ≤ (wr .i64 (y22 + y44)) ∧ (wr .i64 (y22 + y44)) < 8 then (if (0 : Int) ≤ t1.2 ∧ (0 : Int) ≤ (rd y46 (wr .i64 (y22 + y44))) ∧ (0 : Int) ≤ 0 ∧ (0 : Int) ≤ 1 then (if (0 : Int) ≤ ((t1.2 + (rd y46 (wr .i64 (y22 + y44))) + 0) % 18446744073709551616) ∧ (0 : Int) ≤ y45 ∧ (0 : Int) ≤ 0 ∧ (0 : Int) ≤ 1 then (rec2 (wr .i64 (y44 + 1)) (wr .u64 ((wr .u64 (t1.1 + ((t1.2 + (rd y46 (wr .i64 (y22 + y44))) + 0) / 18446744073709551616))) + ((((t1.2 + (rd y46 (wr .i64 (y22 + y44))) + 0) % 18446744073709551616) + y45 + 0) / 18446744073709551616))) (y46.set (Int.toNat (wr .i64 (y22 + y44))) ((((t1.2 + (rd y46 (wr .i64 (y22 + y44))) + 0) % 18446744073709551616) + y45 + 0) % 18446744073709551616))) else none) else none) else none)) else none) else none) else (wide_Product.j3 y22 rec1 y45 y46)
def wide_Product.l2 (x1 : List Int) (x2 : List Int) (y22 : Int) (rec1 : Int → (List Int) → Option ((List Int) × (List Int))) : Nat → Int → Int → (List Int) → Option ((List Int) × (List Int))
  | 0, _, _, _ => none
  | q + 1, y44, y45, y46 => wide_Product.b2 x1 x2 y22 rec1 (wide_Product.l2 x1 x2 y22 rec1 q) y44 y45 y46
def wide_Product.b1 (k : Nat) (x1 : List Int) (x2 : List Int) (rec1 : Int → (List Int) → Option ((List Int) × (List Int))) (y22 : Int) (y23 : List Int) : Option ((List Int) × (List Int)) := if (decide (y22 < 4)) = true then (wide_Product.l2 x1 x2 y22 rec1 k 0 0 y23) else (wide_Product.j1 y23)
def wide_Product.l1 (k : Nat) (x1 : List Int) (x2 : List Int) : Nat → Int → (List Int) → Option ((List Int) × (List Int))
  | 0, _, _ => none
  | q + 1, y22, y23 => wide_Product.b1 k x1 x2 (wide_Product.l1 k x1 x2 q) y22 y23
def wide_Product.f (k : Nat) (x1 : List Int) (x2 : List Int) : Option ((List Int) × (List Int)) := wide_Product.l1 k x1 x2 k 0 [0, 0, 0, 0, 0, 0, 0, 0]
theorem wide_Product.ok (k : Nat) : wide_Product.Ctr (wide_Product.f k) := by
  intro x1 x2 r h0 mi w0 ok hm
  delta wide_Product.f at h0
  refine c_enterX (n := 68) [(.agg [.ints .u64 x1 4]), (.agg [.ints .u64 x2 4])] (l := [(0, (.agg [.ints .u64 x1 4])), (1, (.agg [.ints .u64 x2 4]))]) Tryd.func26 rfl rfl rfl rfl ok hm ?_
  clear ok hm
  intro b0 hb a S
  refine c_region ?_
  refine s_box S rfl rfl rfl ?_; clear S a; intro g1 a w S
  refine s_box S rfl rfl rfl ?_; clear S a w; intro g2 a w S
  refine s_alloc S Z26 rfl ⟨rfl, trivial⟩ rfl ?_; clear S a w; intro g3 a w S
  refine s_alloc S Z26 rfl ⟨rfl, trivial⟩ rfl ?_; clear S a w; intro g4 a w S
  refine c_end ?_
  refine c_region ?_
  refine s_alloc S Z81 rfl ⟨rfl, trivial⟩ rfl ?_; clear S a w; intro g5 a w S
  refine c_end ?_
  refine wp_seq_k ?_
  intro K1 hK1
  have j1 : ∀ (m : Mem) (g71 : Nat) (g72 : Nat) (g73 : Nat) (y1 : List Int) (a : Act) (w : World), St 68 m b0 [(6, (.v (.pointer (some ⟨g71, 0, none⟩)))), (5, (.v (.pointer (some ⟨g72, 0, none⟩)))), (4, (.v (.pointer (some ⟨g73, 0, none⟩))))] [Res.cells g71 81 [.ints .u64 y1 8], Res.cells g72 26 [.ints .u64 [0, 0, 0, 0] 4], Res.cells g73 26 [.ints .u64 [0, 0, 0, 0] 4]] a w → wide_Product.j1 y1 = some r → K1 a w := by
    intro m g71 g72 g73 y1 a w S h0
    delta wide_Product.j1 at h0
    refine hK1 a w ?_
    refine wp_seq (c_heldS S (.take 0 (.take 1 (.take 2 (.take 3 (.take 4 (.take 5 (.alts (.run 6 true (.alts (.run 7 false .done .nil)) .nil)))))))) 7 [Res.cells g71 81 [.ints .u64 y1 8], Res.cells g72 26 [.ints .u64 [0, 0, 0, 0] 4]] (.cons .here (.cons .here .nil)) ⟨Res.stay_cells, Res.stay_cells, trivial⟩ [(6, (.v (.pointer (some ⟨g71, 0, none⟩))))] ⟨rfl, trivial⟩ (by kernel_rfl) (by kernel_rfl) ?_); clear S; intro w S CL hw le
    refine h_sliceA S CL hw le ⟨rfl, trivial⟩ (i := 0) (j := 4) (o' := 0) (len := 4) (cap := 8) rfl Tryd.underlying81 T24 (.inl ⟨rfl, rfl⟩) (.inr ⟨_, _, rfl, rfl⟩) (by decide) rfl rfl rfl rfl rfl trivial ?_; clear S CL a; intro a S CL
    refine h_arrp S CL hw le ⟨rfl, rfl, trivial⟩ rfl Tryd.underlying26 (by decide) rfl rfl trivial ?_; clear S CL a; intro a S CL
    refine h_ldInts S CL hw le ⟨rfl, rfl, rfl, trivial⟩ (lo := 0) (ys := ((y1).drop 0).take 4) rfl .here T26 .here rfl (by decide) rfl rfl rfl trivial ?_; clear S CL a; intro a S CL
    refine h_sliceA S CL hw le ⟨rfl, rfl, rfl, rfl, trivial⟩ (i := 4) (j := 8) (o' := 4) (len := 4) (cap := 4) rfl Tryd.underlying81 T24 (.inr ⟨_, _, rfl, rfl⟩) (.inl ⟨rfl, rfl⟩) (by decide) rfl rfl rfl rfl rfl trivial ?_; clear S CL a; intro a S CL
    refine h_arrp S CL hw le ⟨rfl, rfl, rfl, rfl, rfl, trivial⟩ rfl Tryd.underlying26 (by decide) rfl rfl trivial ?_; clear S CL a; intro a S CL
    refine h_ldInts S CL hw le ⟨rfl, rfl, rfl, rfl, rfl, rfl, trivial⟩ (lo := 4) (ys := ((y1).drop 4).take 4) rfl .here T26 .here rfl (by decide) rfl rfl rfl trivial ?_; clear S CL a; intro a S CL
    refine h_run' S rfl trivial ?_
    refine s_store S rfl rfl rfl (s' := [.ints .u64 (((y1).drop 0).take 4) 4]) (.there (.there .here)) T26 rfl rfl ?_; clear S; intro w S
    replace hw := CL.again hw S (.cons .here (.cons .here .nil)) le
    refine h_back ⟨fun _ => hw, ?_⟩
    refine h_run' S rfl trivial ?_
    refine s_store S rfl rfl rfl (s' := [.ints .u64 (((y1).drop 4).take 4) 4]) (.there .here) T26 rfl rfl ?_; clear S; intro w S
    refine h_back ⟨fun h => (nomatch h), ?_⟩
    refine h_done ?_; clear CL hw le
    refine x_thenN ?_
    refine wp_ret ?_
    obtain rfl := Option.some.inj h0
    exact b_ret2 (d1 := (.agg [.ints .u64 (((y1).drop 0).take 4) 4])) (d2 := (.agg [.ints .u64 (((y1).drop 4).take 4) 4])) S rfl (resD_cell rfl (.there (.there .here)) T26 rfl rfl) (resD_cell rfl (.there .here) T26 rfl rfl) fun ok1 ok2 => S.retX (Hx := []) hb _ _ (() : Unit) .nil ⟨ok1, ok2, trivial⟩
  refine c_region ?_
  refine s_move S rfl rfl ?_; clear S a; intro a S
  refine c_end ?_
  refine wp_block ?_
  refine c_loop (fun q1 a w => ∃ (m : Mem) (y22 : Int) (g134 : Nat) (g135 : Nat) (g136 : Nat) (g137 : Nat) (g138 : Nat) (y23 : List Int), St 68 m b0 [(13, (.v (.int .i64 y22))), (6, (.v (.pointer (some ⟨g134, 0, none⟩)))), (5, (.v (.pointer (some ⟨g135, 0, none⟩)))), (4, (.v (.pointer (some ⟨g136, 0, none⟩)))), (3, (.v (.pointer (some ⟨g137, 0, none⟩)))), (2, (.v (.pointer (some ⟨g138, 0, none⟩))))] [Res.cells g134 81 [.ints .u64 y23 8], Res.cells g135 26 [.ints .u64 [0, 0, 0, 0] 4], Res.cells g136 26 [.ints .u64 [0, 0, 0, 0] 4], Res.cells g137 26 [.ints .u64 x2 4], Res.cells g138 26 [.ints .u64 x1 4]] a w ∧ wide_Product.l1 k x1 x2 q1 y22 y23 = some r) ?_ ?_ (k := k) ⟨_, 0, g5, g4, g3, g2, g1, [0, 0, 0, 0, 0, 0, 0, 0], (S.sub ⟨rfl, rfl, rfl, rfl, rfl, rfl, trivial⟩ (.cons .here (.cons .here (.cons .here (.cons .here (.cons .here .nil)))))), h0⟩
  · rintro a w ⟨m, y22, g134, g135, g136, g137, g138, y23, S, h0⟩
    exact (nomatch (show (none : Option ((List Int) × (List Int))) = some r from h0))
  · clear S h0
    rintro q1 a w ⟨m, y22, g134, g135, g136, g137, g138, y23, S, h0⟩
    replace h0 : wide_Product.b1 k x1 x2 (wide_Product.l1 k x1 x2 q1) y22 y23 = some r := h0
    delta wide_Product.b1 at h0
    refine c_region ?_
    refine s_bin S rfl rfl rfl rfl ?_; clear S a; intro a S
    refine c_end ?_
    refine wp_seq ?_
    rcases ite_of h0 with ⟨c1, h1⟩ | ⟨c1, h1⟩ <;> clear h0
    · refine c_condT S rfl c1 ?_
      refine wp_skip ?_
      refine x_thenN ?_
      refine wp_seq_k ?_
      intro K2 hK2
      have j2 : ∀ (m : Mem) (g159 : Nat) (g160 : Nat) (g161 : Nat) (g162 : Nat) (g163 : Nat) (y32 : List Int) (a : Act) (w : World), St 68 m b0 [(13, (.v (.int .i64 y22))), (6, (.v (.pointer (some ⟨g159, 0, none⟩)))), (5, (.v (.pointer (some ⟨g160, 0, none⟩)))), (4, (.v (.pointer (some ⟨g161, 0, none⟩)))), (3, (.v (.pointer (some ⟨g162, 0, none⟩)))), (2, (.v (.pointer (some ⟨g163, 0, none⟩))))] [Res.cells g159 81 [.ints .u64 y32 8], Res.cells g160 26 [.ints .u64 [0, 0, 0, 0] 4], Res.cells g161 26 [.ints .u64 [0, 0, 0, 0] 4], Res.cells g162 26 [.ints .u64 x2 4], Res.cells g163 26 [.ints .u64 x1 4]] a w → wide_Product.j2 y22 (wide_Product.l1 k x1 x2 q1) y32 = some r → K2 a w := by
        intro m g159 g160 g161 g162 g163 y32 a w S h0
        delta wide_Product.j2 at h0
        refine hK2 a w ?_
        refine c_region' ?_
        refine s_bin S rfl rfl rfl rfl ?_; clear S a; intro a S
        refine s_move S rfl rfl ?_; clear S a; intro a S
        refine c_end' ?_
        refine x_thenN ?_
        exact ⟨_, (wr .i64 (y22 + 1)), g159, g160, g161, g162, g163, y32, (S.sub ⟨rfl, rfl, rfl, rfl, rfl, rfl, trivial⟩ (.cons .here (.cons .here (.cons .here (.cons .here (.cons .here .nil)))))), h0⟩
      refine wp_block ?_
      refine c_region ?_
      refine s_move S rfl rfl ?_; clear S a; intro a S
      refine s_assign S rfl rfl ?_; clear S a; intro a S
      refine c_end ?_
      refine c_region ?_
      refine s_assign S rfl rfl ?_; clear S a; intro a S
      refine c_end ?_
      refine wp_seq_k ?_
      intro K3 hK3
      have j3 : ∀ (m : Mem) (y39 : Int) (g179 : Nat) (g180 : Nat) (g181 : Nat) (g182 : Nat) (g183 : Nat) (y40 : List Int) (a : Act) (w : World), St 68 m b0 [(8, (.v (.int .u64 y39))), (7, (.v (.int .i64 y22))), (13, (.v (.int .i64 y22))), (6, (.v (.pointer (some ⟨g179, 0, none⟩)))), (5, (.v (.pointer (some ⟨g180, 0, none⟩)))), (4, (.v (.pointer (some ⟨g181, 0, none⟩)))), (3, (.v (.pointer (some ⟨g182, 0, none⟩)))), (2, (.v (.pointer (some ⟨g183, 0, none⟩))))] [Res.cells g179 81 [.ints .u64 y40 8], Res.cells g180 26 [.ints .u64 [0, 0, 0, 0] 4], Res.cells g181 26 [.ints .u64 [0, 0, 0, 0] 4], Res.cells g182 26 [.ints .u64 x2 4], Res.cells g183 26 [.ints .u64 x1 4]] a w → wide_Product.j3 y22 (wide_Product.l1 k x1 x2 q1) y39 y40 = some r → K3 a w := by
        intro m y39 g179 g180 g181 g182 g183 y40 a w S h0
        delta wide_Product.j3 at h0
        refine hK3 a w ?_
        refine c_region' ?_
        refine s_move S rfl rfl ?_; clear S a; intro a S
        refine s_bin S rfl rfl rfl rfl ?_; clear S a; intro a S
        refine s_move S rfl rfl ?_; clear S a; intro a S
        obtain ⟨c2, h1⟩ := chk_of h0; clear h0
        refine s_iaddr S rfl rfl Tryd.underlying81 T24 c2.1 c2.2 (mul1 _ _) rfl ?_; clear S a; intro a S
        refine s_storei S (i := (wr .i64 (y22 + 4))) rfl rfl .here T24 .here rfl c2.1 c2.2 ?_; clear S w; intro w S
        refine c_end' ?_
        refine x_blockN ?_
        refine x_thenN ?_
        exact j2 _ g179 g180 g181 g182 g183 (y40.set (Int.toNat (wr .i64 (y22 + 4))) y39) a w (S.sub ⟨rfl, rfl, rfl, rfl, rfl, rfl, trivial⟩ (.cons .here (.cons .here (.cons .here (.cons .here (.cons .here .nil)))))) h1
      refine c_region ?_
      refine s_move S rfl rfl ?_; clear S a; intro a S
      refine c_end ?_
      refine wp_block ?_
      refine c_loop (fun q2 a w => ∃ (m : Mem) (y44 : Int) (y45 : Int) (g194 : Nat) (g195 : Nat) (g196 : Nat) (g197 : Nat) (g198 : Nat) (y46 : List Int), St 68 m b0 [(16, (.v (.int .i64 y44))), (8, (.v (.int .u64 y45))), (7, (.v (.int .i64 y22))), (13, (.v (.int .i64 y22))), (6, (.v (.pointer (some ⟨g194, 0, none⟩)))), (5, (.v (.pointer (some ⟨g195, 0, none⟩)))), (4, (.v (.pointer (some ⟨g196, 0, none⟩)))), (3, (.v (.pointer (some ⟨g197, 0, none⟩)))), (2, (.v (.pointer (some ⟨g198, 0, none⟩))))] [Res.cells g194 81 [.ints .u64 y46 8], Res.cells g195 26 [.ints .u64 [0, 0, 0, 0] 4], Res.cells g196 26 [.ints .u64 [0, 0, 0, 0] 4], Res.cells g197 26 [.ints .u64 x2 4], Res.cells g198 26 [.ints .u64 x1 4]] a w ∧ wide_Product.l2 x1 x2 y22 (wide_Product.l1 k x1 x2 q1) q2 y44 y45 y46 = some r) ?_ ?_ (k := k) ⟨_, 0, 0, g134, g135, g136, g137, g138, y23, (S.sub ⟨rfl, rfl, rfl, rfl, rfl, rfl, rfl, rfl, rfl, trivial⟩ (.cons .here (.cons .here (.cons .here (.cons .here (.cons .here .nil)))))), h1⟩
      · rintro a w ⟨m, y44, y45, g194, g195, g196, g197, g198, y46, S, h0⟩
        exact (nomatch (show (none : Option ((List Int) × (List Int))) = some r from h0))
      · clear S h1
        rintro q2 a w ⟨m, y44, y45, g194, g195, g196, g197, g198, y46, S, h0⟩
        replace h0 : wide_Product.b2 x1 x2 y22 (wide_Product.l1 k x1 x2 q1) (wide_Product.l2 x1 x2 y22 (wide_Product.l1 k x1 x2 q1) q2) y44 y45 y46 = some r := h0
        delta wide_Product.b2 at h0
        refine c_region ?_
        refine s_bin S rfl rfl rfl rfl ?_; clear S a; intro a S
        refine c_end ?_
        refine wp_seq ?_
        rcases ite_of h0 with ⟨c3, h1⟩ | ⟨c3, h1⟩ <;> clear h0
        · refine c_condT S rfl c3 ?_
          refine wp_skip ?_
          refine x_thenN ?_
          refine wp_seq ?_
          refine wp_block ?_
          refine c_region ?_
          refine s_move S rfl rfl ?_; clear S a; intro a S
          refine s_assign S rfl rfl ?_; clear S a; intro a S
          refine c_end ?_
          refine wp_seq (c_heldS S (.take 0 (.take 1 (.take 2 (.take 3 (.take 4 (.take 5 (.alts (.run 6 true (.take 7 (.take 8 (.take 9 (.take 10 (.take 11 .done))))) .nil)))))))) 12 [Res.cells g194 81 [.ints .u64 y46 8], Res.cells g195 26 [.ints .u64 [0, 0, 0, 0] 4], Res.cells g196 26 [.ints .u64 [0, 0, 0, 0] 4], Res.cells g197 26 [.ints .u64 x2 4], Res.cells g198 26 [.ints .u64 x1 4]] (.cons .here (.cons .here (.cons .here (.cons .here (.cons .here .nil))))) ⟨Res.stay_cells, Res.stay_cells, Res.stay_cells, Res.stay_cells, Res.stay_cells, trivial⟩ [(9, (.v (.int .i64 y44))), (7, (.v (.int .i64 y22))), (3, (.v (.pointer (some ⟨g197, 0, none⟩)))), (2, (.v (.pointer (some ⟨g198, 0, none⟩))))] ⟨rfl, rfl, rfl, rfl, trivial⟩ (by kernel_rfl) (by kernel_rfl) ?_); clear S; intro w S CL hw le
          refine h_move S CL hw le ⟨rfl, rfl, rfl, rfl, trivial⟩ rfl rfl rfl trivial ?_; clear S CL a; intro a S CL
          obtain ⟨c4, h2⟩ := chk_of h1; clear h1
          refine h_iaddr S CL hw le ⟨rfl, rfl, rfl, rfl, rfl, trivial⟩ rfl rfl Tryd.underlying26 T24 c4.1 c4.2 (mul1 _ _) rfl rfl trivial ?_; clear S CL a; intro a S CL
          refine h_loadi S CL hw le ⟨rfl, rfl, rfl, rfl, rfl, rfl, trivial⟩ (i := y22) rfl (.there (.there (.there (.there .here)))) T24 .here rfl c4.1 c4.2 rfl rfl trivial ?_; clear S CL a; intro a S CL
          refine h_move S CL hw le ⟨rfl, rfl, rfl, rfl, rfl, rfl, rfl, trivial⟩ rfl rfl rfl trivial ?_; clear S CL a; intro a S CL
          obtain ⟨c5, h3⟩ := chk_of h2; clear h2
          refine h_iaddr S CL hw le ⟨rfl, rfl, rfl, rfl, rfl, rfl, rfl, rfl, trivial⟩ rfl rfl Tryd.underlying26 T24 c5.1 c5.2 (mul1 _ _) rfl rfl trivial ?_; clear S CL a; intro a S CL
          refine h_loadi S CL hw le ⟨rfl, rfl, rfl, rfl, rfl, rfl, rfl, rfl, rfl, trivial⟩ (i := y44) rfl (.there (.there (.there .here))) T24 .here rfl c5.1 c5.2 rfl rfl trivial ?_; clear S CL a; intro a S CL
          refine h_run' S rfl trivial ?_
          obtain ⟨t1, et1, h4⟩ := bind_of h3; clear h3
          refine s_callP S (fun (ch : Unit) => ((.tup [(false, [.one (.int .u64 t1.1)]), (false, [.one (.int .u64 t1.2)])]) : D)) N39 rfl rfl (bits_Mul64.ok (rd x1 y22) (rd x2 y44) t1 et1 _ _) ?_; clear S a; intro ch1 m le1 a w S
          replace le := le.trans le1
          replace hw := CL.again hw S (.cons .here (.cons .here (.cons .here (.cons .here (.cons .here .nil))))) le
          refine h_back ⟨fun _ => hw, ?_⟩
          replace CL := CL.add (t := 26) (d := (.tup [(false, [.one (.int .u64 t1.1)]), (false, [.one (.int .u64 t1.2)])])) S rfl rfl
          refine h_move S CL hw le ⟨rfl, rfl, rfl, rfl, rfl, rfl, rfl, rfl, rfl, rfl, rfl, trivial⟩ rfl rfl rfl trivial ?_; clear S CL a; intro a S CL
          refine h_extract S CL hw le ⟨rfl, rfl, rfl, rfl, rfl, rfl, rfl, rfl, rfl, rfl, rfl, rfl, trivial⟩ rfl rfl rfl rfl rfl trivial ?_; clear S CL a; intro a S CL
          refine h_extract S CL hw le ⟨rfl, rfl, rfl, rfl, rfl, rfl, rfl, rfl, rfl, rfl, rfl, rfl, rfl, trivial⟩ rfl rfl rfl rfl rfl trivial ?_; clear S CL a; intro a S CL
          refine h_assign S CL hw le ⟨rfl, rfl, rfl, rfl, rfl, rfl, rfl, rfl, rfl, rfl, rfl, rfl, rfl, rfl, trivial⟩ rfl rfl rfl trivial ?_; clear S CL a; intro a S CL
          refine h_assign S CL hw le ⟨rfl, rfl, rfl, rfl, rfl, rfl, rfl, rfl, rfl, rfl, rfl, rfl, rfl, rfl, rfl, trivial⟩ rfl rfl rfl trivial ?_; clear S CL a; intro a S CL
          refine h_done ?_; clear CL hw le
          refine x_thenN ?_
          refine c_region ?_
          refine s_move S rfl rfl ?_; clear S a; intro a S
          refine s_move S rfl rfl ?_; clear S a; intro a S
          refine s_move S rfl rfl ?_; clear S a; intro a S
          refine s_bin S rfl rfl rfl rfl ?_; clear S a; intro a S
          obtain ⟨c6, h5⟩ := chk_of h4; clear h4
          refine s_iaddr S rfl rfl Tryd.underlying81 T24 c6.1 c6.2 (mul1 _ _) rfl ?_; clear S a; intro a S
          refine s_loadi S (i := (wr .i64 (y22 + y44))) rfl .here T24 .here rfl c6.1 c6.2 rfl ?_; clear S a; intro a S
          obtain ⟨c7, h6⟩ := chk_of h5; clear h5
          refine s_extAdd S X40 rfl rfl rfl c7 rfl ?_; clear S a; intro a S
          refine s_move S rfl rfl ?_; clear S a; intro a S
          refine s_extract S rfl rfl rfl rfl ?_; clear S a; intro a S
          refine s_extract S rfl rfl rfl rfl ?_; clear S a; intro a S
          refine s_assign S rfl rfl ?_; clear S a; intro a S
          refine s_assign S rfl rfl ?_; clear S a; intro a S
          refine c_end ?_
          refine c_region ?_
          refine s_move S rfl rfl ?_; clear S a; intro a S
          refine s_move S rfl rfl ?_; clear S a; intro a S
          refine s_bin S rfl rfl rfl rfl ?_; clear S a; intro a S
          refine s_assign S rfl rfl ?_; clear S a; intro a S
          refine c_end ?_
          refine c_region ?_
          refine s_move S rfl rfl ?_; clear S a; intro a S
          refine s_move S rfl rfl ?_; clear S a; intro a S
          obtain ⟨c8, h7⟩ := chk_of h6; clear h6
          refine s_extAdd S X40 rfl rfl rfl c8 rfl ?_; clear S a; intro a S
          refine s_move S rfl rfl ?_; clear S a; intro a S
          refine s_extract S rfl rfl rfl rfl ?_; clear S a; intro a S
          refine s_extract S rfl rfl rfl rfl ?_; clear S a; intro a S
          refine s_assign S rfl rfl ?_; clear S a; intro a S
          refine s_assign S rfl rfl ?_; clear S a; intro a S
          refine c_end ?_
          refine c_region ?_
          refine s_move S rfl rfl ?_; clear S a; intro a S
          refine s_move S rfl rfl ?_; clear S a; intro a S
          refine s_bin S rfl rfl rfl rfl ?_; clear S a; intro a S
          refine s_move S rfl rfl ?_; clear S a; intro a S
          refine s_iaddr S rfl rfl Tryd.underlying81 T24 c6.1 c6.2 (mul1 _ _) rfl ?_; clear S a; intro a S
          refine s_storei S (i := (wr .i64 (y22 + y44))) rfl rfl .here T24 .here rfl c6.1 c6.2 ?_; clear S w; intro w S
          refine c_end ?_
          refine c_region' ?_
          refine s_move S rfl rfl ?_; clear S a; intro a S
          refine s_move S rfl rfl ?_; clear S a; intro a S
          refine s_bin S rfl rfl rfl rfl ?_; clear S a; intro a S
          refine s_assign S rfl rfl ?_; clear S a; intro a S
          refine c_end' ?_
          refine x_blockN ?_
          refine x_thenN ?_
          refine c_region' ?_
          refine s_bin S rfl rfl rfl rfl ?_; clear S a; intro a S
          refine s_move S rfl rfl ?_; clear S a; intro a S
          refine c_end' ?_
          refine x_thenN ?_
          exact ⟨_, (wr .i64 (y44 + 1)), (wr .u64 ((wr .u64 (t1.1 + ((t1.2 + (rd y46 (wr .i64 (y22 + y44))) + 0) / 18446744073709551616))) + ((((t1.2 + (rd y46 (wr .i64 (y22 + y44))) + 0) % 18446744073709551616) + y45 + 0) / 18446744073709551616))), g194, g195, g196, g197, g198, (y46.set (Int.toNat (wr .i64 (y22 + y44))) ((((t1.2 + (rd y46 (wr .i64 (y22 + y44))) + 0) % 18446744073709551616) + y45 + 0) % 18446744073709551616)), (S.sub ⟨rfl, rfl, rfl, rfl, rfl, rfl, rfl, rfl, rfl, trivial⟩ (.cons .here (.cons .here (.cons .here (.cons .here (.cons .here .nil)))))), h7⟩
        · refine c_condF S rfl c3 ?_
          refine wp_exit ?_
          refine x_thenX ?_
          refine x_thenX ?_
          refine x_blockX ?_
          refine x_thenN ?_
          exact j3 _ y45 g194 g195 g196 g197 g198 y46 a w (S.sub ⟨rfl, rfl, rfl, rfl, rfl, rfl, rfl, rfl, trivial⟩ (.cons .here (.cons .here (.cons .here (.cons .here (.cons .here .nil)))))) h1
    · refine c_condF S rfl c1 ?_
      refine wp_exit ?_
      refine x_thenX ?_
      refine x_thenX ?_
      refine x_blockX ?_
      refine x_thenN ?_
      exact j1 _ g134 g135 g136 y23 a w (S.sub ⟨rfl, rfl, rfl, trivial⟩ (.cons .here (.cons .here (.cons .here .nil)))) h1
/-! smithy/word.Add -/
abbrev word_Add.Ty : Type := (List Int) → (List Int) → Option ((List Int))
def word_Add.Ctr (s : word_Add.Ty) : Prop := ∀ (x1 : List Int) (x2 : List Int) (r : (List Int)) (h0 : s x1 x2 = some r) (mi : Mem) (w0 : World), okL mi [(.agg [.ints .u64 x1 4]), (.agg [.ints .u64 x2 4])] → Pre mi [] w0 → Calls Tryd.prog 27 (([(.agg [.ints .u64 x1 4]), (.agg [.ints .u64 x2 4])] : List D).map D.val).toArray w0 (RetX mi [] (fun (ch : Unit) => ((.agg [.ints .u64 r 4]) : D)) (fun (ch : Unit) => []) w0)
def word_Add.j1 (y1 : List Int) : Option ((List Int)) := some y1
def word_Add.b1 (x1 : List Int) (x2 : List Int) (rec1 : Int → Int → (List Int) → Option ((List Int))) (y5 : Int) (y6 : Int) (y7 : List Int) : Option ((List Int)) := if (decide (y5 < 4)) = true then (if (0 : Int) ≤ y5 ∧ y5 < 4 then (if (0 : Int) ≤ (rd x1 y5) ∧ (0 : Int) ≤ (rd x2 y5) ∧ (0 : Int) ≤ y6 ∧ (y6 : Int) ≤ 1 then (rec1 (wr .i64 (y5 + 1)) (((rd x1 y5) + (rd x2 y5) + y6) / 18446744073709551616) (y7.set (Int.toNat y5) (((rd x1 y5) + (rd x2 y5) + y6) % 18446744073709551616))) else none) else none) else (word_Add.j1 y7)
def word_Add.l1 (x1 : List Int) (x2 : List Int) : Nat → Int → Int → (List Int) → Option ((List Int))
  | 0, _, _, _ => none
  | q + 1, y5, y6, y7 => word_Add.b1 x1 x2 (word_Add.l1 x1 x2 q) y5 y6 y7
def word_Add.f (k : Nat) (x1 : List Int) (x2 : List Int) : Option ((List Int)) := word_Add.l1 x1 x2 k 0 0 [0, 0, 0, 0]
theorem word_Add.ok (k : Nat) : word_Add.Ctr (word_Add.f k) := by
  intro x1 x2 r h0 mi w0 ok hm
  delta word_Add.f at h0
  refine c_enterX (n := 30) [(.agg [.ints .u64 x1 4]), (.agg [.ints .u64 x2 4])] (l := [(0, (.agg [.ints .u64 x1 4])), (1, (.agg [.ints .u64 x2 4]))]) Tryd.func27 rfl rfl rfl rfl ok hm ?_
  clear ok hm
  intro b0 hb a S
  refine c_region ?_
  refine s_box S rfl rfl rfl ?_; clear S a; intro g1 a w S
  refine s_box S rfl rfl rfl ?_; clear S a w; intro g2 a w S
  refine s_alloc S Z26 rfl ⟨rfl, trivial⟩ rfl ?_; clear S a w; intro g3 a w S
  refine c_end ?_
  refine c_region ?_
  refine s_alloc S Z26 rfl ⟨rfl, trivial⟩ rfl ?_; clear S a w; intro g4 a w S
  refine c_end ?_
  refine c_region ?_
  refine s_assign S rfl rfl ?_; clear S a; intro a S
  refine c_end ?_
  refine wp_seq_k ?_
  intro K1 hK1
  have j1 : ∀ (m : Mem) (g17 : Nat) (g18 : Nat) (y1 : List Int) (a : Act) (w : World), St 30 m b0 [(5, (.v (.pointer (some ⟨g17, 0, none⟩)))), (4, (.v (.pointer (some ⟨g18, 0, none⟩))))] [Res.cells g17 26 [.ints .u64 y1 4], Res.cells g18 26 [.ints .u64 [0, 0, 0, 0] 4]] a w → word_Add.j1 y1 = some r → K1 a w := by
    intro m g17 g18 y1 a w S h0
    delta word_Add.j1 at h0
    refine hK1 a w ?_
    refine c_region ?_
    refine s_loada S rfl .here T26 (s' := [.ints .u64 y1 4]) rfl rfl ?_; clear S a; intro a S
    refine s_store S rfl rfl rfl (s' := [.ints .u64 y1 4]) (.there .here) T26 rfl rfl ?_; clear S w; intro w S
    refine c_end ?_
    refine wp_ret ?_
    obtain rfl := Option.some.inj h0
    exact b_ret1 (d := (.agg [.ints .u64 y1 4])) S rfl (resD_cell rfl (.there .here) T26 rfl rfl) fun ok => S.retX (Hx := []) hb _ _ (() : Unit) .nil ok
  refine c_region ?_
  refine s_move S rfl rfl ?_; clear S a; intro a S
  refine c_end ?_
  refine wp_block ?_
  refine c_loop (fun q1 a w => ∃ (m : Mem) (y5 : Int) (y6 : Int) (g27 : Nat) (g28 : Nat) (g29 : Nat) (g30 : Nat) (y7 : List Int), St 30 m b0 [(10, (.v (.int .i64 y5))), (6, (.v (.int .u64 y6))), (5, (.v (.pointer (some ⟨g27, 0, none⟩)))), (4, (.v (.pointer (some ⟨g28, 0, none⟩)))), (3, (.v (.pointer (some ⟨g29, 0, none⟩)))), (2, (.v (.pointer (some ⟨g30, 0, none⟩))))] [Res.cells g27 26 [.ints .u64 y7 4], Res.cells g28 26 [.ints .u64 [0, 0, 0, 0] 4], Res.cells g29 26 [.ints .u64 x2 4], Res.cells g30 26 [.ints .u64 x1 4]] a w ∧ word_Add.l1 x1 x2 q1 y5 y6 y7 = some r) ?_ ?_ (k := k) ⟨_, 0, 0, g4, g3, g2, g1, [0, 0, 0, 0], (S.sub ⟨rfl, rfl, rfl, rfl, rfl, rfl, trivial⟩ (.cons .here (.cons .here (.cons .here (.cons .here .nil))))), h0⟩
  · rintro a w ⟨m, y5, y6, g27, g28, g29, g30, y7, S, h0⟩
    exact (nomatch (show (none : Option ((List Int))) = some r from h0))
  · clear S h0
    rintro q1 a w ⟨m, y5, y6, g27, g28, g29, g30, y7, S, h0⟩
    replace h0 : word_Add.b1 x1 x2 (word_Add.l1 x1 x2 q1) y5 y6 y7 = some r := h0
    delta word_Add.b1 at h0
    refine c_region ?_
    refine s_bin S rfl rfl rfl rfl ?_; clear S a; intro a S
    refine c_end ?_
    refine wp_seq ?_
    rcases ite_of h0 with ⟨c1, h1⟩ | ⟨c1, h1⟩ <;> clear h0
    · refine c_condT S rfl c1 ?_
      refine wp_skip ?_
      refine x_thenN ?_
      refine wp_seq ?_
      refine wp_block ?_
      refine c_region ?_
      refine s_move S rfl rfl ?_; clear S a; intro a S
      refine s_assign S rfl rfl ?_; clear S a; intro a S
      refine c_end ?_
      refine wp_seq (c_heldS S (.take 0 (.take 1 (.take 2 (.take 3 (.take 4 (.take 5 (.take 6 (.alts (.run 7 true (.take 8 (.take 9 (.take 10 (.take 11 (.take 12 .done))))) .nil))))))))) 13 [Res.cells g27 26 [.ints .u64 y7 4], Res.cells g28 26 [.ints .u64 [0, 0, 0, 0] 4], Res.cells g29 26 [.ints .u64 x2 4], Res.cells g30 26 [.ints .u64 x1 4]] (.cons .here (.cons .here (.cons .here (.cons .here .nil)))) ⟨Res.stay_cells, Res.stay_cells, Res.stay_cells, Res.stay_cells, trivial⟩ [(7, (.v (.int .i64 y5))), (6, (.v (.int .u64 y6))), (3, (.v (.pointer (some ⟨g29, 0, none⟩)))), (2, (.v (.pointer (some ⟨g30, 0, none⟩))))] ⟨rfl, rfl, rfl, rfl, trivial⟩ (by kernel_rfl) (by kernel_rfl) ?_); clear S; intro w S CL hw le
      refine h_move S CL hw le ⟨rfl, rfl, rfl, rfl, trivial⟩ rfl rfl rfl trivial ?_; clear S CL a; intro a S CL
      obtain ⟨c2, h2⟩ := chk_of h1; clear h1
      refine h_iaddr S CL hw le ⟨rfl, rfl, rfl, rfl, rfl, trivial⟩ rfl rfl Tryd.underlying26 T24 c2.1 c2.2 (mul1 _ _) rfl rfl trivial ?_; clear S CL a; intro a S CL
      refine h_loadi S CL hw le ⟨rfl, rfl, rfl, rfl, rfl, rfl, trivial⟩ (i := y5) rfl (.there (.there (.there .here))) T24 .here rfl c2.1 c2.2 rfl rfl trivial ?_; clear S CL a; intro a S CL
      refine h_move S CL hw le ⟨rfl, rfl, rfl, rfl, rfl, rfl, rfl, trivial⟩ rfl rfl rfl trivial ?_; clear S CL a; intro a S CL
      refine h_iaddr S CL hw le ⟨rfl, rfl, rfl, rfl, rfl, rfl, rfl, rfl, trivial⟩ rfl rfl Tryd.underlying26 T24 c2.1 c2.2 (mul1 _ _) rfl rfl trivial ?_; clear S CL a; intro a S CL
      refine h_loadi S CL hw le ⟨rfl, rfl, rfl, rfl, rfl, rfl, rfl, rfl, rfl, trivial⟩ (i := y5) rfl (.there (.there .here)) T24 .here rfl c2.1 c2.2 rfl rfl trivial ?_; clear S CL a; intro a S CL
      refine h_move S CL hw le ⟨rfl, rfl, rfl, rfl, rfl, rfl, rfl, rfl, rfl, rfl, trivial⟩ rfl rfl rfl trivial ?_; clear S CL a; intro a S CL
      refine h_run' S rfl trivial ?_
      obtain ⟨c3, h3⟩ := chk_of h2; clear h2
      refine s_extAdd S X40 rfl rfl rfl c3 rfl ?_; clear S a; intro a S
      replace hw := CL.again hw S (.cons .here (.cons .here (.cons .here (.cons .here .nil)))) le
      refine h_back ⟨fun _ => hw, ?_⟩
      replace CL := CL.add (t := 21) (d := (.tup [(false, [.one (.int .u64 (((rd x1 y5) + (rd x2 y5) + y6) % 18446744073709551616))]), (false, [.one (.int .u64 (((rd x1 y5) + (rd x2 y5) + y6) / 18446744073709551616))])])) S rfl rfl
      refine h_move S CL hw le ⟨rfl, rfl, rfl, rfl, rfl, rfl, rfl, rfl, rfl, rfl, rfl, rfl, trivial⟩ rfl rfl rfl trivial ?_; clear S CL a; intro a S CL
      refine h_extract S CL hw le ⟨rfl, rfl, rfl, rfl, rfl, rfl, rfl, rfl, rfl, rfl, rfl, rfl, rfl, trivial⟩ rfl rfl rfl rfl rfl trivial ?_; clear S CL a; intro a S CL
      refine h_extract S CL hw le ⟨rfl, rfl, rfl, rfl, rfl, rfl, rfl, rfl, rfl, rfl, rfl, rfl, rfl, rfl, trivial⟩ rfl rfl rfl rfl rfl trivial ?_; clear S CL a; intro a S CL
      refine h_assign S CL hw le ⟨rfl, rfl, rfl, rfl, rfl, rfl, rfl, rfl, rfl, rfl, rfl, rfl, rfl, rfl, rfl, trivial⟩ rfl rfl rfl trivial ?_; clear S CL a; intro a S CL
      refine h_assign S CL hw le ⟨rfl, rfl, rfl, rfl, rfl, rfl, rfl, rfl, rfl, rfl, rfl, rfl, rfl, rfl, rfl, rfl, trivial⟩ rfl rfl rfl trivial ?_; clear S CL a; intro a S CL
      refine h_done ?_; clear CL hw le
      refine x_thenN ?_
      refine c_region ?_
      refine s_move S rfl rfl ?_; clear S a; intro a S
      refine s_move S rfl rfl ?_; clear S a; intro a S
      refine s_iaddr S rfl rfl Tryd.underlying26 T24 c2.1 c2.2 (mul1 _ _) rfl ?_; clear S a; intro a S
      refine s_storei S (i := y5) rfl rfl .here T24 .here rfl c2.1 c2.2 ?_; clear S w; intro w S
      refine c_end ?_
      refine c_region' ?_
      refine s_move S rfl rfl ?_; clear S a; intro a S
      refine s_assign S rfl rfl ?_; clear S a; intro a S
      refine c_end' ?_
      refine x_blockN ?_
      refine x_thenN ?_
      refine c_region' ?_
      refine s_bin S rfl rfl rfl rfl ?_; clear S a; intro a S
      refine s_move S rfl rfl ?_; clear S a; intro a S
      refine c_end' ?_
      refine x_thenN ?_
      exact ⟨_, (wr .i64 (y5 + 1)), (((rd x1 y5) + (rd x2 y5) + y6) / 18446744073709551616), g27, g28, g29, g30, (y7.set (Int.toNat y5) (((rd x1 y5) + (rd x2 y5) + y6) % 18446744073709551616)), (S.sub ⟨rfl, rfl, rfl, rfl, rfl, rfl, trivial⟩ (.cons .here (.cons .here (.cons .here (.cons .here .nil))))), h3⟩
    · refine c_condF S rfl c1 ?_
      refine wp_exit ?_
      refine x_thenX ?_
      refine x_thenX ?_
      refine x_blockX ?_
      refine x_thenN ?_
      exact j1 _ g27 g28 y7 a w (S.sub ⟨rfl, rfl, trivial⟩ (.cons .here (.cons .here .nil))) h1
/-! smithy/word.Compare -/
abbrev word_Compare.Ty : Type := (List Int) → (List Int) → Option Int
def word_Compare.Ctr (s : word_Compare.Ty) : Prop := ∀ (x1 : List Int) (x2 : List Int) (r : Int) (h0 : s x1 x2 = some r) (mi : Mem) (w0 : World), okL mi [(.agg [.ints .u64 x1 4]), (.agg [.ints .u64 x2 4])] → Pre mi [] w0 → Calls Tryd.prog 25 (([(.agg [.ints .u64 x1 4]), (.agg [.ints .u64 x2 4])] : List D).map D.val).toArray w0 (RetX mi [] (fun (ch : Unit) => ((.v (.int .i64 r)) : D)) (fun (ch : Unit) => []) w0)
def word_Compare.j1 (x1 : List Int) (x2 : List Int) (y1 : Int) : Option Int := if (0 : Int) ≤ y1 ∧ y1 < 4 then (if (decide ((rd x1 y1) < (rd x2 y1))) = true then (some (-1)) else (some 1)) else none
def word_Compare.b1 (x1 : List Int) (x2 : List Int) (rec1 : Int → Option Int) (y3 : Int) : Option Int := if (0 : Int) ≤ y3 ∧ y3 < 4 then (if ((rd x1 y3) == (rd x2 y3)) = true then (rec1 (wr .i64 (y3 - 1))) else (word_Compare.j1 x1 x2 y3)) else none
def word_Compare.l1 (x1 : List Int) (x2 : List Int) : Nat → Int → Option Int
  | 0, _ => none
  | q + 1, y3 => word_Compare.b1 x1 x2 (word_Compare.l1 x1 x2 q) y3
def word_Compare.f (k : Nat) (x1 : List Int) (x2 : List Int) : Option Int := if (decide (x1 = x2)) = true then (some 0) else (word_Compare.l1 x1 x2 k 3)
theorem word_Compare.ok (k : Nat) : word_Compare.Ctr (word_Compare.f k) := by
  intro x1 x2 r h0 mi w0 ok hm
  delta word_Compare.f at h0
  refine c_enterX (n := 25) [(.agg [.ints .u64 x1 4]), (.agg [.ints .u64 x2 4])] (l := [(0, (.agg [.ints .u64 x1 4])), (1, (.agg [.ints .u64 x2 4]))]) Tryd.func25 rfl rfl rfl rfl ok hm ?_
  clear ok hm
  intro b0 hb a S
  refine c_region ?_
  refine s_box S rfl rfl rfl ?_; clear S a; intro g1 a w S
  refine s_box S rfl rfl rfl ?_; clear S a w; intro g2 a w S
  refine s_assign S rfl rfl ?_; clear S a; intro a S
  refine c_end ?_
  refine wp_seq ?_
  refine c_region ?_
  refine s_loada S rfl (.there .here) T26 (s' := [.ints .u64 x1 4]) rfl rfl ?_; clear S a; intro a S
  refine s_loada S rfl .here T26 (s' := [.ints .u64 x2 4]) rfl rfl ?_; clear S a; intro a S
  refine s_eqa S rfl rfl Tryd.underlying26 Tryd.underlying24 T24 Q26 rfl ?_; clear S a; intro a S
  refine c_end ?_
  rcases ite_of h0 with ⟨c1, h1⟩ | ⟨c1, h1⟩ <;> clear h0
  · refine c_condT S rfl c1 ?_
    refine c_region ?_
    refine s_assign S rfl rfl ?_; clear S a; intro a S
    refine c_end ?_
    refine wp_ret ?_
    refine x_thenR ?_
    obtain rfl := Option.some.inj h1
    exact b_ret1 (d := (.v (.int .i64 0))) S rfl rfl fun ok => S.retX (Hx := []) hb _ _ (() : Unit) .nil ok
  · refine c_condF S rfl c1 ?_
    refine wp_skip ?_
    refine x_thenN ?_
    refine c_region ?_
    refine s_assign S rfl rfl ?_; clear S a; intro a S
    refine c_end ?_
    refine wp_seq_k ?_
    intro K1 hK1
    have j1 : ∀ (m : Mem) (y1 : Int) (g9 : Nat) (g10 : Nat) (a : Act) (w : World), St 25 m b0 [(5, (.v (.int .i64 y1))), (3, (.v (.pointer (some ⟨g9, 0, none⟩)))), (2, (.v (.pointer (some ⟨g10, 0, none⟩))))] [Res.cells g9 26 [.ints .u64 x2 4], Res.cells g10 26 [.ints .u64 x1 4]] a w → word_Compare.j1 x1 x2 y1 = some r → K1 a w := by
      intro m y1 g9 g10 a w S h0
      delta word_Compare.j1 at h0
      refine hK1 a w ?_
      refine wp_seq ?_
      refine wp_seq (c_heldS S (.take 0 (.take 1 (.take 2 (.take 3 (.take 4 (.take 5 (.take 6 .done))))))) 7 [Res.cells g9 26 [.ints .u64 x2 4], Res.cells g10 26 [.ints .u64 x1 4]] (.cons .here (.cons .here .nil)) ⟨Res.stay_cells, Res.stay_cells, trivial⟩ [(5, (.v (.int .i64 y1))), (3, (.v (.pointer (some ⟨g9, 0, none⟩)))), (2, (.v (.pointer (some ⟨g10, 0, none⟩))))] ⟨rfl, rfl, rfl, trivial⟩ (by kernel_rfl) (by kernel_rfl) ?_); clear S; intro w S CL hw le
      refine h_move S CL hw le ⟨rfl, rfl, rfl, trivial⟩ rfl rfl rfl trivial ?_; clear S CL a; intro a S CL
      obtain ⟨c2, h1⟩ := chk_of h0; clear h0
      refine h_iaddr S CL hw le ⟨rfl, rfl, rfl, rfl, trivial⟩ rfl rfl Tryd.underlying26 T24 c2.1 c2.2 (mul1 _ _) rfl rfl trivial ?_; clear S CL a; intro a S CL
      refine h_loadi S CL hw le ⟨rfl, rfl, rfl, rfl, rfl, trivial⟩ (i := y1) rfl (.there .here) T24 .here rfl c2.1 c2.2 rfl rfl trivial ?_; clear S CL a; intro a S CL
      refine h_move S CL hw le ⟨rfl, rfl, rfl, rfl, rfl, rfl, trivial⟩ rfl rfl rfl trivial ?_; clear S CL a; intro a S CL
      refine h_iaddr S CL hw le ⟨rfl, rfl, rfl, rfl, rfl, rfl, rfl, trivial⟩ rfl rfl Tryd.underlying26 T24 c2.1 c2.2 (mul1 _ _) rfl rfl trivial ?_; clear S CL a; intro a S CL
      refine h_loadi S CL hw le ⟨rfl, rfl, rfl, rfl, rfl, rfl, rfl, rfl, trivial⟩ (i := y1) rfl .here T24 .here rfl c2.1 c2.2 rfl rfl trivial ?_; clear S CL a; intro a S CL
      refine h_bin S CL hw le ⟨rfl, rfl, rfl, rfl, rfl, rfl, rfl, rfl, rfl, trivial⟩ rfl rfl rfl rfl rfl trivial ?_; clear S CL a; intro a S CL
      refine h_done ?_; clear CL hw le
      refine x_thenN ?_
      rcases ite_of h1 with ⟨c3, h2⟩ | ⟨c3, h2⟩ <;> clear h1
      · refine c_condT S rfl c3 ?_
        refine c_region ?_
        refine s_assign S rfl rfl ?_; clear S a; intro a S
        refine c_end ?_
        refine wp_ret ?_
        refine x_thenR ?_
        obtain rfl := Option.some.inj h2
        exact b_ret1 (d := (.v (.int .i64 (-1)))) S rfl rfl fun ok => S.retX (Hx := []) hb _ _ (() : Unit) .nil ok
      · refine c_condF S rfl c3 ?_
        refine wp_skip ?_
        refine x_thenN ?_
        refine c_region ?_
        refine s_assign S rfl rfl ?_; clear S a; intro a S
        refine c_end ?_
        refine wp_ret ?_
        obtain rfl := Option.some.inj h2
        exact b_ret1 (d := (.v (.int .i64 1))) S rfl rfl fun ok => S.retX (Hx := []) hb _ _ (() : Unit) .nil ok
    refine wp_block ?_
    refine c_loop (fun q1 a w => ∃ (m : Mem) (y3 : Int) (g15 : Nat) (g16 : Nat), St 25 m b0 [(5, (.v (.int .i64 y3))), (3, (.v (.pointer (some ⟨g15, 0, none⟩)))), (2, (.v (.pointer (some ⟨g16, 0, none⟩))))] [Res.cells g15 26 [.ints .u64 x2 4], Res.cells g16 26 [.ints .u64 x1 4]] a w ∧ word_Compare.l1 x1 x2 q1 y3 = some r) ?_ ?_ (k := k) ⟨_, 3, g2, g1, (S.sub ⟨rfl, rfl, rfl, trivial⟩ (.cons .here (.cons .here .nil))), h1⟩
    · rintro a w ⟨m, y3, g15, g16, S, h0⟩
      exact (nomatch (show (none : Option Int) = some r from h0))
    · clear S h1
      rintro q1 a w ⟨m, y3, g15, g16, S, h0⟩
      replace h0 : word_Compare.b1 x1 x2 (word_Compare.l1 x1 x2 q1) y3 = some r := h0
      delta word_Compare.b1 at h0
      refine wp_seq ?_
      refine wp_seq (c_heldS S (.take 0 (.take 1 (.take 2 (.take 3 (.take 4 (.take 5 (.take 6 .done))))))) 7 [Res.cells g15 26 [.ints .u64 x2 4], Res.cells g16 26 [.ints .u64 x1 4]] (.cons .here (.cons .here .nil)) ⟨Res.stay_cells, Res.stay_cells, trivial⟩ [(5, (.v (.int .i64 y3))), (3, (.v (.pointer (some ⟨g15, 0, none⟩)))), (2, (.v (.pointer (some ⟨g16, 0, none⟩))))] ⟨rfl, rfl, rfl, trivial⟩ (by kernel_rfl) (by kernel_rfl) ?_); clear S; intro w S CL hw le
      refine h_move S CL hw le ⟨rfl, rfl, rfl, trivial⟩ rfl rfl rfl trivial ?_; clear S CL a; intro a S CL
      obtain ⟨c4, h1⟩ := chk_of h0; clear h0
      refine h_iaddr S CL hw le ⟨rfl, rfl, rfl, rfl, trivial⟩ rfl rfl Tryd.underlying26 T24 c4.1 c4.2 (mul1 _ _) rfl rfl trivial ?_; clear S CL a; intro a S CL
      refine h_loadi S CL hw le ⟨rfl, rfl, rfl, rfl, rfl, trivial⟩ (i := y3) rfl (.there .here) T24 .here rfl c4.1 c4.2 rfl rfl trivial ?_; clear S CL a; intro a S CL
      refine h_move S CL hw le ⟨rfl, rfl, rfl, rfl, rfl, rfl, trivial⟩ rfl rfl rfl trivial ?_; clear S CL a; intro a S CL
      refine h_iaddr S CL hw le ⟨rfl, rfl, rfl, rfl, rfl, rfl, rfl, trivial⟩ rfl rfl Tryd.underlying26 T24 c4.1 c4.2 (mul1 _ _) rfl rfl trivial ?_; clear S CL a; intro a S CL
      refine h_loadi S CL hw le ⟨rfl, rfl, rfl, rfl, rfl, rfl, rfl, rfl, trivial⟩ (i := y3) rfl .here T24 .here rfl c4.1 c4.2 rfl rfl trivial ?_; clear S CL a; intro a S CL
      refine h_bin S CL hw le ⟨rfl, rfl, rfl, rfl, rfl, rfl, rfl, rfl, rfl, trivial⟩ rfl rfl rfl rfl rfl trivial ?_; clear S CL a; intro a S CL
      refine h_done ?_; clear CL hw le
      refine x_thenN ?_
      rcases ite_of h1 with ⟨c5, h2⟩ | ⟨c5, h2⟩ <;> clear h1
      · refine c_condT S rfl c5 ?_
        refine wp_skip ?_
        refine x_thenN ?_
        refine wp_block ?_
        refine c_region' ?_
        refine s_move S rfl rfl ?_; clear S a; intro a S
        refine s_bin S rfl rfl rfl rfl ?_; clear S a; intro a S
        refine s_assign S rfl rfl ?_; clear S a; intro a S
        refine c_end' ?_
        refine x_blockN ?_
        refine x_thenN ?_
        exact ⟨_, (wr .i64 (y3 - 1)), g15, g16, (S.sub ⟨rfl, rfl, rfl, trivial⟩ (.cons .here (.cons .here .nil))), h2⟩
      · refine c_condF S rfl c5 ?_
        refine wp_exit ?_
        refine x_thenX ?_
        refine x_thenX ?_
        refine x_blockX ?_
        refine x_thenN ?_
        exact j1 _ y3 g15 g16 a w (S.sub ⟨rfl, rfl, rfl, trivial⟩ (.cons .here (.cons .here .nil))) h2
/-! smithy/tx.Cost -/
abbrev tx_Cost.Ty : Type := ((List Int) × (List Int) × Bool × Int × (List Int) × (List Int) × Int × (List Int) × (List Int) × (List ((List Int) × (List (List Int))))) → Option ((List Int) × Bool)
def tx_Cost.Ctr (s : tx_Cost.Ty) : Prop := ∀ (x1 : (List Int) × (List Int) × Bool × Int × (List Int) × (List Int) × Int × (List Int) × (List Int) × (List ((List Int) × (List (List Int))))) (ch_0_0 : Option Addr) (ch_0_1 : Nat) (ch_0_2 : Option Addr) (ch_0_3 : Nat) (r : (List Int) × Bool) (h0 : s x1 = some r) (mi : Mem) (w0 : World), okL mi [(.agg [.ints .u8 x1.1 20, .ints .u8 x1.2.1 20, .one (.bool x1.2.2.1), .one (.int .u64 x1.2.2.2.1), .ints .u64 x1.2.2.2.2.1 4, .sl ch_0_0 (x1.2.2.2.2.2.1).length ch_0_1 (RdS (Ty.int .u8) ch_0_0 x1.2.2.2.2.2.1), .one (.int .u64 x1.2.2.2.2.2.2.1), .ints .u64 x1.2.2.2.2.2.2.2.1 4, .ints .u64 x1.2.2.2.2.2.2.2.2.1 4, .sl ch_0_2 (x1.2.2.2.2.2.2.2.2.2).length ch_0_3 (RdS (Ty.prod (Ty.arr .u8 20) (Ty.slice (Ty.arr .u64 4))) ch_0_2 x1.2.2.2.2.2.2.2.2.2)])] → Pre mi [] w0 → Calls Tryd.prog 9 (([(.agg [.ints .u8 x1.1 20, .ints .u8 x1.2.1 20, .one (.bool x1.2.2.1), .one (.int .u64 x1.2.2.2.1), .ints .u64 x1.2.2.2.2.1 4, .sl ch_0_0 (x1.2.2.2.2.2.1).length ch_0_1 (RdS (Ty.int .u8) ch_0_0 x1.2.2.2.2.2.1), .one (.int .u64 x1.2.2.2.2.2.2.1), .ints .u64 x1.2.2.2.2.2.2.2.1 4, .ints .u64 x1.2.2.2.2.2.2.2.2.1 4, .sl ch_0_2 (x1.2.2.2.2.2.2.2.2.2).length ch_0_3 (RdS (Ty.prod (Ty.arr .u8 20) (Ty.slice (Ty.arr .u64 4))) ch_0_2 x1.2.2.2.2.2.2.2.2.2)])] : List D).map D.val).toArray w0 (RetX mi [] (fun (ch : Unit) => ((.tup [(true, [.ints .u64 r.1 4]), (false, [.one (.bool r.2)])]) : D)) (fun (ch : Unit) => []) w0)
def tx_Cost.j2 (t1 : (List Int)) (y3 : Bool) : Option ((List Int) × Bool) := if y3 = true then (some ([0, 0, 0, 0], false)) else (some (t1, true))
def tx_Cost.j1 (k : Nat) (x1 : (List Int) × (List Int) × Bool × Int × (List Int) × (List Int) × Int × (List Int) × (List Int) × (List ((List Int) × (List (List Int))))) (y1 : List Int) (y2 : List Int) : Option ((List Int) × Bool) := (word_Add.f k y2 x1.2.2.2.2.1).bind fun t1 => (if (!(decide (y1 = [0, 0, 0, 0]))) = true then (tx_Cost.j2 t1 true) else ((word_Compare.f k t1 y2).bind fun t3 => (tx_Cost.j2 t1 (decide (t3 < 0)))))
def tx_Cost.f (k : Nat) (x1 : (List Int) × (List Int) × Bool × Int × (List Int) × (List Int) × Int × (List Int) × (List Int) × (List ((List Int) × (List (List Int))))) : Option ((List Int) × Bool) := (word_Of.f x1.2.2.2.2.2.2.1).bind fun t4 => ((wide_Product.f k t4 x1.2.2.2.2.2.2.2.1).bind fun t5 => (tx_Cost.j1 k x1 t5.2 t5.1))
theorem tx_Cost.ok (k : Nat) : tx_Cost.Ctr (tx_Cost.f k) := by
  intro x1 ch_0_0 ch_0_1 ch_0_2 ch_0_3 r h0 mi w0 ok hm
  delta tx_Cost.f at h0
  refine c_enterX (n := 31) [(.agg [.ints .u8 x1.1 20, .ints .u8 x1.2.1 20, .one (.bool x1.2.2.1), .one (.int .u64 x1.2.2.2.1), .ints .u64 x1.2.2.2.2.1 4, .sl ch_0_0 (x1.2.2.2.2.2.1).length ch_0_1 (RdS (Ty.int .u8) ch_0_0 x1.2.2.2.2.2.1), .one (.int .u64 x1.2.2.2.2.2.2.1), .ints .u64 x1.2.2.2.2.2.2.2.1 4, .ints .u64 x1.2.2.2.2.2.2.2.2.1 4, .sl ch_0_2 (x1.2.2.2.2.2.2.2.2.2).length ch_0_3 (RdS (Ty.prod (Ty.arr .u8 20) (Ty.slice (Ty.arr .u64 4))) ch_0_2 x1.2.2.2.2.2.2.2.2.2)])] (l := [(0, (.agg [.ints .u8 x1.1 20, .ints .u8 x1.2.1 20, .one (.bool x1.2.2.1), .one (.int .u64 x1.2.2.2.1), .ints .u64 x1.2.2.2.2.1 4, .sl ch_0_0 (x1.2.2.2.2.2.1).length ch_0_1 (RdS (Ty.int .u8) ch_0_0 x1.2.2.2.2.2.1), .one (.int .u64 x1.2.2.2.2.2.2.1), .ints .u64 x1.2.2.2.2.2.2.2.1 4, .ints .u64 x1.2.2.2.2.2.2.2.2.1 4, .sl ch_0_2 (x1.2.2.2.2.2.2.2.2.2).length ch_0_3 (RdS (Ty.prod (Ty.arr .u8 20) (Ty.slice (Ty.arr .u64 4))) ch_0_2 x1.2.2.2.2.2.2.2.2.2)]))]) Tryd.func9 rfl rfl rfl rfl ok hm ?_
  clear ok hm
  intro b0 hb a S
  refine c_region ?_
  refine s_box S rfl rfl rfl ?_; clear S a; intro g1 a w S
  refine s_alloc S Z26 rfl ⟨rfl, trivial⟩ rfl ?_; clear S a w; intro g2 a w S
  refine s_assign S rfl rfl ?_; clear S a; intro a S
  refine c_end ?_
  refine wp_seq_k ?_
  intro K1 hK1
  have j1 : ∀ (m : Mem) (g5 : Nat) (g6 : Nat) (g7 : Nat) (g8 : Nat) (y1 : List Int) (y2 : List Int) (a : Act) (w : World), St 31 m b0 [(5, (.v (.pointer (some ⟨g5, 0, none⟩)))), (4, (.v (.pointer (some ⟨g6, 0, none⟩)))), (2, (.v (.pointer (some ⟨g7, 0, none⟩)))), (1, (.v (.pointer (some ⟨g8, 0, none⟩))))] [Res.cells g5 26 [.ints .u64 y1 4], Res.cells g6 26 [.ints .u64 y2 4], Res.cells g7 26 [.ints .u64 [0, 0, 0, 0] 4], Res.cells g8 30 [.ints .u8 x1.1 20, .ints .u8 x1.2.1 20, .one (.bool x1.2.2.1), .one (.int .u64 x1.2.2.2.1), .ints .u64 x1.2.2.2.2.1 4, .sl ch_0_0 (x1.2.2.2.2.2.1).length ch_0_1 (RdS (Ty.int .u8) ch_0_0 x1.2.2.2.2.2.1), .one (.int .u64 x1.2.2.2.2.2.2.1), .ints .u64 x1.2.2.2.2.2.2.2.1 4, .ints .u64 x1.2.2.2.2.2.2.2.2.1 4, .sl ch_0_2 (x1.2.2.2.2.2.2.2.2.2).length ch_0_3 (RdS (Ty.prod (Ty.arr .u8 20) (Ty.slice (Ty.arr .u64 4))) ch_0_2 x1.2.2.2.2.2.2.2.2.2)]] a w → tx_Cost.j1 k x1 y1 y2 = some r → K1 a w := by
    intro m g5 g6 g7 g8 y1 y2 a w S h0
    delta tx_Cost.j1 at h0
    refine hK1 a w ?_
    refine c_region ?_
    refine s_loada S rfl (.there .here) T26 (s' := [.ints .u64 y2 4]) rfl rfl ?_; clear S a; intro a S
    refine s_fieldAddr S rfl I30_4 T26 (by decide) rfl rfl ?_; clear S a; intro a S
    refine s_loada S rfl (.there (.there (.there .here))) T26 (s' := [.ints .u64 x1.2.2.2.2.1 4]) rfl rfl ?_; clear S a; intro a S
    obtain ⟨t1, et1, h1⟩ := bind_of h0; clear h0
    refine s_callP S (fun (ch : Unit) => ((.agg [.ints .u64 t1 4]) : D)) N27 rfl rfl (word_Add.ok k y2 x1.2.2.2.2.1 t1 et1 _ _) ?_; clear S a w; intro ch1 m le1 a w S
    refine s_alloc S Z26 rfl ⟨rfl, trivial⟩ rfl ?_; clear S a w; intro g9 a w S
    refine s_store S rfl rfl rfl (s' := [.ints .u64 t1 4]) .here T26 rfl rfl ?_; clear S w; intro w S
    refine c_end ?_
    refine wp_seq ?_
    refine wp_seq_k ?_
    intro K2 hK2
    have j2 : ∀ (m : Mem) (y3 : Bool) (g10 : Nat) (g11 : Nat) (a : Act) (w : World), St 31 m b0 [(28, (.v (.bool y3))), (6, (.v (.pointer (some ⟨g10, 0, none⟩)))), (2, (.v (.pointer (some ⟨g11, 0, none⟩))))] [Res.cells g10 26 [.ints .u64 t1 4], Res.cells g11 26 [.ints .u64 [0, 0, 0, 0] 4]] a w → tx_Cost.j2 t1 y3 = some r → K2 a w := by
      intro m y3 g10 g11 a w S h0
      delta tx_Cost.j2 at h0
      refine hK2 a w ?_
      rcases ite_of h0 with ⟨c1, h1⟩ | ⟨c1, h1⟩ <;> clear h0
      · refine c_condT S rfl c1 ?_
        refine c_region ?_
        refine s_build S (ds := []) (dv := (.agg [.ints .u64 [0, 0, 0, 0] 4])) rfl (fun _ => by kernel_rfl) ⟨rfl, trivial⟩ rfl ?_; clear S a; intro a S
        refine s_store S rfl rfl rfl (s' := [.ints .u64 [0, 0, 0, 0] 4]) (.there .here) T26 rfl rfl ?_; clear S w; intro w S
        refine s_assign S rfl rfl ?_; clear S a; intro a S
        refine c_end ?_
        refine wp_ret ?_
        refine x_thenR ?_
        obtain rfl := Option.some.inj h1
        exact b_ret2 (d1 := (.agg [.ints .u64 [0, 0, 0, 0] 4])) (d2 := (.v (.bool false))) S rfl (resD_cell rfl (.there .here) T26 rfl rfl) rfl fun ok1 ok2 => S.retX (Hx := []) hb _ _ (() : Unit) .nil ⟨ok1, ⟨ok2, trivial⟩, trivial⟩
      · refine c_condF S rfl c1 ?_
        refine wp_skip ?_
        refine x_thenN ?_
        refine c_region ?_
        refine s_loada S rfl .here T26 (s' := [.ints .u64 t1 4]) rfl rfl ?_; clear S a; intro a S
        refine s_store S rfl rfl rfl (s' := [.ints .u64 t1 4]) (.there .here) T26 rfl rfl ?_; clear S w; intro w S
        refine s_assign S rfl rfl ?_; clear S a; intro a S
        refine c_end ?_
        refine wp_ret ?_
        obtain rfl := Option.some.inj h1
        exact b_ret2 (d1 := (.agg [.ints .u64 t1 4])) (d2 := (.v (.bool true))) S rfl (resD_cell rfl (.there .here) T26 rfl rfl) rfl fun ok1 ok2 => S.retX (Hx := []) hb _ _ (() : Unit) .nil ⟨ok1, ⟨ok2, trivial⟩, trivial⟩
    refine c_region' ?_
    refine s_loada S rfl (.there .here) T26 (s' := [.ints .u64 y1 4]) rfl rfl ?_; clear S a; intro a S
    refine s_build S (ds := []) (dv := (.agg [.ints .u64 [0, 0, 0, 0] 4])) rfl (fun _ => by kernel_rfl) ⟨rfl, trivial⟩ rfl ?_; clear S a; intro a S
    refine s_nea S rfl rfl Tryd.underlying26 Tryd.underlying24 T24 Q26 rfl ?_; clear S a; intro a S
    refine s_move S rfl rfl ?_; clear S a; intro a S
    rcases ite_of h1 with ⟨c2, h2⟩ | ⟨c2, h2⟩ <;> clear h1
    · refine s_gF S (b := (!(decide (y1 = [0, 0, 0, 0])))) rfl rfl c2 rfl ?_; clear S a; intro a S
      refine s_gF S (b := (!(decide (y1 = [0, 0, 0, 0])))) rfl rfl c2 rfl ?_; clear S a; intro a S
      refine s_gF S (b := (!(decide (y1 = [0, 0, 0, 0])))) rfl rfl c2 rfl ?_; clear S a; intro a S
      refine s_gF S (b := (!(decide (y1 = [0, 0, 0, 0])))) rfl rfl c2 rfl ?_; clear S a; intro a S
      refine s_pick S (b := true) (hc_of rfl c2) rfl rfl ?_; clear S a; intro a S
      refine c_end' ?_
      refine x_thenN ?_
      exact j2 _ true g9 g7 a w (S.sub ⟨rfl, rfl, rfl, trivial⟩ (.cons .here (.cons (.there (.there .here)) .nil))) h2
    · refine s_gT S (b := (!(decide (y1 = [0, 0, 0, 0])))) rfl rfl c2 ?_
      refine s_loada S rfl .here T26 (s' := [.ints .u64 t1 4]) rfl rfl ?_; clear S a; intro a S
      refine s_gT S (b := (!(decide (y1 = [0, 0, 0, 0])))) rfl rfl c2 ?_
      refine s_loada S rfl (.there (.there .here)) T26 (s' := [.ints .u64 y2 4]) rfl rfl ?_; clear S a; intro a S
      refine s_gT S (b := (!(decide (y1 = [0, 0, 0, 0])))) rfl rfl c2 ?_
      obtain ⟨t3, et3, h3⟩ := bind_of h2; clear h2
      refine s_callP S (fun (ch : Unit) => ((.v (.int .i64 t3)) : D)) N25 rfl rfl (word_Compare.ok k t1 y2 t3 et3 _ _) ?_; clear S a w; intro ch2 m le1 a w S
      refine s_gT S (b := (!(decide (y1 = [0, 0, 0, 0])))) rfl rfl c2 ?_
      refine s_bin S rfl rfl rfl rfl ?_; clear S a; intro a S
      refine s_pick S (b := false) (hc_of rfl c2) rfl rfl ?_; clear S a; intro a S
      refine c_end' ?_
      refine x_thenN ?_
      exact j2 _ (decide (t3 < 0)) g9 g7 a w (S.sub ⟨rfl, rfl, rfl, trivial⟩ (.cons .here (.cons (.there (.there .here)) .nil))) h3
  refine c_heldS S (.take 0 (.take 1 (.take 3 (.take 4 (.alts (.run 2 true (.alts (.run 5 true (.take 6 (.take 7 (.take 8 (.alts (.run 9 true (.alts (.run 10 true (.alts (.run 11 true (.alts (.run 12 false .done .nil)) .nil)) .nil)) (.run 10 true (.alts (.run 9 true (.alts (.run 11 true (.alts (.run 12 false .done .nil)) .nil)) .nil)) .nil)))))) (.run 9 true (.alts (.run 5 true (.take 6 (.take 7 (.take 8 (.alts (.run 10 true (.alts (.run 11 true (.alts (.run 12 false .done .nil)) .nil)) .nil))))) (.run 10 true (.alts (.run 5 true (.take 6 (.take 7 (.take 8 (.alts (.run 11 true (.alts (.run 12 false .done .nil)) .nil))))) .nil)) .nil))) (.run 10 true (.alts (.run 5 true (.take 6 (.take 7 (.take 8 (.alts (.run 9 true (.alts (.run 11 true (.alts (.run 12 false .done .nil)) .nil)) .nil))))) (.run 9 true (.alts (.run 5 true (.take 6 (.take 7 (.take 8 (.alts (.run 11 true (.alts (.run 12 false .done .nil)) .nil))))) .nil)) .nil))) .nil)))) (.run 9 true (.alts (.run 2 true (.alts (.run 5 true (.take 6 (.take 7 (.take 8 (.alts (.run 10 true (.alts (.run 11 true (.alts (.run 12 false .done .nil)) .nil)) .nil))))) (.run 10 true (.alts (.run 5 true (.take 6 (.take 7 (.take 8 (.alts (.run 11 true (.alts (.run 12 false .done .nil)) .nil))))) .nil)) .nil))) (.run 10 true (.alts (.run 2 true (.alts (.run 5 true (.take 6 (.take 7 (.take 8 (.alts (.run 11 true (.alts (.run 12 false .done .nil)) .nil))))) .nil)) .nil)) .nil))) (.run 10 true (.alts (.run 2 true (.alts (.run 5 true (.take 6 (.take 7 (.take 8 (.alts (.run 9 true (.alts (.run 11 true (.alts (.run 12 false .done .nil)) .nil)) .nil))))) (.run 9 true (.alts (.run 5 true (.take 6 (.take 7 (.take 8 (.alts (.run 11 true (.alts (.run 12 false .done .nil)) .nil))))) .nil)) .nil))) (.run 9 true (.alts (.run 2 true (.alts (.run 5 true (.take 6 (.take 7 (.take 8 (.alts (.run 11 true (.alts (.run 12 false .done .nil)) .nil))))) .nil)) .nil)) .nil))) .nil)))))))) 12 [Res.cells g2 26 [.ints .u64 [0, 0, 0, 0] 4], Res.cells g1 30 [.ints .u8 x1.1 20, .ints .u8 x1.2.1 20, .one (.bool x1.2.2.1), .one (.int .u64 x1.2.2.2.1), .ints .u64 x1.2.2.2.2.1 4, .sl ch_0_0 (x1.2.2.2.2.2.1).length ch_0_1 (RdS (Ty.int .u8) ch_0_0 x1.2.2.2.2.2.1), .one (.int .u64 x1.2.2.2.2.2.2.1), .ints .u64 x1.2.2.2.2.2.2.2.1 4, .ints .u64 x1.2.2.2.2.2.2.2.2.1 4, .sl ch_0_2 (x1.2.2.2.2.2.2.2.2.2).length ch_0_3 (RdS (Ty.prod (Ty.arr .u8 20) (Ty.slice (Ty.arr .u64 4))) ch_0_2 x1.2.2.2.2.2.2.2.2.2)]] (.cons .here (.cons .here .nil)) ⟨Res.stay_cells, Res.stay_cells, trivial⟩ [(1, (.v (.pointer (some ⟨g1, 0, none⟩))))] ⟨rfl, trivial⟩ (by kernel_rfl) (by kernel_rfl) ?_; clear S; intro w S CL hw le
  refine h_fieldAddr S CL hw le ⟨rfl, trivial⟩ rfl I30_6 T24 (by decide) rfl rfl rfl trivial ?_; clear S CL a; intro a S CL
  refine h_load1 S CL hw le ⟨rfl, rfl, trivial⟩ rfl (.there .here) T24 (v := (.int .u64 x1.2.2.2.2.2.2.1)) rfl rfl rfl trivial ?_; clear S CL a; intro a S CL
  refine h_fieldAddr S CL hw le ⟨rfl, rfl, rfl, trivial⟩ rfl I30_7 T26 (by decide) rfl rfl rfl trivial ?_; clear S CL a; intro a S CL
  refine h_loada S CL hw le ⟨rfl, rfl, rfl, rfl, trivial⟩ rfl (.there .here) T26 (s' := [.ints .u64 x1.2.2.2.2.2.2.2.1 4]) rfl rfl rfl trivial ?_; clear S CL a; intro a S CL
  obtain ⟨t4, et4, h1⟩ := bind_of h0; clear h0
  obtain ⟨t5, et5, h2⟩ := bind_of h1; clear h1
  refine h_alts ?_
  refine h_runO S rfl trivial ?_ ?_
  · refine s_callP S (fun (ch : Unit) => ((.agg [.ints .u64 t4 4]) : D)) N14 rfl rfl (word_Of.ok x1.2.2.2.2.2.2.1 t4 et4 _ _) ?_; clear S a; intro ch3 m le1 a w S
    replace le := le.trans le1
    replace hw := CL.again hw S (.cons .here (.cons .here .nil)) le
    refine h_back ⟨fun _ => hw, ?_⟩
    refine h_alts ?_
    refine h_runO S rfl trivial ?_ ?_
    · refine s_callP S (fun (ch : Unit) => ((.tup [(true, [.ints .u64 t5.1 4]), (true, [.ints .u64 t5.2 4])]) : D)) N26 rfl rfl (wide_Product.ok k t4 x1.2.2.2.2.2.2.2.1 t5 et5 _ _) ?_; clear S a; intro ch4 m le1 a w S
      replace le := le.trans le1
      replace hw := CL.again hw S (.cons .here (.cons .here .nil)) le
      refine h_back ⟨fun _ => hw, ?_⟩
      replace CL := CL.add (t := 13) (d := (.tup [(true, [.ints .u64 t5.1 4]), (true, [.ints .u64 t5.2 4])])) S rfl rfl
      refine h_move S CL hw le ⟨rfl, rfl, rfl, rfl, rfl, rfl, trivial⟩ rfl rfl rfl trivial ?_; clear S CL a; intro a S CL
      refine h_extract S CL hw le ⟨rfl, rfl, rfl, rfl, rfl, rfl, rfl, trivial⟩ rfl rfl rfl rfl rfl trivial ?_; clear S CL a; intro a S CL
      refine h_extract S CL hw le ⟨rfl, rfl, rfl, rfl, rfl, rfl, rfl, rfl, trivial⟩ rfl rfl rfl rfl rfl trivial ?_; clear S CL a; intro a S CL
      refine h_alts ?_
      refine h_runO S rfl trivial ?_ ?_
      · refine s_alloc S Z26 rfl ⟨rfl, trivial⟩ rfl ?_; clear S a; intro g12 a w S
        replace hw := CL.again hw S (.cons (.there .here) (.cons (.there .here) .nil)) le
        refine h_back ⟨fun _ => hw, ?_⟩
        refine h_run' S rfl trivial ?_
        refine s_alloc S Z26 rfl ⟨rfl, trivial⟩ rfl ?_; clear S a; intro g13 a w S
        replace hw := CL.again hw S (.cons (.there (.there .here)) (.cons (.there (.there .here)) .nil)) le
        refine h_back ⟨fun _ => hw, ?_⟩
        refine h_run' S rfl trivial ?_
        refine s_store S rfl rfl rfl (s' := [.ints .u64 t5.1 4]) (.there .here) T26 rfl rfl ?_; clear S; intro w S
        replace hw := CL.again hw S (.cons (.there (.there .here)) (.cons (.there (.there .here)) .nil)) le
        refine h_back ⟨fun _ => hw, ?_⟩
        refine h_run' S rfl trivial ?_
        refine s_store S rfl rfl rfl (s' := [.ints .u64 t5.2 4]) .here T26 rfl rfl ?_; clear S; intro w S
        refine h_back ⟨fun h => (nomatch h), ?_⟩
        refine h_done ?_; clear CL hw le
        refine x_thenN ?_
        exact j1 _ g13 g12 g2 g1 t5.2 t5.1 a w (S.sub ⟨rfl, rfl, rfl, rfl, trivial⟩ (.cons .here (.cons .here (.cons .here (.cons .here .nil))))) h2
      refine h_runO S rfl trivial ?_ ?_
      · refine s_alloc S Z26 rfl ⟨rfl, trivial⟩ rfl ?_; clear S a; intro g12 a w S
        replace hw := CL.again hw S (.cons (.there .here) (.cons (.there .here) .nil)) le
        refine h_back ⟨fun _ => hw, ?_⟩
        refine h_run' S rfl trivial ?_
        refine s_alloc S Z26 rfl ⟨rfl, trivial⟩ rfl ?_; clear S a; intro g13 a w S
        replace hw := CL.again hw S (.cons (.there (.there .here)) (.cons (.there (.there .here)) .nil)) le
        refine h_back ⟨fun _ => hw, ?_⟩
        refine h_run' S rfl trivial ?_
        refine s_store S rfl rfl rfl (s' := [.ints .u64 t5.1 4]) .here T26 rfl rfl ?_; clear S; intro w S
        replace hw := CL.again hw S (.cons (.there (.there .here)) (.cons (.there (.there .here)) .nil)) le
        refine h_back ⟨fun _ => hw, ?_⟩
        refine h_run' S rfl trivial ?_
        refine s_store S rfl rfl rfl (s' := [.ints .u64 t5.2 4]) (.there .here) T26 rfl rfl ?_; clear S; intro w S
        refine h_back ⟨fun h => (nomatch h), ?_⟩
        refine h_done ?_; clear CL hw le
        refine x_thenN ?_
        exact j1 _ g12 g13 g2 g1 t5.2 t5.1 a w (S.sub ⟨rfl, rfl, rfl, rfl, trivial⟩ (.cons (.there .here) (.cons .here (.cons .here (.cons .here .nil))))) h2
      exact h_nil
    refine h_runO S rfl trivial ?_ ?_
    · refine s_alloc S Z26 rfl ⟨rfl, trivial⟩ rfl ?_; clear S a; intro g12 a w S
      replace hw := CL.again hw S (.cons (.there .here) (.cons (.there .here) .nil)) le
      refine h_back ⟨fun _ => hw, ?_⟩
      refine h_alts ?_
      refine h_runO S rfl trivial ?_ ?_
      · refine s_callP S (fun (ch : Unit) => ((.tup [(true, [.ints .u64 t5.1 4]), (true, [.ints .u64 t5.2 4])]) : D)) N26 rfl rfl (wide_Product.ok k t4 x1.2.2.2.2.2.2.2.1 t5 et5 _ _) ?_; clear S a; intro ch4 m le1 a w S
        replace le := le.trans le1
        replace hw := CL.again hw S (.cons (.there .here) (.cons (.there .here) .nil)) le
        refine h_back ⟨fun _ => hw, ?_⟩
        replace CL := CL.add (t := 13) (d := (.tup [(true, [.ints .u64 t5.1 4]), (true, [.ints .u64 t5.2 4])])) S rfl rfl
        refine h_move S CL hw le ⟨rfl, rfl, rfl, rfl, rfl, rfl, trivial⟩ rfl rfl rfl trivial ?_; clear S CL a; intro a S CL
        refine h_extract S CL hw le ⟨rfl, rfl, rfl, rfl, rfl, rfl, rfl, trivial⟩ rfl rfl rfl rfl rfl trivial ?_; clear S CL a; intro a S CL
        refine h_extract S CL hw le ⟨rfl, rfl, rfl, rfl, rfl, rfl, rfl, rfl, trivial⟩ rfl rfl rfl rfl rfl trivial ?_; clear S CL a; intro a S CL
        refine h_run' S rfl trivial ?_
        refine s_alloc S Z26 rfl ⟨rfl, trivial⟩ rfl ?_; clear S a; intro g13 a w S
        replace hw := CL.again hw S (.cons (.there (.there .here)) (.cons (.there (.there .here)) .nil)) le
        refine h_back ⟨fun _ => hw, ?_⟩
        refine h_run' S rfl trivial ?_
        refine s_store S rfl rfl rfl (s' := [.ints .u64 t5.1 4]) (.there .here) T26 rfl rfl ?_; clear S; intro w S
        replace hw := CL.again hw S (.cons (.there (.there .here)) (.cons (.there (.there .here)) .nil)) le
        refine h_back ⟨fun _ => hw, ?_⟩
        refine h_run' S rfl trivial ?_
        refine s_store S rfl rfl rfl (s' := [.ints .u64 t5.2 4]) .here T26 rfl rfl ?_; clear S; intro w S
        refine h_back ⟨fun h => (nomatch h), ?_⟩
        refine h_done ?_; clear CL hw le
        refine x_thenN ?_
        exact j1 _ g13 g12 g2 g1 t5.2 t5.1 a w (S.sub ⟨rfl, rfl, rfl, rfl, trivial⟩ (.cons .here (.cons .here (.cons .here (.cons .here .nil))))) h2
      refine h_runO S rfl trivial ?_ ?_
      · refine s_alloc S Z26 rfl ⟨rfl, trivial⟩ rfl ?_; clear S a; intro g13 a w S
        replace hw := CL.again hw S (.cons (.there (.there .here)) (.cons (.there (.there .here)) .nil)) le
        refine h_back ⟨fun _ => hw, ?_⟩
        refine h_run' S rfl trivial ?_
        refine s_callP S (fun (ch : Unit) => ((.tup [(true, [.ints .u64 t5.1 4]), (true, [.ints .u64 t5.2 4])]) : D)) N26 rfl rfl (wide_Product.ok k t4 x1.2.2.2.2.2.2.2.1 t5 et5 _ _) ?_; clear S a; intro ch4 m le1 a w S
        replace le := le.trans le1
        replace hw := CL.again hw S (.cons (.there (.there .here)) (.cons (.there (.there .here)) .nil)) le
        refine h_back ⟨fun _ => hw, ?_⟩
        replace CL := CL.add (t := 13) (d := (.tup [(true, [.ints .u64 t5.1 4]), (true, [.ints .u64 t5.2 4])])) S rfl rfl
        refine h_move S CL hw le ⟨rfl, rfl, rfl, rfl, rfl, rfl, trivial⟩ rfl rfl rfl trivial ?_; clear S CL a; intro a S CL
        refine h_extract S CL hw le ⟨rfl, rfl, rfl, rfl, rfl, rfl, rfl, trivial⟩ rfl rfl rfl rfl rfl trivial ?_; clear S CL a; intro a S CL
        refine h_extract S CL hw le ⟨rfl, rfl, rfl, rfl, rfl, rfl, rfl, rfl, trivial⟩ rfl rfl rfl rfl rfl trivial ?_; clear S CL a; intro a S CL
        refine h_run' S rfl trivial ?_
        refine s_store S rfl rfl rfl (s' := [.ints .u64 t5.1 4]) (.there .here) T26 rfl rfl ?_; clear S; intro w S
        replace hw := CL.again hw S (.cons (.there (.there .here)) (.cons (.there (.there .here)) .nil)) le
        refine h_back ⟨fun _ => hw, ?_⟩
        refine h_run' S rfl trivial ?_
        refine s_store S rfl rfl rfl (s' := [.ints .u64 t5.2 4]) .here T26 rfl rfl ?_; clear S; intro w S
        refine h_back ⟨fun h => (nomatch h), ?_⟩
        refine h_done ?_; clear CL hw le
        refine x_thenN ?_
        exact j1 _ g13 g12 g2 g1 t5.2 t5.1 a w (S.sub ⟨rfl, rfl, rfl, rfl, trivial⟩ (.cons .here (.cons .here (.cons .here (.cons .here .nil))))) h2
      exact h_nil
    refine h_runO S rfl trivial ?_ ?_
    · refine s_alloc S Z26 rfl ⟨rfl, trivial⟩ rfl ?_; clear S a; intro g12 a w S
      replace hw := CL.again hw S (.cons (.there .here) (.cons (.there .here) .nil)) le
      refine h_back ⟨fun _ => hw, ?_⟩
      refine h_alts ?_
      refine h_runO S rfl trivial ?_ ?_
      · refine s_callP S (fun (ch : Unit) => ((.tup [(true, [.ints .u64 t5.1 4]), (true, [.ints .u64 t5.2 4])]) : D)) N26 rfl rfl (wide_Product.ok k t4 x1.2.2.2.2.2.2.2.1 t5 et5 _ _) ?_; clear S a; intro ch4 m le1 a w S
        replace le := le.trans le1
        replace hw := CL.again hw S (.cons (.there .here) (.cons (.there .here) .nil)) le
        refine h_back ⟨fun _ => hw, ?_⟩
        replace CL := CL.add (t := 13) (d := (.tup [(true, [.ints .u64 t5.1 4]), (true, [.ints .u64 t5.2 4])])) S rfl rfl
        refine h_move S CL hw le ⟨rfl, rfl, rfl, rfl, rfl, rfl, trivial⟩ rfl rfl rfl trivial ?_; clear S CL a; intro a S CL
        refine h_extract S CL hw le ⟨rfl, rfl, rfl, rfl, rfl, rfl, rfl, trivial⟩ rfl rfl rfl rfl rfl trivial ?_; clear S CL a; intro a S CL
        refine h_extract S CL hw le ⟨rfl, rfl, rfl, rfl, rfl, rfl, rfl, rfl, trivial⟩ rfl rfl rfl rfl rfl trivial ?_; clear S CL a; intro a S CL
        refine h_run' S rfl trivial ?_
        refine s_alloc S Z26 rfl ⟨rfl, trivial⟩ rfl ?_; clear S a; intro g13 a w S
        replace hw := CL.again hw S (.cons (.there (.there .here)) (.cons (.there (.there .here)) .nil)) le
        refine h_back ⟨fun _ => hw, ?_⟩
        refine h_run' S rfl trivial ?_
        refine s_store S rfl rfl rfl (s' := [.ints .u64 t5.1 4]) .here T26 rfl rfl ?_; clear S; intro w S
        replace hw := CL.again hw S (.cons (.there (.there .here)) (.cons (.there (.there .here)) .nil)) le
        refine h_back ⟨fun _ => hw, ?_⟩
        refine h_run' S rfl trivial ?_
        refine s_store S rfl rfl rfl (s' := [.ints .u64 t5.2 4]) (.there .here) T26 rfl rfl ?_; clear S; intro w S
        refine h_back ⟨fun h => (nomatch h), ?_⟩
        refine h_done ?_; clear CL hw le
        refine x_thenN ?_
        exact j1 _ g12 g13 g2 g1 t5.2 t5.1 a w (S.sub ⟨rfl, rfl, rfl, rfl, trivial⟩ (.cons (.there .here) (.cons .here (.cons .here (.cons .here .nil))))) h2
      refine h_runO S rfl trivial ?_ ?_
      · refine s_alloc S Z26 rfl ⟨rfl, trivial⟩ rfl ?_; clear S a; intro g13 a w S
        replace hw := CL.again hw S (.cons (.there (.there .here)) (.cons (.there (.there .here)) .nil)) le
        refine h_back ⟨fun _ => hw, ?_⟩
        refine h_run' S rfl trivial ?_
        refine s_callP S (fun (ch : Unit) => ((.tup [(true, [.ints .u64 t5.1 4]), (true, [.ints .u64 t5.2 4])]) : D)) N26 rfl rfl (wide_Product.ok k t4 x1.2.2.2.2.2.2.2.1 t5 et5 _ _) ?_; clear S a; intro ch4 m le1 a w S
        replace le := le.trans le1
        replace hw := CL.again hw S (.cons (.there (.there .here)) (.cons (.there (.there .here)) .nil)) le
        refine h_back ⟨fun _ => hw, ?_⟩
        replace CL := CL.add (t := 13) (d := (.tup [(true, [.ints .u64 t5.1 4]), (true, [.ints .u64 t5.2 4])])) S rfl rfl
        refine h_move S CL hw le ⟨rfl, rfl, rfl, rfl, rfl, rfl, trivial⟩ rfl rfl rfl trivial ?_; clear S CL a; intro a S CL
        refine h_extract S CL hw le ⟨rfl, rfl, rfl, rfl, rfl, rfl, rfl, trivial⟩ rfl rfl rfl rfl rfl trivial ?_; clear S CL a; intro a S CL
        refine h_extract S CL hw le ⟨rfl, rfl, rfl, rfl, rfl, rfl, rfl, rfl, trivial⟩ rfl rfl rfl rfl rfl trivial ?_; clear S CL a; intro a S CL
        refine h_run' S rfl trivial ?_
        refine s_store S rfl rfl rfl (s' := [.ints .u64 t5.1 4]) .here T26 rfl rfl ?_; clear S; intro w S
        replace hw := CL.again hw S (.cons (.there (.there .here)) (.cons (.there (.there .here)) .nil)) le
        refine h_back ⟨fun _ => hw, ?_⟩
        refine h_run' S rfl trivial ?_
        refine s_store S rfl rfl rfl (s' := [.ints .u64 t5.2 4]) (.there .here) T26 rfl rfl ?_; clear S; intro w S
        refine h_back ⟨fun h => (nomatch h), ?_⟩
        refine h_done ?_; clear CL hw le
        refine x_thenN ?_
        exact j1 _ g12 g13 g2 g1 t5.2 t5.1 a w (S.sub ⟨rfl, rfl, rfl, rfl, trivial⟩ (.cons (.there .here) (.cons .here (.cons .here (.cons .here .nil))))) h2
      exact h_nil
    exact h_nil
  refine h_runO S rfl trivial ?_ ?_
  · refine s_alloc S Z26 rfl ⟨rfl, trivial⟩ rfl ?_; clear S a; intro g12 a w S
    replace hw := CL.again hw S (.cons (.there .here) (.cons (.there .here) .nil)) le
    refine h_back ⟨fun _ => hw, ?_⟩
    refine h_alts ?_
    refine h_runO S rfl trivial ?_ ?_
    · refine s_callP S (fun (ch : Unit) => ((.agg [.ints .u64 t4 4]) : D)) N14 rfl rfl (word_Of.ok x1.2.2.2.2.2.2.1 t4 et4 _ _) ?_; clear S a; intro ch3 m le1 a w S
      replace le := le.trans le1
      replace hw := CL.again hw S (.cons (.there .here) (.cons (.there .here) .nil)) le
      refine h_back ⟨fun _ => hw, ?_⟩
      refine h_alts ?_
      refine h_runO S rfl trivial ?_ ?_
      · refine s_callP S (fun (ch : Unit) => ((.tup [(true, [.ints .u64 t5.1 4]), (true, [.ints .u64 t5.2 4])]) : D)) N26 rfl rfl (wide_Product.ok k t4 x1.2.2.2.2.2.2.2.1 t5 et5 _ _) ?_; clear S a; intro ch4 m le1 a w S
        replace le := le.trans le1
        replace hw := CL.again hw S (.cons (.there .here) (.cons (.there .here) .nil)) le
        refine h_back ⟨fun _ => hw, ?_⟩
        replace CL := CL.add (t := 13) (d := (.tup [(true, [.ints .u64 t5.1 4]), (true, [.ints .u64 t5.2 4])])) S rfl rfl
        refine h_move S CL hw le ⟨rfl, rfl, rfl, rfl, rfl, rfl, trivial⟩ rfl rfl rfl trivial ?_; clear S CL a; intro a S CL
        refine h_extract S CL hw le ⟨rfl, rfl, rfl, rfl, rfl, rfl, rfl, trivial⟩ rfl rfl rfl rfl rfl trivial ?_; clear S CL a; intro a S CL
        refine h_extract S CL hw le ⟨rfl, rfl, rfl, rfl, rfl, rfl, rfl, rfl, trivial⟩ rfl rfl rfl rfl rfl trivial ?_; clear S CL a; intro a S CL
        refine h_run' S rfl trivial ?_
        refine s_alloc S Z26 rfl ⟨rfl, trivial⟩ rfl ?_; clear S a; intro g13 a w S
        replace hw := CL.again hw S (.cons (.there (.there .here)) (.cons (.there (.there .here)) .nil)) le
        refine h_back ⟨fun _ => hw, ?_⟩
        refine h_run' S rfl trivial ?_
        refine s_store S rfl rfl rfl (s' := [.ints .u64 t5.1 4]) (.there .here) T26 rfl rfl ?_; clear S; intro w S
        replace hw := CL.again hw S (.cons (.there (.there .here)) (.cons (.there (.there .here)) .nil)) le
        refine h_back ⟨fun _ => hw, ?_⟩
        refine h_run' S rfl trivial ?_
        refine s_store S rfl rfl rfl (s' := [.ints .u64 t5.2 4]) .here T26 rfl rfl ?_; clear S; intro w S
        refine h_back ⟨fun h => (nomatch h), ?_⟩
        refine h_done ?_; clear CL hw le
        refine x_thenN ?_
        exact j1 _ g13 g12 g2 g1 t5.2 t5.1 a w (S.sub ⟨rfl, rfl, rfl, rfl, trivial⟩ (.cons .here (.cons .here (.cons .here (.cons .here .nil))))) h2
      refine h_runO S rfl trivial ?_ ?_
      · refine s_alloc S Z26 rfl ⟨rfl, trivial⟩ rfl ?_; clear S a; intro g13 a w S
        replace hw := CL.again hw S (.cons (.there (.there .here)) (.cons (.there (.there .here)) .nil)) le
        refine h_back ⟨fun _ => hw, ?_⟩
        refine h_run' S rfl trivial ?_
        refine s_callP S (fun (ch : Unit) => ((.tup [(true, [.ints .u64 t5.1 4]), (true, [.ints .u64 t5.2 4])]) : D)) N26 rfl rfl (wide_Product.ok k t4 x1.2.2.2.2.2.2.2.1 t5 et5 _ _) ?_; clear S a; intro ch4 m le1 a w S
        replace le := le.trans le1
        replace hw := CL.again hw S (.cons (.there (.there .here)) (.cons (.there (.there .here)) .nil)) le
        refine h_back ⟨fun _ => hw, ?_⟩
        replace CL := CL.add (t := 13) (d := (.tup [(true, [.ints .u64 t5.1 4]), (true, [.ints .u64 t5.2 4])])) S rfl rfl
        refine h_move S CL hw le ⟨rfl, rfl, rfl, rfl, rfl, rfl, trivial⟩ rfl rfl rfl trivial ?_; clear S CL a; intro a S CL
        refine h_extract S CL hw le ⟨rfl, rfl, rfl, rfl, rfl, rfl, rfl, trivial⟩ rfl rfl rfl rfl rfl trivial ?_; clear S CL a; intro a S CL
        refine h_extract S CL hw le ⟨rfl, rfl, rfl, rfl, rfl, rfl, rfl, rfl, trivial⟩ rfl rfl rfl rfl rfl trivial ?_; clear S CL a; intro a S CL
        refine h_run' S rfl trivial ?_
        refine s_store S rfl rfl rfl (s' := [.ints .u64 t5.1 4]) (.there .here) T26 rfl rfl ?_; clear S; intro w S
        replace hw := CL.again hw S (.cons (.there (.there .here)) (.cons (.there (.there .here)) .nil)) le
        refine h_back ⟨fun _ => hw, ?_⟩
        refine h_run' S rfl trivial ?_
        refine s_store S rfl rfl rfl (s' := [.ints .u64 t5.2 4]) .here T26 rfl rfl ?_; clear S; intro w S
        refine h_back ⟨fun h => (nomatch h), ?_⟩
        refine h_done ?_; clear CL hw le
        refine x_thenN ?_
        exact j1 _ g13 g12 g2 g1 t5.2 t5.1 a w (S.sub ⟨rfl, rfl, rfl, rfl, trivial⟩ (.cons .here (.cons .here (.cons .here (.cons .here .nil))))) h2
      exact h_nil
    refine h_runO S rfl trivial ?_ ?_
    · refine s_alloc S Z26 rfl ⟨rfl, trivial⟩ rfl ?_; clear S a; intro g13 a w S
      replace hw := CL.again hw S (.cons (.there (.there .here)) (.cons (.there (.there .here)) .nil)) le
      refine h_back ⟨fun _ => hw, ?_⟩
      refine h_run' S rfl trivial ?_
      refine s_callP S (fun (ch : Unit) => ((.agg [.ints .u64 t4 4]) : D)) N14 rfl rfl (word_Of.ok x1.2.2.2.2.2.2.1 t4 et4 _ _) ?_; clear S a; intro ch3 m le1 a w S
      replace le := le.trans le1
      replace hw := CL.again hw S (.cons (.there (.there .here)) (.cons (.there (.there .here)) .nil)) le
      refine h_back ⟨fun _ => hw, ?_⟩
      refine h_run' S rfl trivial ?_
      refine s_callP S (fun (ch : Unit) => ((.tup [(true, [.ints .u64 t5.1 4]), (true, [.ints .u64 t5.2 4])]) : D)) N26 rfl rfl (wide_Product.ok k t4 x1.2.2.2.2.2.2.2.1 t5 et5 _ _) ?_; clear S a; intro ch4 m le1 a w S
      replace le := le.trans le1
      replace hw := CL.again hw S (.cons (.there (.there .here)) (.cons (.there (.there .here)) .nil)) le
      refine h_back ⟨fun _ => hw, ?_⟩
      replace CL := CL.add (t := 13) (d := (.tup [(true, [.ints .u64 t5.1 4]), (true, [.ints .u64 t5.2 4])])) S rfl rfl
      refine h_move S CL hw le ⟨rfl, rfl, rfl, rfl, rfl, rfl, trivial⟩ rfl rfl rfl trivial ?_; clear S CL a; intro a S CL
      refine h_extract S CL hw le ⟨rfl, rfl, rfl, rfl, rfl, rfl, rfl, trivial⟩ rfl rfl rfl rfl rfl trivial ?_; clear S CL a; intro a S CL
      refine h_extract S CL hw le ⟨rfl, rfl, rfl, rfl, rfl, rfl, rfl, rfl, trivial⟩ rfl rfl rfl rfl rfl trivial ?_; clear S CL a; intro a S CL
      refine h_run' S rfl trivial ?_
      refine s_store S rfl rfl rfl (s' := [.ints .u64 t5.1 4]) (.there .here) T26 rfl rfl ?_; clear S; intro w S
      replace hw := CL.again hw S (.cons (.there (.there .here)) (.cons (.there (.there .here)) .nil)) le
      refine h_back ⟨fun _ => hw, ?_⟩
      refine h_run' S rfl trivial ?_
      refine s_store S rfl rfl rfl (s' := [.ints .u64 t5.2 4]) .here T26 rfl rfl ?_; clear S; intro w S
      refine h_back ⟨fun h => (nomatch h), ?_⟩
      refine h_done ?_; clear CL hw le
      refine x_thenN ?_
      exact j1 _ g13 g12 g2 g1 t5.2 t5.1 a w (S.sub ⟨rfl, rfl, rfl, rfl, trivial⟩ (.cons .here (.cons .here (.cons .here (.cons .here .nil))))) h2
    exact h_nil
  refine h_runO S rfl trivial ?_ ?_
  · refine s_alloc S Z26 rfl ⟨rfl, trivial⟩ rfl ?_; clear S a; intro g12 a w S
    replace hw := CL.again hw S (.cons (.there .here) (.cons (.there .here) .nil)) le
    refine h_back ⟨fun _ => hw, ?_⟩
    refine h_alts ?_
    refine h_runO S rfl trivial ?_ ?_
    · refine s_callP S (fun (ch : Unit) => ((.agg [.ints .u64 t4 4]) : D)) N14 rfl rfl (word_Of.ok x1.2.2.2.2.2.2.1 t4 et4 _ _) ?_; clear S a; intro ch3 m le1 a w S
      replace le := le.trans le1
      replace hw := CL.again hw S (.cons (.there .here) (.cons (.there .here) .nil)) le
      refine h_back ⟨fun _ => hw, ?_⟩
      refine h_alts ?_
      refine h_runO S rfl trivial ?_ ?_
      · refine s_callP S (fun (ch : Unit) => ((.tup [(true, [.ints .u64 t5.1 4]), (true, [.ints .u64 t5.2 4])]) : D)) N26 rfl rfl (wide_Product.ok k t4 x1.2.2.2.2.2.2.2.1 t5 et5 _ _) ?_; clear S a; intro ch4 m le1 a w S
        replace le := le.trans le1
        replace hw := CL.again hw S (.cons (.there .here) (.cons (.there .here) .nil)) le
        refine h_back ⟨fun _ => hw, ?_⟩
        replace CL := CL.add (t := 13) (d := (.tup [(true, [.ints .u64 t5.1 4]), (true, [.ints .u64 t5.2 4])])) S rfl rfl
        refine h_move S CL hw le ⟨rfl, rfl, rfl, rfl, rfl, rfl, trivial⟩ rfl rfl rfl trivial ?_; clear S CL a; intro a S CL
        refine h_extract S CL hw le ⟨rfl, rfl, rfl, rfl, rfl, rfl, rfl, trivial⟩ rfl rfl rfl rfl rfl trivial ?_; clear S CL a; intro a S CL
        refine h_extract S CL hw le ⟨rfl, rfl, rfl, rfl, rfl, rfl, rfl, rfl, trivial⟩ rfl rfl rfl rfl rfl trivial ?_; clear S CL a; intro a S CL
        refine h_run' S rfl trivial ?_
        refine s_alloc S Z26 rfl ⟨rfl, trivial⟩ rfl ?_; clear S a; intro g13 a w S
        replace hw := CL.again hw S (.cons (.there (.there .here)) (.cons (.there (.there .here)) .nil)) le
        refine h_back ⟨fun _ => hw, ?_⟩
        refine h_run' S rfl trivial ?_
        refine s_store S rfl rfl rfl (s' := [.ints .u64 t5.1 4]) .here T26 rfl rfl ?_; clear S; intro w S
        replace hw := CL.again hw S (.cons (.there (.there .here)) (.cons (.there (.there .here)) .nil)) le
        refine h_back ⟨fun _ => hw, ?_⟩
        refine h_run' S rfl trivial ?_
        refine s_store S rfl rfl rfl (s' := [.ints .u64 t5.2 4]) (.there .here) T26 rfl rfl ?_; clear S; intro w S
        refine h_back ⟨fun h => (nomatch h), ?_⟩
        refine h_done ?_; clear CL hw le
        refine x_thenN ?_
        exact j1 _ g12 g13 g2 g1 t5.2 t5.1 a w (S.sub ⟨rfl, rfl, rfl, rfl, trivial⟩ (.cons (.there .here) (.cons .here (.cons .here (.cons .here .nil))))) h2
      refine h_runO S rfl trivial ?_ ?_
      · refine s_alloc S Z26 rfl ⟨rfl, trivial⟩ rfl ?_; clear S a; intro g13 a w S
        replace hw := CL.again hw S (.cons (.there (.there .here)) (.cons (.there (.there .here)) .nil)) le
        refine h_back ⟨fun _ => hw, ?_⟩
        refine h_run' S rfl trivial ?_
        refine s_callP S (fun (ch : Unit) => ((.tup [(true, [.ints .u64 t5.1 4]), (true, [.ints .u64 t5.2 4])]) : D)) N26 rfl rfl (wide_Product.ok k t4 x1.2.2.2.2.2.2.2.1 t5 et5 _ _) ?_; clear S a; intro ch4 m le1 a w S
        replace le := le.trans le1
        replace hw := CL.again hw S (.cons (.there (.there .here)) (.cons (.there (.there .here)) .nil)) le
        refine h_back ⟨fun _ => hw, ?_⟩
        replace CL := CL.add (t := 13) (d := (.tup [(true, [.ints .u64 t5.1 4]), (true, [.ints .u64 t5.2 4])])) S rfl rfl
        refine h_move S CL hw le ⟨rfl, rfl, rfl, rfl, rfl, rfl, trivial⟩ rfl rfl rfl trivial ?_; clear S CL a; intro a S CL
        refine h_extract S CL hw le ⟨rfl, rfl, rfl, rfl, rfl, rfl, rfl, trivial⟩ rfl rfl rfl rfl rfl trivial ?_; clear S CL a; intro a S CL
        refine h_extract S CL hw le ⟨rfl, rfl, rfl, rfl, rfl, rfl, rfl, rfl, trivial⟩ rfl rfl rfl rfl rfl trivial ?_; clear S CL a; intro a S CL
        refine h_run' S rfl trivial ?_
        refine s_store S rfl rfl rfl (s' := [.ints .u64 t5.1 4]) .here T26 rfl rfl ?_; clear S; intro w S
        replace hw := CL.again hw S (.cons (.there (.there .here)) (.cons (.there (.there .here)) .nil)) le
        refine h_back ⟨fun _ => hw, ?_⟩
        refine h_run' S rfl trivial ?_
        refine s_store S rfl rfl rfl (s' := [.ints .u64 t5.2 4]) (.there .here) T26 rfl rfl ?_; clear S; intro w S
        refine h_back ⟨fun h => (nomatch h), ?_⟩
        refine h_done ?_; clear CL hw le
        refine x_thenN ?_
        exact j1 _ g12 g13 g2 g1 t5.2 t5.1 a w (S.sub ⟨rfl, rfl, rfl, rfl, trivial⟩ (.cons (.there .here) (.cons .here (.cons .here (.cons .here .nil))))) h2
      exact h_nil
    refine h_runO S rfl trivial ?_ ?_
    · refine s_alloc S Z26 rfl ⟨rfl, trivial⟩ rfl ?_; clear S a; intro g13 a w S
      replace hw := CL.again hw S (.cons (.there (.there .here)) (.cons (.there (.there .here)) .nil)) le
      refine h_back ⟨fun _ => hw, ?_⟩
      refine h_run' S rfl trivial ?_
      refine s_callP S (fun (ch : Unit) => ((.agg [.ints .u64 t4 4]) : D)) N14 rfl rfl (word_Of.ok x1.2.2.2.2.2.2.1 t4 et4 _ _) ?_; clear S a; intro ch3 m le1 a w S
      replace le := le.trans le1
      replace hw := CL.again hw S (.cons (.there (.there .here)) (.cons (.there (.there .here)) .nil)) le
      refine h_back ⟨fun _ => hw, ?_⟩
      refine h_run' S rfl trivial ?_
      refine s_callP S (fun (ch : Unit) => ((.tup [(true, [.ints .u64 t5.1 4]), (true, [.ints .u64 t5.2 4])]) : D)) N26 rfl rfl (wide_Product.ok k t4 x1.2.2.2.2.2.2.2.1 t5 et5 _ _) ?_; clear S a; intro ch4 m le1 a w S
      replace le := le.trans le1
      replace hw := CL.again hw S (.cons (.there (.there .here)) (.cons (.there (.there .here)) .nil)) le
      refine h_back ⟨fun _ => hw, ?_⟩
      replace CL := CL.add (t := 13) (d := (.tup [(true, [.ints .u64 t5.1 4]), (true, [.ints .u64 t5.2 4])])) S rfl rfl
      refine h_move S CL hw le ⟨rfl, rfl, rfl, rfl, rfl, rfl, trivial⟩ rfl rfl rfl trivial ?_; clear S CL a; intro a S CL
      refine h_extract S CL hw le ⟨rfl, rfl, rfl, rfl, rfl, rfl, rfl, trivial⟩ rfl rfl rfl rfl rfl trivial ?_; clear S CL a; intro a S CL
      refine h_extract S CL hw le ⟨rfl, rfl, rfl, rfl, rfl, rfl, rfl, rfl, trivial⟩ rfl rfl rfl rfl rfl trivial ?_; clear S CL a; intro a S CL
      refine h_run' S rfl trivial ?_
      refine s_store S rfl rfl rfl (s' := [.ints .u64 t5.1 4]) .here T26 rfl rfl ?_; clear S; intro w S
      replace hw := CL.again hw S (.cons (.there (.there .here)) (.cons (.there (.there .here)) .nil)) le
      refine h_back ⟨fun _ => hw, ?_⟩
      refine h_run' S rfl trivial ?_
      refine s_store S rfl rfl rfl (s' := [.ints .u64 t5.2 4]) (.there .here) T26 rfl rfl ?_; clear S; intro w S
      refine h_back ⟨fun h => (nomatch h), ?_⟩
      refine h_done ?_; clear CL hw le
      refine x_thenN ?_
      exact j1 _ g12 g13 g2 g1 t5.2 t5.1 a w (S.sub ⟨rfl, rfl, rfl, rfl, trivial⟩ (.cons (.there .here) (.cons .here (.cons .here (.cons .here .nil))))) h2
    exact h_nil
  exact h_nil
/-! smithy/word.Sub -/
abbrev word_Sub.Ty : Type := (List Int) → (List Int) → Option ((List Int))
def word_Sub.Ctr (s : word_Sub.Ty) : Prop := ∀ (x1 : List Int) (x2 : List Int) (r : (List Int)) (h0 : s x1 x2 = some r) (mi : Mem) (w0 : World), okL mi [(.agg [.ints .u64 x1 4]), (.agg [.ints .u64 x2 4])] → Pre mi [] w0 → Calls Tryd.prog 28 (([(.agg [.ints .u64 x1 4]), (.agg [.ints .u64 x2 4])] : List D).map D.val).toArray w0 (RetX mi [] (fun (ch : Unit) => ((.agg [.ints .u64 r 4]) : D)) (fun (ch : Unit) => []) w0)
def word_Sub.j1 (y1 : List Int) : Option ((List Int)) := some y1
def word_Sub.b1 (x1 : List Int) (x2 : List Int) (rec1 : Int → Int → (List Int) → Option ((List Int))) (y5 : Int) (y6 : Int) (y7 : List Int) : Option ((List Int)) := if (decide (y5 < 4)) = true then (if (0 : Int) ≤ y5 ∧ y5 < 4 then (if (0 : Int) ≤ (rd x1 y5) ∧ ((0 : Int) ≤ (rd x2 y5) ∧ ((rd x2 y5) : Int) < 18446744073709551616) ∧ (0 : Int) ≤ y6 ∧ (y6 : Int) ≤ 1 then (rec1 (wr .i64 (y5 + 1)) (if (rd x1 y5) < (rd x2 y5) + y6 then 1 else 0) (y7.set (Int.toNat y5) (((rd x1 y5) - (rd x2 y5) - y6) % 18446744073709551616))) else none) else none) else (word_Sub.j1 y7)
def word_Sub.l1 (x1 : List Int) (x2 : List Int) : Nat → Int → Int → (List Int) → Option ((List Int))
  | 0, _, _, _ => none
  | q + 1, y5, y6, y7 => word_Sub.b1 x1 x2 (word_Sub.l1 x1 x2 q) y5 y6 y7
def word_Sub.f (k : Nat) (x1 : List Int) (x2 : List Int) : Option ((List Int)) := word_Sub.l1 x1 x2 k 0 0 [0, 0, 0, 0]
theorem word_Sub.ok (k : Nat) : word_Sub.Ctr (word_Sub.f k) := by
  intro x1 x2 r h0 mi w0 ok hm
  delta word_Sub.f at h0
  refine c_enterX (n := 30) [(.agg [.ints .u64 x1 4]), (.agg [.ints .u64 x2 4])] (l := [(0, (.agg [.ints .u64 x1 4])), (1, (.agg [.ints .u64 x2 4]))]) Tryd.func28 rfl rfl rfl rfl ok hm ?_
  clear ok hm
  intro b0 hb a S
  refine c_region ?_
  refine s_box S rfl rfl rfl ?_; clear S a; intro g1 a w S
  refine s_box S rfl rfl rfl ?_; clear S a w; intro g2 a w S
  refine s_alloc S Z26 rfl ⟨rfl, trivial⟩ rfl ?_; clear S a w; intro g3 a w S
  refine c_end ?_
  refine c_region ?_
  refine s_alloc S Z26 rfl ⟨rfl, trivial⟩ rfl ?_; clear S a w; intro g4 a w S
  refine c_end ?_
  refine c_region ?_
  refine s_assign S rfl rfl ?_; clear S a; intro a S
  refine c_end ?_
  refine wp_seq_k ?_
  intro K1 hK1
  have j1 : ∀ (m : Mem) (g17 : Nat) (g18 : Nat) (y1 : List Int) (a : Act) (w : World), St 30 m b0 [(5, (.v (.pointer (some ⟨g17, 0, none⟩)))), (4, (.v (.pointer (some ⟨g18, 0, none⟩))))] [Res.cells g17 26 [.ints .u64 y1 4], Res.cells g18 26 [.ints .u64 [0, 0, 0, 0] 4]] a w → word_Sub.j1 y1 = some r → K1 a w := by
    intro m g17 g18 y1 a w S h0
    delta word_Sub.j1 at h0
    refine hK1 a w ?_
    refine c_region ?_
    refine s_loada S rfl .here T26 (s' := [.ints .u64 y1 4]) rfl rfl ?_; clear S a; intro a S
    refine s_store S rfl rfl rfl (s' := [.ints .u64 y1 4]) (.there .here) T26 rfl rfl ?_; clear S w; intro w S
    refine c_end ?_
    refine wp_ret ?_
    obtain rfl := Option.some.inj h0
    exact b_ret1 (d := (.agg [.ints .u64 y1 4])) S rfl (resD_cell rfl (.there .here) T26 rfl rfl) fun ok => S.retX (Hx := []) hb _ _ (() : Unit) .nil ok
  refine c_region ?_
  refine s_move S rfl rfl ?_; clear S a; intro a S
  refine c_end ?_
  refine wp_block ?_
  refine c_loop (fun q1 a w => ∃ (m : Mem) (y5 : Int) (y6 : Int) (g27 : Nat) (g28 : Nat) (g29 : Nat) (g30 : Nat) (y7 : List Int), St 30 m b0 [(10, (.v (.int .i64 y5))), (6, (.v (.int .u64 y6))), (5, (.v (.pointer (some ⟨g27, 0, none⟩)))), (4, (.v (.pointer (some ⟨g28, 0, none⟩)))), (3, (.v (.pointer (some ⟨g29, 0, none⟩)))), (2, (.v (.pointer (some ⟨g30, 0, none⟩))))] [Res.cells g27 26 [.ints .u64 y7 4], Res.cells g28 26 [.ints .u64 [0, 0, 0, 0] 4], Res.cells g29 26 [.ints .u64 x2 4], Res.cells g30 26 [.ints .u64 x1 4]] a w ∧ word_Sub.l1 x1 x2 q1 y5 y6 y7 = some r) ?_ ?_ (k := k) ⟨_, 0, 0, g4, g3, g2, g1, [0, 0, 0, 0], (S.sub ⟨rfl, rfl, rfl, rfl, rfl, rfl, trivial⟩ (.cons .here (.cons .here (.cons .here (.cons .here .nil))))), h0⟩
  · rintro a w ⟨m, y5, y6, g27, g28, g29, g30, y7, S, h0⟩
    exact (nomatch (show (none : Option ((List Int))) = some r from h0))
  · clear S h0
    rintro q1 a w ⟨m, y5, y6, g27, g28, g29, g30, y7, S, h0⟩
    replace h0 : word_Sub.b1 x1 x2 (word_Sub.l1 x1 x2 q1) y5 y6 y7 = some r := h0
    delta word_Sub.b1 at h0
    refine c_region ?_
    refine s_bin S rfl rfl rfl rfl ?_; clear S a; intro a S
    refine c_end ?_
    refine wp_seq ?_
    rcases ite_of h0 with ⟨c1, h1⟩ | ⟨c1, h1⟩ <;> clear h0
    · refine c_condT S rfl c1 ?_
      refine wp_skip ?_
      refine x_thenN ?_
      refine wp_seq ?_
      refine wp_block ?_
      refine c_region ?_
      refine s_move S rfl rfl ?_; clear S a; intro a S
      refine s_assign S rfl rfl ?_; clear S a; intro a S
      refine c_end ?_
      refine wp_seq (c_heldS S (.take 0 (.take 1 (.take 2 (.take 3 (.take 4 (.take 5 (.take 6 (.alts (.run 7 true (.take 8 (.take 9 (.take 10 (.take 11 (.take 12 .done))))) .nil))))))))) 13 [Res.cells g27 26 [.ints .u64 y7 4], Res.cells g28 26 [.ints .u64 [0, 0, 0, 0] 4], Res.cells g29 26 [.ints .u64 x2 4], Res.cells g30 26 [.ints .u64 x1 4]] (.cons .here (.cons .here (.cons .here (.cons .here .nil)))) ⟨Res.stay_cells, Res.stay_cells, Res.stay_cells, Res.stay_cells, trivial⟩ [(7, (.v (.int .i64 y5))), (6, (.v (.int .u64 y6))), (3, (.v (.pointer (some ⟨g29, 0, none⟩)))), (2, (.v (.pointer (some ⟨g30, 0, none⟩))))] ⟨rfl, rfl, rfl, rfl, trivial⟩ (by kernel_rfl) (by kernel_rfl) ?_); clear S; intro w S CL hw le
      refine h_move S CL hw le ⟨rfl, rfl, rfl, rfl, trivial⟩ rfl rfl rfl trivial ?_; clear S CL a; intro a S CL
      obtain ⟨c2, h2⟩ := chk_of h1; clear h1
      refine h_iaddr S CL hw le ⟨rfl, rfl, rfl, rfl, rfl, trivial⟩ rfl rfl Tryd.underlying26 T24 c2.1 c2.2 (mul1 _ _) rfl rfl trivial ?_; clear S CL a; intro a S CL
      refine h_loadi S CL hw le ⟨rfl, rfl, rfl, rfl, rfl, rfl, trivial⟩ (i := y5) rfl (.there (.there (.there .here))) T24 .here rfl c2.1 c2.2 rfl rfl trivial ?_; clear S CL a; intro a S CL
      refine h_move S CL hw le ⟨rfl, rfl, rfl, rfl, rfl, rfl, rfl, trivial⟩ rfl rfl rfl trivial ?_; clear S CL a; intro a S CL
      refine h_iaddr S CL hw le ⟨rfl, rfl, rfl, rfl, rfl, rfl, rfl, rfl, trivial⟩ rfl rfl Tryd.underlying26 T24 c2.1 c2.2 (mul1 _ _) rfl rfl trivial ?_; clear S CL a; intro a S CL
      refine h_loadi S CL hw le ⟨rfl, rfl, rfl, rfl, rfl, rfl, rfl, rfl, rfl, trivial⟩ (i := y5) rfl (.there (.there .here)) T24 .here rfl c2.1 c2.2 rfl rfl trivial ?_; clear S CL a; intro a S CL
      refine h_move S CL hw le ⟨rfl, rfl, rfl, rfl, rfl, rfl, rfl, rfl, rfl, rfl, trivial⟩ rfl rfl rfl trivial ?_; clear S CL a; intro a S CL
      refine h_run' S rfl trivial ?_
      obtain ⟨c3, h3⟩ := chk_of h2; clear h2
      refine s_extSub S X41 rfl rfl rfl c3 rfl ?_; clear S a; intro a S
      replace hw := CL.again hw S (.cons .here (.cons .here (.cons .here (.cons .here .nil)))) le
      refine h_back ⟨fun _ => hw, ?_⟩
      replace CL := CL.add (t := 21) (d := (.tup [(false, [.one (.int .u64 (((rd x1 y5) - (rd x2 y5) - y6) % 18446744073709551616))]), (false, [.one (.int .u64 (if (rd x1 y5) < (rd x2 y5) + y6 then 1 else 0))])])) S rfl rfl
      refine h_move S CL hw le ⟨rfl, rfl, rfl, rfl, rfl, rfl, rfl, rfl, rfl, rfl, rfl, rfl, trivial⟩ rfl rfl rfl trivial ?_; clear S CL a; intro a S CL
      refine h_extract S CL hw le ⟨rfl, rfl, rfl, rfl, rfl, rfl, rfl, rfl, rfl, rfl, rfl, rfl, rfl, trivial⟩ rfl rfl rfl rfl rfl trivial ?_; clear S CL a; intro a S CL
      refine h_extract S CL hw le ⟨rfl, rfl, rfl, rfl, rfl, rfl, rfl, rfl, rfl, rfl, rfl, rfl, rfl, rfl, trivial⟩ rfl rfl rfl rfl rfl trivial ?_; clear S CL a; intro a S CL
      refine h_assign S CL hw le ⟨rfl, rfl, rfl, rfl, rfl, rfl, rfl, rfl, rfl, rfl, rfl, rfl, rfl, rfl, rfl, trivial⟩ rfl rfl rfl trivial ?_; clear S CL a; intro a S CL
      refine h_assign S CL hw le ⟨rfl, rfl, rfl, rfl, rfl, rfl, rfl, rfl, rfl, rfl, rfl, rfl, rfl, rfl, rfl, rfl, trivial⟩ rfl rfl rfl trivial ?_; clear S CL a; intro a S CL
      refine h_done ?_; clear CL hw le
      refine x_thenN ?_
      refine c_region ?_
      refine s_move S rfl rfl ?_; clear S a; intro a S
      refine s_move S rfl rfl ?_; clear S a; intro a S
      refine s_iaddr S rfl rfl Tryd.underlying26 T24 c2.1 c2.2 (mul1 _ _) rfl ?_; clear S a; intro a S
      refine s_storei S (i := y5) rfl rfl .here T24 .here rfl c2.1 c2.2 ?_; clear S w; intro w S
      refine c_end ?_
      refine c_region' ?_
      refine s_move S rfl rfl ?_; clear S a; intro a S
      refine s_assign S rfl rfl ?_; clear S a; intro a S
      refine c_end' ?_
      refine x_blockN ?_
      refine x_thenN ?_
      refine c_region' ?_
      refine s_bin S rfl rfl rfl rfl ?_; clear S a; intro a S
      refine s_move S rfl rfl ?_; clear S a; intro a S
      refine c_end' ?_
      refine x_thenN ?_
      exact ⟨_, (wr .i64 (y5 + 1)), (if (rd x1 y5) < (rd x2 y5) + y6 then 1 else 0), g27, g28, g29, g30, (y7.set (Int.toNat y5) (((rd x1 y5) - (rd x2 y5) - y6) % 18446744073709551616)), (S.sub ⟨rfl, rfl, rfl, rfl, rfl, rfl, trivial⟩ (.cons .here (.cons .here (.cons .here (.cons .here .nil))))), h3⟩
    · refine c_condF S rfl c1 ?_
      refine wp_exit ?_
      refine x_thenX ?_
      refine x_thenX ?_
      refine x_blockX ?_
      refine x_thenN ?_
      exact j1 _ g27 g28 y7 a w (S.sub ⟨rfl, rfl, trivial⟩ (.cons .here (.cons .here .nil))) h1
/-! smithy/tx.Price -/
abbrev tx_Price.Ty : Type := ((List Int) × (List Int) × Bool × Int × (List Int) × (List Int) × Int × (List Int) × (List Int) × (List ((List Int) × (List (List Int))))) → (List Int) → Option ((List Int) × Bool)
def tx_Price.Ctr (s : tx_Price.Ty) : Prop := ∀ (x1 : (List Int) × (List Int) × Bool × Int × (List Int) × (List Int) × Int × (List Int) × (List Int) × (List ((List Int) × (List (List Int))))) (x2 : List Int) (ch_0_0 : Option Addr) (ch_0_1 : Nat) (ch_0_2 : Option Addr) (ch_0_3 : Nat) (r : (List Int) × Bool) (h0 : s x1 x2 = some r) (mi : Mem) (w0 : World), okL mi [(.agg [.ints .u8 x1.1 20, .ints .u8 x1.2.1 20, .one (.bool x1.2.2.1), .one (.int .u64 x1.2.2.2.1), .ints .u64 x1.2.2.2.2.1 4, .sl ch_0_0 (x1.2.2.2.2.2.1).length ch_0_1 (RdS (Ty.int .u8) ch_0_0 x1.2.2.2.2.2.1), .one (.int .u64 x1.2.2.2.2.2.2.1), .ints .u64 x1.2.2.2.2.2.2.2.1 4, .ints .u64 x1.2.2.2.2.2.2.2.2.1 4, .sl ch_0_2 (x1.2.2.2.2.2.2.2.2.2).length ch_0_3 (RdS (Ty.prod (Ty.arr .u8 20) (Ty.slice (Ty.arr .u64 4))) ch_0_2 x1.2.2.2.2.2.2.2.2.2)]), (.agg [.ints .u64 x2 4])] → Pre mi [] w0 → Calls Tryd.prog 10 (([(.agg [.ints .u8 x1.1 20, .ints .u8 x1.2.1 20, .one (.bool x1.2.2.1), .one (.int .u64 x1.2.2.2.1), .ints .u64 x1.2.2.2.2.1 4, .sl ch_0_0 (x1.2.2.2.2.2.1).length ch_0_1 (RdS (Ty.int .u8) ch_0_0 x1.2.2.2.2.2.1), .one (.int .u64 x1.2.2.2.2.2.2.1), .ints .u64 x1.2.2.2.2.2.2.2.1 4, .ints .u64 x1.2.2.2.2.2.2.2.2.1 4, .sl ch_0_2 (x1.2.2.2.2.2.2.2.2.2).length ch_0_3 (RdS (Ty.prod (Ty.arr .u8 20) (Ty.slice (Ty.arr .u64 4))) ch_0_2 x1.2.2.2.2.2.2.2.2.2)]), (.agg [.ints .u64 x2 4])] : List D).map D.val).toArray w0 (RetX mi [] (fun (ch : Unit) => ((.tup [(true, [.ints .u64 r.1 4]), (false, [.one (.bool r.2)])]) : D)) (fun (ch : Unit) => []) w0)
def tx_Price.f (k : Nat) (x1 : (List Int) × (List Int) × Bool × Int × (List Int) × (List Int) × Int × (List Int) × (List Int) × (List ((List Int) × (List (List Int))))) (x2 : List Int) : Option ((List Int) × Bool) := (word_Compare.f k x1.2.2.2.2.2.2.2.1 x2).bind fun t1 => (if (decide (t1 < 0)) = true then (some ([0, 0, 0, 0], false)) else ((word_Sub.f k x1.2.2.2.2.2.2.2.1 x2).bind fun t2 => ((word_Compare.f k t2 x1.2.2.2.2.2.2.2.2.1).bind fun t3 => (if (decide (t3 < 0)) = true then (some (x1.2.2.2.2.2.2.2.1, true)) else ((word_Add.f k x2 x1.2.2.2.2.2.2.2.2.1).bind fun t4 => (some (t4, true)))))))
theorem tx_Price.ok (k : Nat) : tx_Price.Ctr (tx_Price.f k) := by
  intro x1 x2 ch_0_0 ch_0_1 ch_0_2 ch_0_3 r h0 mi w0 ok hm
  delta tx_Price.f at h0
  refine c_enterX (n := 28) [(.agg [.ints .u8 x1.1 20, .ints .u8 x1.2.1 20, .one (.bool x1.2.2.1), .one (.int .u64 x1.2.2.2.1), .ints .u64 x1.2.2.2.2.1 4, .sl ch_0_0 (x1.2.2.2.2.2.1).length ch_0_1 (RdS (Ty.int .u8) ch_0_0 x1.2.2.2.2.2.1), .one (.int .u64 x1.2.2.2.2.2.2.1), .ints .u64 x1.2.2.2.2.2.2.2.1 4, .ints .u64 x1.2.2.2.2.2.2.2.2.1 4, .sl ch_0_2 (x1.2.2.2.2.2.2.2.2.2).length ch_0_3 (RdS (Ty.prod (Ty.arr .u8 20) (Ty.slice (Ty.arr .u64 4))) ch_0_2 x1.2.2.2.2.2.2.2.2.2)]), (.agg [.ints .u64 x2 4])] (l := [(0, (.agg [.ints .u8 x1.1 20, .ints .u8 x1.2.1 20, .one (.bool x1.2.2.1), .one (.int .u64 x1.2.2.2.1), .ints .u64 x1.2.2.2.2.1 4, .sl ch_0_0 (x1.2.2.2.2.2.1).length ch_0_1 (RdS (Ty.int .u8) ch_0_0 x1.2.2.2.2.2.1), .one (.int .u64 x1.2.2.2.2.2.2.1), .ints .u64 x1.2.2.2.2.2.2.2.1 4, .ints .u64 x1.2.2.2.2.2.2.2.2.1 4, .sl ch_0_2 (x1.2.2.2.2.2.2.2.2.2).length ch_0_3 (RdS (Ty.prod (Ty.arr .u8 20) (Ty.slice (Ty.arr .u64 4))) ch_0_2 x1.2.2.2.2.2.2.2.2.2)])), (1, (.agg [.ints .u64 x2 4]))]) Tryd.func10 rfl rfl rfl rfl ok hm ?_
  clear ok hm
  intro b0 hb a S
  refine c_region ?_
  refine s_box S rfl rfl rfl ?_; clear S a; intro g1 a w S
  refine s_box S rfl rfl rfl ?_; clear S a w; intro g2 a w S
  refine s_alloc S Z26 rfl ⟨rfl, trivial⟩ rfl ?_; clear S a w; intro g3 a w S
  refine s_assign S rfl rfl ?_; clear S a; intro a S
  refine c_end ?_
  refine wp_seq ?_
  refine c_region ?_
  refine s_fieldAddr S rfl I30_7 T26 (by decide) rfl rfl ?_; clear S a; intro a S
  refine s_loada S rfl (.there (.there .here)) T26 (s' := [.ints .u64 x1.2.2.2.2.2.2.2.1 4]) rfl rfl ?_; clear S a; intro a S
  refine s_loada S rfl (.there .here) T26 (s' := [.ints .u64 x2 4]) rfl rfl ?_; clear S a; intro a S
  obtain ⟨t1, et1, h1⟩ := bind_of h0; clear h0
  refine s_callP S (fun (ch : Unit) => ((.v (.int .i64 t1)) : D)) N25 rfl rfl (word_Compare.ok k x1.2.2.2.2.2.2.2.1 x2 t1 et1 _ _) ?_; clear S a w; intro ch1 m le1 a w S
  refine s_bin S rfl rfl rfl rfl ?_; clear S a; intro a S
  refine c_end ?_
  rcases ite_of h1 with ⟨c1, h2⟩ | ⟨c1, h2⟩ <;> clear h1
  · refine c_condT S rfl c1 ?_
    refine c_region ?_
    refine s_build S (ds := []) (dv := (.agg [.ints .u64 [0, 0, 0, 0] 4])) rfl (fun _ => by kernel_rfl) ⟨rfl, trivial⟩ rfl ?_; clear S a; intro a S
    refine s_store S rfl rfl rfl (s' := [.ints .u64 [0, 0, 0, 0] 4]) .here T26 rfl rfl ?_; clear S w; intro w S
    refine s_assign S rfl rfl ?_; clear S a; intro a S
    refine c_end ?_
    refine wp_ret ?_
    refine x_thenR ?_
    obtain rfl := Option.some.inj h2
    exact b_ret2 (d1 := (.agg [.ints .u64 [0, 0, 0, 0] 4])) (d2 := (.v (.bool false))) S rfl (resD_cell rfl .here T26 rfl rfl) rfl fun ok1 ok2 => S.retX (Hx := []) hb _ _ (() : Unit) .nil ⟨ok1, ⟨ok2, trivial⟩, trivial⟩
  · refine c_condF S rfl c1 ?_
    refine wp_skip ?_
    refine x_thenN ?_
    refine wp_seq ?_
    refine c_region ?_
    refine s_fieldAddr S rfl I30_7 T26 (by decide) rfl rfl ?_; clear S a; intro a S
    refine s_loada S rfl (.there (.there .here)) T26 (s' := [.ints .u64 x1.2.2.2.2.2.2.2.1 4]) rfl rfl ?_; clear S a; intro a S
    refine s_loada S rfl (.there .here) T26 (s' := [.ints .u64 x2 4]) rfl rfl ?_; clear S a; intro a S
    obtain ⟨t2, et2, h3⟩ := bind_of h2; clear h2
    refine s_callP S (fun (ch : Unit) => ((.agg [.ints .u64 t2 4]) : D)) N28 rfl rfl (word_Sub.ok k x1.2.2.2.2.2.2.2.1 x2 t2 et2 _ _) ?_; clear S a w; intro ch2 m le1 a w S
    refine s_alloc S Z26 rfl ⟨rfl, trivial⟩ rfl ?_; clear S a w; intro g4 a w S
    refine s_store S rfl rfl rfl (s' := [.ints .u64 t2 4]) .here T26 rfl rfl ?_; clear S w; intro w S
    refine c_end ?_
    refine c_region ?_
    refine s_loada S rfl .here T26 (s' := [.ints .u64 t2 4]) rfl rfl ?_; clear S a; intro a S
    refine s_fieldAddr S rfl I30_8 T26 (by decide) rfl rfl ?_; clear S a; intro a S
    refine s_loada S rfl (.there (.there (.there .here))) T26 (s' := [.ints .u64 x1.2.2.2.2.2.2.2.2.1 4]) rfl rfl ?_; clear S a; intro a S
    obtain ⟨t3, et3, h4⟩ := bind_of h3; clear h3
    refine s_callP S (fun (ch : Unit) => ((.v (.int .i64 t3)) : D)) N25 rfl rfl (word_Compare.ok k t2 x1.2.2.2.2.2.2.2.2.1 t3 et3 _ _) ?_; clear S a w; intro ch3 m le1 a w S
    refine s_bin S rfl rfl rfl rfl ?_; clear S a; intro a S
    refine c_end ?_
    rcases ite_of h4 with ⟨c2, h5⟩ | ⟨c2, h5⟩ <;> clear h4
    · refine c_condT S rfl c2 ?_
      refine c_region ?_
      refine s_fieldAddr S rfl I30_7 T26 (by decide) rfl rfl ?_; clear S a; intro a S
      refine s_loada S rfl (.there (.there (.there .here))) T26 (s' := [.ints .u64 x1.2.2.2.2.2.2.2.1 4]) rfl rfl ?_; clear S a; intro a S
      refine s_store S rfl rfl rfl (s' := [.ints .u64 x1.2.2.2.2.2.2.2.1 4]) (.there .here) T26 rfl rfl ?_; clear S w; intro w S
      refine s_assign S rfl rfl ?_; clear S a; intro a S
      refine c_end ?_
      refine wp_ret ?_
      refine x_thenR ?_
      obtain rfl := Option.some.inj h5
      exact b_ret2 (d1 := (.agg [.ints .u64 x1.2.2.2.2.2.2.2.1 4])) (d2 := (.v (.bool true))) S rfl (resD_cell rfl (.there .here) T26 rfl rfl) rfl fun ok1 ok2 => S.retX (Hx := []) hb _ _ (() : Unit) .nil ⟨ok1, ⟨ok2, trivial⟩, trivial⟩
    · refine c_condF S rfl c2 ?_
      refine wp_skip ?_
      refine x_thenN ?_
      refine c_region ?_
      refine s_loada S rfl (.there (.there .here)) T26 (s' := [.ints .u64 x2 4]) rfl rfl ?_; clear S a; intro a S
      refine s_fieldAddr S rfl I30_8 T26 (by decide) rfl rfl ?_; clear S a; intro a S
      refine s_loada S rfl (.there (.there (.there .here))) T26 (s' := [.ints .u64 x1.2.2.2.2.2.2.2.2.1 4]) rfl rfl ?_; clear S a; intro a S
      obtain ⟨t4, et4, h6⟩ := bind_of h5; clear h5
      refine s_callP S (fun (ch : Unit) => ((.agg [.ints .u64 t4 4]) : D)) N27 rfl rfl (word_Add.ok k x2 x1.2.2.2.2.2.2.2.2.1 t4 et4 _ _) ?_; clear S a w; intro ch4 m le1 a w S
      refine s_store S rfl rfl rfl (s' := [.ints .u64 t4 4]) (.there .here) T26 rfl rfl ?_; clear S w; intro w S
      refine s_assign S rfl rfl ?_; clear S a; intro a S
      refine c_end ?_
      refine wp_ret ?_
      obtain rfl := Option.some.inj h6
      exact b_ret2 (d1 := (.agg [.ints .u64 t4 4])) (d2 := (.v (.bool true))) S rfl (resD_cell rfl (.there .here) T26 rfl rfl) rfl fun ok1 ok2 => S.retX (Hx := []) hb _ _ (() : Unit) .nil ⟨ok1, ⟨ok2, trivial⟩, trivial⟩
/-! smithy/smithylaw19.fixed -/
abbrev smithylaw19_fixed.Ty : Type := Option Bool
def smithylaw19_fixed.Ctr (s : smithylaw19_fixed.Ty) : Prop := ∀ (r : Bool) (h0 : s = some r) (mi : Mem) (w0 : World), okL mi [] → Pre mi [] w0 → Calls Tryd.prog 5 (([] : List D).map D.val).toArray w0 (RetX mi [] (fun (ch : Unit) => ((.v (.bool r)) : D)) (fun (ch : Unit) => []) w0)
def smithylaw19_fixed.f (k : Nat) : Option Bool := (tx_Cost.f k ([0, 0, 0, 0, 0, 0, 0, 0, 0, 0, 0, 0, 0, 0, 0, 0, 0, 0, 0, 0], [0, 0, 0, 0, 0, 0, 0, 0, 0, 0, 0, 0, 0, 0, 0, 0, 0, 0, 0, 0], false, 0, [5, 0, 0, 0], ([] : List Int), 21000, [10, 0, 0, 0], [2, 0, 0, 0], ([] : List ((List Int) × (List (List Int)))))).bind fun t1 => ((tx_Price.f k ([0, 0, 0, 0, 0, 0, 0, 0, 0, 0, 0, 0, 0, 0, 0, 0, 0, 0, 0, 0], [0, 0, 0, 0, 0, 0, 0, 0, 0, 0, 0, 0, 0, 0, 0, 0, 0, 0, 0, 0], false, 0, [5, 0, 0, 0], ([] : List Int), 21000, [10, 0, 0, 0], [2, 0, 0, 0], ([] : List ((List Int) × (List (List Int))))) [7, 0, 0, 0]).bind fun t2 => ((tx_Price.f k ([0, 0, 0, 0, 0, 0, 0, 0, 0, 0, 0, 0, 0, 0, 0, 0, 0, 0, 0, 0], [0, 0, 0, 0, 0, 0, 0, 0, 0, 0, 0, 0, 0, 0, 0, 0, 0, 0, 0, 0], false, 0, [5, 0, 0, 0], ([] : List Int), 21000, [10, 0, 0, 0], [2, 0, 0, 0], ([] : List ((List Int) × (List (List Int))))) [9, 0, 0, 0]).bind fun t3 => ((tx_Price.f k ([0, 0, 0, 0, 0, 0, 0, 0, 0, 0, 0, 0, 0, 0, 0, 0, 0, 0, 0, 0], [0, 0, 0, 0, 0, 0, 0, 0, 0, 0, 0, 0, 0, 0, 0, 0, 0, 0, 0, 0], false, 0, [5, 0, 0, 0], ([] : List Int), 21000, [10, 0, 0, 0], [2, 0, 0, 0], ([] : List ((List Int) × (List (List Int))))) [11, 0, 0, 0]).bind fun t4 => (if t1.2 = true then (if (decide (t1.1 = [210005, 0, 0, 0])) = true then (if t2.2 = true then (if (decide (t2.1 = [9, 0, 0, 0])) = true then (if t3.2 = true then (if (decide (t3.1 = [10, 0, 0, 0])) = true then (some (!t4.2)) else (some false)) else (some false)) else (some false)) else (some false)) else (some false)) else (some false)))))
theorem smithylaw19_fixed.ok (k : Nat) : smithylaw19_fixed.Ctr (smithylaw19_fixed.f k) := by
  intro r h0 mi w0 ok hm
  delta smithylaw19_fixed.f at h0
  refine c_enterX (n := 63) [] (l := []) Tryd.func5 rfl rfl rfl rfl ok hm ?_
  clear ok hm
  intro b0 hb a S
  refine c_region ?_
  refine s_assign S rfl rfl ?_; clear S a; intro a S
  refine c_end ?_
  refine c_region ?_
  refine s_build S (ds := [(0, (.v (.int .u64 10)))]) (dv := (.agg [.ints .u64 [10, 0, 0, 0] 4])) rfl (fun _ => by kernel_rfl) ⟨rfl, trivial⟩ rfl ?_; clear S a; intro a S
  refine s_build S (ds := [(0, (.v (.int .u64 2)))]) (dv := (.agg [.ints .u64 [2, 0, 0, 0] 4])) rfl (fun _ => by kernel_rfl) ⟨rfl, trivial⟩ rfl ?_; clear S a; intro a S
  refine s_build S (ds := [(0, (.v (.int .u64 5)))]) (dv := (.agg [.ints .u64 [5, 0, 0, 0] 4])) rfl (fun _ => by kernel_rfl) ⟨rfl, trivial⟩ rfl ?_; clear S a; intro a S
  refine s_bldS S (ds := [(6, (.v (.int .u64 21000))), (7, (.agg [.ints .u64 [10, 0, 0, 0] 4])), (8, (.agg [.ints .u64 [2, 0, 0, 0] 4])), (4, (.agg [.ints .u64 [5, 0, 0, 0] 4]))]) (zs := [.ints .u8 [0, 0, 0, 0, 0, 0, 0, 0, 0, 0, 0, 0, 0, 0, 0, 0, 0, 0, 0, 0] 20, .ints .u8 [0, 0, 0, 0, 0, 0, 0, 0, 0, 0, 0, 0, 0, 0, 0, 0, 0, 0, 0, 0] 20, .one (.bool false), .one (.int .u64 0), .ints .u64 [0, 0, 0, 0] 4, .one (.slice none 0 0), .one (.int .u64 0), .ints .u64 [0, 0, 0, 0] 4, .ints .u64 [0, 0, 0, 0] 4, .one (.slice none 0 0)]) (s' := [.ints .u8 [0, 0, 0, 0, 0, 0, 0, 0, 0, 0, 0, 0, 0, 0, 0, 0, 0, 0, 0, 0] 20, .ints .u8 [0, 0, 0, 0, 0, 0, 0, 0, 0, 0, 0, 0, 0, 0, 0, 0, 0, 0, 0, 0] 20, .one (.bool false), .one (.int .u64 0), .ints .u64 [5, 0, 0, 0] 4, .one (.slice none 0 0), .one (.int .u64 21000), .ints .u64 [10, 0, 0, 0] 4, .ints .u64 [2, 0, 0, 0] 4, .one (.slice none 0 0)]) rfl Tryd.underlying30 P30 Z30 ⟨rfl, rfl, rfl, rfl, rfl, rfl, rfl, rfl, rfl, rfl, trivial⟩ rfl rfl ?_; clear S a; intro a S
  refine s_alloc S Z30 rfl ⟨rfl, rfl, rfl, rfl, rfl, rfl, rfl, rfl, rfl, rfl, trivial⟩ rfl ?_; clear S a; intro g1 a w S
  refine s_store S rfl rfl rfl (s' := [.ints .u8 [0, 0, 0, 0, 0, 0, 0, 0, 0, 0, 0, 0, 0, 0, 0, 0, 0, 0, 0, 0] 20, .ints .u8 [0, 0, 0, 0, 0, 0, 0, 0, 0, 0, 0, 0, 0, 0, 0, 0, 0, 0, 0, 0] 20, .one (.bool false), .one (.int .u64 0), .ints .u64 [5, 0, 0, 0] 4, .one (.slice none 0 0), .one (.int .u64 21000), .ints .u64 [10, 0, 0, 0] 4, .ints .u64 [2, 0, 0, 0] 4, .one (.slice none 0 0)]) .here T30 rfl rfl ?_; clear S w; intro w S
  refine c_end ?_
  refine c_region ?_
  refine s_loada S rfl .here T30 (s' := [.ints .u8 [0, 0, 0, 0, 0, 0, 0, 0, 0, 0, 0, 0, 0, 0, 0, 0, 0, 0, 0, 0] 20, .ints .u8 [0, 0, 0, 0, 0, 0, 0, 0, 0, 0, 0, 0, 0, 0, 0, 0, 0, 0, 0, 0] 20, .one (.bool false), .one (.int .u64 0), .ints .u64 [5, 0, 0, 0] 4, .one (.slice none 0 0), .one (.int .u64 21000), .ints .u64 [10, 0, 0, 0] 4, .ints .u64 [2, 0, 0, 0] 4, .one (.slice none 0 0)]) rfl rfl ?_; clear S a; intro a S
  replace S := S.slot (u := 15) (d' := (.agg [.ints .u8 [0, 0, 0, 0, 0, 0, 0, 0, 0, 0, 0, 0, 0, 0, 0, 0, 0, 0, 0, 0] 20, .ints .u8 [0, 0, 0, 0, 0, 0, 0, 0, 0, 0, 0, 0, 0, 0, 0, 0, 0, 0, 0, 0] 20, .one (.bool false), .one (.int .u64 0), .ints .u64 [5, 0, 0, 0] 4, .sl none (([] : List Int)).length 0 (RdS (Ty.int .u8) none ([] : List Int)), .one (.int .u64 21000), .ints .u64 [10, 0, 0, 0] 4, .ints .u64 [2, 0, 0, 0] 4, .sl none (([] : List ((List Int) × (List (List Int))))).length 0 (RdS (Ty.prod (Ty.arr .u8 20) (Ty.slice (Ty.arr .u64 4))) none ([] : List ((List Int) × (List (List Int)))))])) rfl rfl (by have h := (S.get 15 (.agg [.ints .u8 [0, 0, 0, 0, 0, 0, 0, 0, 0, 0, 0, 0, 0, 0, 0, 0, 0, 0, 0, 0] 20, .ints .u8 [0, 0, 0, 0, 0, 0, 0, 0, 0, 0, 0, 0, 0, 0, 0, 0, 0, 0, 0, 0] 20, .one (.bool false), .one (.int .u64 0), .ints .u64 [5, 0, 0, 0] 4, .one (.slice none 0 0), .one (.int .u64 21000), .ints .u64 [10, 0, 0, 0] 4, .ints .u64 [2, 0, 0, 0] 4, .one (.slice none 0 0)]) rfl).2; exact ⟨h.1, h.2.1, h.2.2.1, h.2.2.2.1, h.2.2.2.2.1, ok_nil, h.2.2.2.2.2.2.1, h.2.2.2.2.2.2.2.1, h.2.2.2.2.2.2.2.2.1, ok_nil, trivial⟩)
  obtain ⟨t1, et1, h1⟩ := bind_of h0; clear h0
  refine s_callP S (fun (ch : Unit) => ((.tup [(true, [.ints .u64 t1.1 4]), (false, [.one (.bool t1.2)])]) : D)) N9 rfl rfl (tx_Cost.ok k ([0, 0, 0, 0, 0, 0, 0, 0, 0, 0, 0, 0, 0, 0, 0, 0, 0, 0, 0, 0], [0, 0, 0, 0, 0, 0, 0, 0, 0, 0, 0, 0, 0, 0, 0, 0, 0, 0, 0, 0], false, 0, [5, 0, 0, 0], ([] : List Int), 21000, [10, 0, 0, 0], [2, 0, 0, 0], ([] : List ((List Int) × (List (List Int))))) none 0 none 0 t1 et1 _ _) ?_; clear S a w; intro ch1 m le1 a w S
  refine s_move S rfl rfl ?_; clear S a; intro a S
  refine s_extract S rfl rfl rfl rfl ?_; clear S a; intro a S
  refine s_extract S rfl rfl rfl rfl ?_; clear S a; intro a S
  refine s_alloc S Z26 rfl ⟨rfl, trivial⟩ rfl ?_; clear S a w; intro g2 a w S
  refine s_store S rfl rfl rfl (s' := [.ints .u64 t1.1 4]) .here T26 rfl rfl ?_; clear S w; intro w S
  refine s_assign S rfl rfl ?_; clear S a; intro a S
  refine c_end ?_
  refine c_region ?_
  refine s_loada S rfl (.there .here) T30 (s' := [.ints .u8 [0, 0, 0, 0, 0, 0, 0, 0, 0, 0, 0, 0, 0, 0, 0, 0, 0, 0, 0, 0] 20, .ints .u8 [0, 0, 0, 0, 0, 0, 0, 0, 0, 0, 0, 0, 0, 0, 0, 0, 0, 0, 0, 0] 20, .one (.bool false), .one (.int .u64 0), .ints .u64 [5, 0, 0, 0] 4, .one (.slice none 0 0), .one (.int .u64 21000), .ints .u64 [10, 0, 0, 0] 4, .ints .u64 [2, 0, 0, 0] 4, .one (.slice none 0 0)]) rfl rfl ?_; clear S a; intro a S
  refine s_build S (ds := [(0, (.v (.int .u64 7)))]) (dv := (.agg [.ints .u64 [7, 0, 0, 0] 4])) rfl (fun _ => by kernel_rfl) ⟨rfl, trivial⟩ rfl ?_; clear S a; intro a S
  replace S := S.slot (u := 20) (d' := (.agg [.ints .u8 [0, 0, 0, 0, 0, 0, 0, 0, 0, 0, 0, 0, 0, 0, 0, 0, 0, 0, 0, 0] 20, .ints .u8 [0, 0, 0, 0, 0, 0, 0, 0, 0, 0, 0, 0, 0, 0, 0, 0, 0, 0, 0, 0] 20, .one (.bool false), .one (.int .u64 0), .ints .u64 [5, 0, 0, 0] 4, .sl none (([] : List Int)).length 0 (RdS (Ty.int .u8) none ([] : List Int)), .one (.int .u64 21000), .ints .u64 [10, 0, 0, 0] 4, .ints .u64 [2, 0, 0, 0] 4, .sl none (([] : List ((List Int) × (List (List Int))))).length 0 (RdS (Ty.prod (Ty.arr .u8 20) (Ty.slice (Ty.arr .u64 4))) none ([] : List ((List Int) × (List (List Int)))))])) rfl rfl (by have h := (S.get 20 (.agg [.ints .u8 [0, 0, 0, 0, 0, 0, 0, 0, 0, 0, 0, 0, 0, 0, 0, 0, 0, 0, 0, 0] 20, .ints .u8 [0, 0, 0, 0, 0, 0, 0, 0, 0, 0, 0, 0, 0, 0, 0, 0, 0, 0, 0, 0] 20, .one (.bool false), .one (.int .u64 0), .ints .u64 [5, 0, 0, 0] 4, .one (.slice none 0 0), .one (.int .u64 21000), .ints .u64 [10, 0, 0, 0] 4, .ints .u64 [2, 0, 0, 0] 4, .one (.slice none 0 0)]) rfl).2; exact ⟨h.1, h.2.1, h.2.2.1, h.2.2.2.1, h.2.2.2.2.1, ok_nil, h.2.2.2.2.2.2.1, h.2.2.2.2.2.2.2.1, h.2.2.2.2.2.2.2.2.1, ok_nil, trivial⟩)
  obtain ⟨t2, et2, h2⟩ := bind_of h1; clear h1
  refine s_callP S (fun (ch : Unit) => ((.tup [(true, [.ints .u64 t2.1 4]), (false, [.one (.bool t2.2)])]) : D)) N10 rfl rfl (tx_Price.ok k ([0, 0, 0, 0, 0, 0, 0, 0, 0, 0, 0, 0, 0, 0, 0, 0, 0, 0, 0, 0], [0, 0, 0, 0, 0, 0, 0, 0, 0, 0, 0, 0, 0, 0, 0, 0, 0, 0, 0, 0], false, 0, [5, 0, 0, 0], ([] : List Int), 21000, [10, 0, 0, 0], [2, 0, 0, 0], ([] : List ((List Int) × (List (List Int))))) [7, 0, 0, 0] none 0 none 0 t2 et2 _ _) ?_; clear S a w; intro ch2 m le1 a w S
  refine s_move S rfl rfl ?_; clear S a; intro a S
  refine s_extract S rfl rfl rfl rfl ?_; clear S a; intro a S
  refine s_extract S rfl rfl rfl rfl ?_; clear S a; intro a S
  refine s_alloc S Z26 rfl ⟨rfl, trivial⟩ rfl ?_; clear S a w; intro g3 a w S
  refine s_store S rfl rfl rfl (s' := [.ints .u64 t2.1 4]) .here T26 rfl rfl ?_; clear S w; intro w S
  refine s_assign S rfl rfl ?_; clear S a; intro a S
  refine c_end ?_
  refine c_region ?_
  refine s_loada S rfl (.there (.there .here)) T30 (s' := [.ints .u8 [0, 0, 0, 0, 0, 0, 0, 0, 0, 0, 0, 0, 0, 0, 0, 0, 0, 0, 0, 0] 20, .ints .u8 [0, 0, 0, 0, 0, 0, 0, 0, 0, 0, 0, 0, 0, 0, 0, 0, 0, 0, 0, 0] 20, .one (.bool false), .one (.int .u64 0), .ints .u64 [5, 0, 0, 0] 4, .one (.slice none 0 0), .one (.int .u64 21000), .ints .u64 [10, 0, 0, 0] 4, .ints .u64 [2, 0, 0, 0] 4, .one (.slice none 0 0)]) rfl rfl ?_; clear S a; intro a S
  refine s_build S (ds := [(0, (.v (.int .u64 9)))]) (dv := (.agg [.ints .u64 [9, 0, 0, 0] 4])) rfl (fun _ => by kernel_rfl) ⟨rfl, trivial⟩ rfl ?_; clear S a; intro a S
  replace S := S.slot (u := 26) (d' := (.agg [.ints .u8 [0, 0, 0, 0, 0, 0, 0, 0, 0, 0, 0, 0, 0, 0, 0, 0, 0, 0, 0, 0] 20, .ints .u8 [0, 0, 0, 0, 0, 0, 0, 0, 0, 0, 0, 0, 0, 0, 0, 0, 0, 0, 0, 0] 20, .one (.bool false), .one (.int .u64 0), .ints .u64 [5, 0, 0, 0] 4, .sl none (([] : List Int)).length 0 (RdS (Ty.int .u8) none ([] : List Int)), .one (.int .u64 21000), .ints .u64 [10, 0, 0, 0] 4, .ints .u64 [2, 0, 0, 0] 4, .sl none (([] : List ((List Int) × (List (List Int))))).length 0 (RdS (Ty.prod (Ty.arr .u8 20) (Ty.slice (Ty.arr .u64 4))) none ([] : List ((List Int) × (List (List Int)))))])) rfl rfl (by have h := (S.get 26 (.agg [.ints .u8 [0, 0, 0, 0, 0, 0, 0, 0, 0, 0, 0, 0, 0, 0, 0, 0, 0, 0, 0, 0] 20, .ints .u8 [0, 0, 0, 0, 0, 0, 0, 0, 0, 0, 0, 0, 0, 0, 0, 0, 0, 0, 0, 0] 20, .one (.bool false), .one (.int .u64 0), .ints .u64 [5, 0, 0, 0] 4, .one (.slice none 0 0), .one (.int .u64 21000), .ints .u64 [10, 0, 0, 0] 4, .ints .u64 [2, 0, 0, 0] 4, .one (.slice none 0 0)]) rfl).2; exact ⟨h.1, h.2.1, h.2.2.1, h.2.2.2.1, h.2.2.2.2.1, ok_nil, h.2.2.2.2.2.2.1, h.2.2.2.2.2.2.2.1, h.2.2.2.2.2.2.2.2.1, ok_nil, trivial⟩)
  obtain ⟨t3, et3, h3⟩ := bind_of h2; clear h2
  refine s_callP S (fun (ch : Unit) => ((.tup [(true, [.ints .u64 t3.1 4]), (false, [.one (.bool t3.2)])]) : D)) N10 rfl rfl (tx_Price.ok k ([0, 0, 0, 0, 0, 0, 0, 0, 0, 0, 0, 0, 0, 0, 0, 0, 0, 0, 0, 0], [0, 0, 0, 0, 0, 0, 0, 0, 0, 0, 0, 0, 0, 0, 0, 0, 0, 0, 0, 0], false, 0, [5, 0, 0, 0], ([] : List Int), 21000, [10, 0, 0, 0], [2, 0, 0, 0], ([] : List ((List Int) × (List (List Int))))) [9, 0, 0, 0] none 0 none 0 t3 et3 _ _) ?_; clear S a w; intro ch3 m le1 a w S
  refine s_move S rfl rfl ?_; clear S a; intro a S
  refine s_extract S rfl rfl rfl rfl ?_; clear S a; intro a S
  refine s_extract S rfl rfl rfl rfl ?_; clear S a; intro a S
  refine s_alloc S Z26 rfl ⟨rfl, trivial⟩ rfl ?_; clear S a w; intro g4 a w S
  refine s_store S rfl rfl rfl (s' := [.ints .u64 t3.1 4]) .here T26 rfl rfl ?_; clear S w; intro w S
  refine s_assign S rfl rfl ?_; clear S a; intro a S
  refine c_end ?_
  refine c_region ?_
  refine s_loada S rfl (.there (.there (.there .here))) T30 (s' := [.ints .u8 [0, 0, 0, 0, 0, 0, 0, 0, 0, 0, 0, 0, 0, 0, 0, 0, 0, 0, 0, 0] 20, .ints .u8 [0, 0, 0, 0, 0, 0, 0, 0, 0, 0, 0, 0, 0, 0, 0, 0, 0, 0, 0, 0] 20, .one (.bool false), .one (.int .u64 0), .ints .u64 [5, 0, 0, 0] 4, .one (.slice none 0 0), .one (.int .u64 21000), .ints .u64 [10, 0, 0, 0] 4, .ints .u64 [2, 0, 0, 0] 4, .one (.slice none 0 0)]) rfl rfl ?_; clear S a; intro a S
  refine s_build S (ds := [(0, (.v (.int .u64 11)))]) (dv := (.agg [.ints .u64 [11, 0, 0, 0] 4])) rfl (fun _ => by kernel_rfl) ⟨rfl, trivial⟩ rfl ?_; clear S a; intro a S
  replace S := S.slot (u := 32) (d' := (.agg [.ints .u8 [0, 0, 0, 0, 0, 0, 0, 0, 0, 0, 0, 0, 0, 0, 0, 0, 0, 0, 0, 0] 20, .ints .u8 [0, 0, 0, 0, 0, 0, 0, 0, 0, 0, 0, 0, 0, 0, 0, 0, 0, 0, 0, 0] 20, .one (.bool false), .one (.int .u64 0), .ints .u64 [5, 0, 0, 0] 4, .sl none (([] : List Int)).length 0 (RdS (Ty.int .u8) none ([] : List Int)), .one (.int .u64 21000), .ints .u64 [10, 0, 0, 0] 4, .ints .u64 [2, 0, 0, 0] 4, .sl none (([] : List ((List Int) × (List (List Int))))).length 0 (RdS (Ty.prod (Ty.arr .u8 20) (Ty.slice (Ty.arr .u64 4))) none ([] : List ((List Int) × (List (List Int)))))])) rfl rfl (by have h := (S.get 32 (.agg [.ints .u8 [0, 0, 0, 0, 0, 0, 0, 0, 0, 0, 0, 0, 0, 0, 0, 0, 0, 0, 0, 0] 20, .ints .u8 [0, 0, 0, 0, 0, 0, 0, 0, 0, 0, 0, 0, 0, 0, 0, 0, 0, 0, 0, 0] 20, .one (.bool false), .one (.int .u64 0), .ints .u64 [5, 0, 0, 0] 4, .one (.slice none 0 0), .one (.int .u64 21000), .ints .u64 [10, 0, 0, 0] 4, .ints .u64 [2, 0, 0, 0] 4, .one (.slice none 0 0)]) rfl).2; exact ⟨h.1, h.2.1, h.2.2.1, h.2.2.2.1, h.2.2.2.2.1, ok_nil, h.2.2.2.2.2.2.1, h.2.2.2.2.2.2.2.1, h.2.2.2.2.2.2.2.2.1, ok_nil, trivial⟩)
  obtain ⟨t4, et4, h4⟩ := bind_of h3; clear h3
  refine s_callP S (fun (ch : Unit) => ((.tup [(true, [.ints .u64 t4.1 4]), (false, [.one (.bool t4.2)])]) : D)) N10 rfl rfl (tx_Price.ok k ([0, 0, 0, 0, 0, 0, 0, 0, 0, 0, 0, 0, 0, 0, 0, 0, 0, 0, 0, 0], [0, 0, 0, 0, 0, 0, 0, 0, 0, 0, 0, 0, 0, 0, 0, 0, 0, 0, 0, 0], false, 0, [5, 0, 0, 0], ([] : List Int), 21000, [10, 0, 0, 0], [2, 0, 0, 0], ([] : List ((List Int) × (List (List Int))))) [11, 0, 0, 0] none 0 none 0 t4 et4 _ _) ?_; clear S a w; intro ch4 m le1 a w S
  refine s_move S rfl rfl ?_; clear S a; intro a S
  refine s_extract S rfl rfl rfl rfl ?_; clear S a; intro a S
  refine s_extract S rfl rfl rfl rfl ?_; clear S a; intro a S
  refine s_alloc S Z26 rfl ⟨rfl, trivial⟩ rfl ?_; clear S a w; intro g5 a w S
  refine s_store S rfl rfl rfl (s' := [.ints .u64 t4.1 4]) .here T26 rfl rfl ?_; clear S w; intro w S
  refine s_assign S rfl rfl ?_; clear S a; intro a S
  refine c_end ?_
  refine c_region ?_
  refine s_move S rfl rfl ?_; clear S a; intro a S
  refine s_move S rfl rfl ?_; clear S a; intro a S
  rcases ite_of h4 with ⟨c1, h5⟩ | ⟨c1, h5⟩ <;> clear h4
  · refine s_gT S (b := t1.2) rfl rfl c1 ?_
    refine s_loada S rfl (.there (.there (.there .here))) T26 (s' := [.ints .u64 t1.1 4]) rfl rfl ?_; clear S a; intro a S
    refine s_gT S (b := t1.2) rfl rfl c1 ?_
    refine s_build S (ds := [(0, (.v (.int .u64 210005)))]) (dv := (.agg [.ints .u64 [210005, 0, 0, 0] 4])) rfl (fun _ => by kernel_rfl) ⟨rfl, trivial⟩ rfl ?_; clear S a; intro a S
    refine s_gT S (b := t1.2) rfl rfl c1 ?_
    refine s_eqa S rfl rfl Tryd.underlying26 Tryd.underlying24 T24 Q26 rfl ?_; clear S a; intro a S
    refine s_pick S (b := true) (hc_of rfl c1) rfl rfl ?_; clear S a; intro a S
    refine s_move S rfl rfl ?_; clear S a; intro a S
    rcases ite_of h5 with ⟨c2, h6⟩ | ⟨c2, h6⟩ <;> clear h5
    · refine s_gT S (b := (decide (t1.1 = [210005, 0, 0, 0]))) rfl rfl c2 ?_
      refine s_move S rfl rfl ?_; clear S a; intro a S
      refine s_pick S (b := true) (hc_of rfl c2) rfl rfl ?_; clear S a; intro a S
      refine s_move S rfl rfl ?_; clear S a; intro a S
      rcases ite_of h6 with ⟨c3, h7⟩ | ⟨c3, h7⟩ <;> clear h6
      · refine s_gT S (b := t2.2) rfl rfl c3 ?_
        refine s_loada S rfl (.there (.there .here)) T26 (s' := [.ints .u64 t2.1 4]) rfl rfl ?_; clear S a; intro a S
        refine s_gT S (b := t2.2) rfl rfl c3 ?_
        refine s_build S (ds := [(0, (.v (.int .u64 9)))]) (dv := (.agg [.ints .u64 [9, 0, 0, 0] 4])) rfl (fun _ => by kernel_rfl) ⟨rfl, trivial⟩ rfl ?_; clear S a; intro a S
        refine s_gT S (b := t2.2) rfl rfl c3 ?_
        refine s_eqa S rfl rfl Tryd.underlying26 Tryd.underlying24 T24 Q26 rfl ?_; clear S a; intro a S
        refine s_pick S (b := true) (hc_of rfl c3) rfl rfl ?_; clear S a; intro a S
        refine s_move S rfl rfl ?_; clear S a; intro a S
        rcases ite_of h7 with ⟨c4, h8⟩ | ⟨c4, h8⟩ <;> clear h7
        · refine s_gT S (b := (decide (t2.1 = [9, 0, 0, 0]))) rfl rfl c4 ?_
          refine s_move S rfl rfl ?_; clear S a; intro a S
          refine s_pick S (b := true) (hc_of rfl c4) rfl rfl ?_; clear S a; intro a S
          refine s_move S rfl rfl ?_; clear S a; intro a S
          rcases ite_of h8 with ⟨c5, h9⟩ | ⟨c5, h9⟩ <;> clear h8
          · refine s_gT S (b := t3.2) rfl rfl c5 ?_
            refine s_loada S rfl (.there .here) T26 (s' := [.ints .u64 t3.1 4]) rfl rfl ?_; clear S a; intro a S
            refine s_gT S (b := t3.2) rfl rfl c5 ?_
            refine s_build S (ds := [(0, (.v (.int .u64 10)))]) (dv := (.agg [.ints .u64 [10, 0, 0, 0] 4])) rfl (fun _ => by kernel_rfl) ⟨rfl, trivial⟩ rfl ?_; clear S a; intro a S
            refine s_gT S (b := t3.2) rfl rfl c5 ?_
            refine s_eqa S rfl rfl Tryd.underlying26 Tryd.underlying24 T24 Q26 rfl ?_; clear S a; intro a S
            refine s_pick S (b := true) (hc_of rfl c5) rfl rfl ?_; clear S a; intro a S
            refine s_move S rfl rfl ?_; clear S a; intro a S
            rcases ite_of h9 with ⟨c6, h10⟩ | ⟨c6, h10⟩ <;> clear h9
            · refine s_gT S (b := (decide (t3.1 = [10, 0, 0, 0]))) rfl rfl c6 ?_
              refine s_move S rfl rfl ?_; clear S a; intro a S
              refine s_gT S (b := (decide (t3.1 = [10, 0, 0, 0]))) rfl rfl c6 ?_
              refine s_not S rfl rfl ?_; clear S a; intro a S
              refine s_pick S (b := true) (hc_of rfl c6) rfl rfl ?_; clear S a; intro a S
              refine s_assign S rfl rfl ?_; clear S a; intro a S
              refine c_end ?_
              refine wp_ret ?_
              obtain rfl := Option.some.inj h10
              exact b_ret1 (d := (.v (.bool (!t4.2)))) S rfl rfl fun ok => S.retX (Hx := []) hb _ _ (() : Unit) .nil ok
            · refine s_gF S (b := (decide (t3.1 = [10, 0, 0, 0]))) rfl rfl c6 rfl ?_; clear S a; intro a S
              refine s_gF S (b := (decide (t3.1 = [10, 0, 0, 0]))) rfl rfl c6 rfl ?_; clear S a; intro a S
              refine s_pick S (b := false) (hc_of rfl c6) rfl rfl ?_; clear S a; intro a S
              refine s_assign S rfl rfl ?_; clear S a; intro a S
              refine c_end ?_
              refine wp_ret ?_
              obtain rfl := Option.some.inj h10
              exact b_ret1 (d := (.v (.bool false))) S rfl rfl fun ok => S.retX (Hx := []) hb _ _ (() : Unit) .nil ok
          · refine s_gF S (b := t3.2) rfl rfl c5 rfl ?_; clear S a; intro a S
            refine s_gF S (b := t3.2) rfl rfl c5 rfl ?_; clear S a; intro a S
            refine s_gF S (b := t3.2) rfl rfl c5 rfl ?_; clear S a; intro a S
            refine s_pick S (b := false) (hc_of rfl c5) rfl rfl ?_; clear S a; intro a S
            refine s_move S rfl rfl ?_; clear S a; intro a S
            refine s_gF S (b := false) rfl rfl rfl rfl ?_; clear S a; intro a S
            refine s_gF S (b := false) rfl rfl rfl rfl ?_; clear S a; intro a S
            refine s_pick S (b := false) (hc_of rfl rfl) rfl rfl ?_; clear S a; intro a S
            refine s_assign S rfl rfl ?_; clear S a; intro a S
            refine c_end ?_
            refine wp_ret ?_
            obtain rfl := Option.some.inj h9
            exact b_ret1 (d := (.v (.bool false))) S rfl rfl fun ok => S.retX (Hx := []) hb _ _ (() : Unit) .nil ok
        · refine s_gF S (b := (decide (t2.1 = [9, 0, 0, 0]))) rfl rfl c4 rfl ?_; clear S a; intro a S
          refine s_pick S (b := false) (hc_of rfl c4) rfl rfl ?_; clear S a; intro a S
          refine s_move S rfl rfl ?_; clear S a; intro a S
          refine s_gF S (b := false) rfl rfl rfl rfl ?_; clear S a; intro a S
          refine s_gF S (b := false) rfl rfl rfl rfl ?_; clear S a; intro a S
          refine s_gF S (b := false) rfl rfl rfl rfl ?_; clear S a; intro a S
          refine s_pick S (b := false) (hc_of rfl rfl) rfl rfl ?_; clear S a; intro a S
          refine s_move S rfl rfl ?_; clear S a; intro a S
          refine s_gF S (b := false) rfl rfl rfl rfl ?_; clear S a; intro a S
          refine s_gF S (b := false) rfl rfl rfl rfl ?_; clear S a; intro a S
          refine s_pick S (b := false) (hc_of rfl rfl) rfl rfl ?_; clear S a; intro a S
          refine s_assign S rfl rfl ?_; clear S a; intro a S
          refine c_end ?_
          refine wp_ret ?_
          obtain rfl := Option.some.inj h8
          exact b_ret1 (d := (.v (.bool false))) S rfl rfl fun ok => S.retX (Hx := []) hb _ _ (() : Unit) .nil ok
      · refine s_gF S (b := t2.2) rfl rfl c3 rfl ?_; clear S a; intro a S
        refine s_gF S (b := t2.2) rfl rfl c3 rfl ?_; clear S a; intro a S
        refine s_gF S (b := t2.2) rfl rfl c3 rfl ?_; clear S a; intro a S
        refine s_pick S (b := false) (hc_of rfl c3) rfl rfl ?_; clear S a; intro a S
        refine s_move S rfl rfl ?_; clear S a; intro a S
        refine s_gF S (b := false) rfl rfl rfl rfl ?_; clear S a; intro a S
        refine s_pick S (b := false) (hc_of rfl rfl) rfl rfl ?_; clear S a; intro a S
        refine s_move S rfl rfl ?_; clear S a; intro a S
        refine s_gF S (b := false) rfl rfl rfl rfl ?_; clear S a; intro a S
        refine s_gF S (b := false) rfl rfl rfl rfl ?_; clear S a; intro a S
        refine s_gF S (b := false) rfl rfl rfl rfl ?_; clear S a; intro a S
        refine s_pick S (b := false) (hc_of rfl rfl) rfl rfl ?_; clear S a; intro a S
        refine s_move S rfl rfl ?_; clear S a; intro a S
        refine s_gF S (b := false) rfl rfl rfl rfl ?_; clear S a; intro a S
        refine s_gF S (b := false) rfl rfl rfl rfl ?_; clear S a; intro a S
        refine s_pick S (b := false) (hc_of rfl rfl) rfl rfl ?_; clear S a; intro a S
        refine s_assign S rfl rfl ?_; clear S a; intro a S
        refine c_end ?_
        refine wp_ret ?_
        obtain rfl := Option.some.inj h7
        exact b_ret1 (d := (.v (.bool false))) S rfl rfl fun ok => S.retX (Hx := []) hb _ _ (() : Unit) .nil ok
    · refine s_gF S (b := (decide (t1.1 = [210005, 0, 0, 0]))) rfl rfl c2 rfl ?_; clear S a; intro a S
      refine s_pick S (b := false) (hc_of rfl c2) rfl rfl ?_; clear S a; intro a S
      refine s_move S rfl rfl ?_; clear S a; intro a S
      refine s_gF S (b := false) rfl rfl rfl rfl ?_; clear S a; intro a S
      refine s_gF S (b := false) rfl rfl rfl rfl ?_; clear S a; intro a S
      refine s_gF S (b := false) rfl rfl rfl rfl ?_; clear S a; intro a S
      refine s_pick S (b := false) (hc_of rfl rfl) rfl rfl ?_; clear S a; intro a S
      refine s_move S rfl rfl ?_; clear S a; intro a S
      refine s_gF S (b := false) rfl rfl rfl rfl ?_; clear S a; intro a S
      refine s_pick S (b := false) (hc_of rfl rfl) rfl rfl ?_; clear S a; intro a S
      refine s_move S rfl rfl ?_; clear S a; intro a S
      refine s_gF S (b := false) rfl rfl rfl rfl ?_; clear S a; intro a S
      refine s_gF S (b := false) rfl rfl rfl rfl ?_; clear S a; intro a S
      refine s_gF S (b := false) rfl rfl rfl rfl ?_; clear S a; intro a S
      refine s_pick S (b := false) (hc_of rfl rfl) rfl rfl ?_; clear S a; intro a S
      refine s_move S rfl rfl ?_; clear S a; intro a S
      refine s_gF S (b := false) rfl rfl rfl rfl ?_; clear S a; intro a S
      refine s_gF S (b := false) rfl rfl rfl rfl ?_; clear S a; intro a S
      refine s_pick S (b := false) (hc_of rfl rfl) rfl rfl ?_; clear S a; intro a S
      refine s_assign S rfl rfl ?_; clear S a; intro a S
      refine c_end ?_
      refine wp_ret ?_
      obtain rfl := Option.some.inj h6
      exact b_ret1 (d := (.v (.bool false))) S rfl rfl fun ok => S.retX (Hx := []) hb _ _ (() : Unit) .nil ok
  · refine s_gF S (b := t1.2) rfl rfl c1 rfl ?_; clear S a; intro a S
    refine s_gF S (b := t1.2) rfl rfl c1 rfl ?_; clear S a; intro a S
    refine s_gF S (b := t1.2) rfl rfl c1 rfl ?_; clear S a; intro a S
    refine s_pick S (b := false) (hc_of rfl c1) rfl rfl ?_; clear S a; intro a S
    refine s_move S rfl rfl ?_; clear S a; intro a S
    refine s_gF S (b := false) rfl rfl rfl rfl ?_; clear S a; intro a S
    refine s_pick S (b := false) (hc_of rfl rfl) rfl rfl ?_; clear S a; intro a S
    refine s_move S rfl rfl ?_; clear S a; intro a S
    refine s_gF S (b := false) rfl rfl rfl rfl ?_; clear S a; intro a S
    refine s_gF S (b := false) rfl rfl rfl rfl ?_; clear S a; intro a S
    refine s_gF S (b := false) rfl rfl rfl rfl ?_; clear S a; intro a S
    refine s_pick S (b := false) (hc_of rfl rfl) rfl rfl ?_; clear S a; intro a S
    refine s_move S rfl rfl ?_; clear S a; intro a S
    refine s_gF S (b := false) rfl rfl rfl rfl ?_; clear S a; intro a S
    refine s_pick S (b := false) (hc_of rfl rfl) rfl rfl ?_; clear S a; intro a S
    refine s_move S rfl rfl ?_; clear S a; intro a S
    refine s_gF S (b := false) rfl rfl rfl rfl ?_; clear S a; intro a S
    refine s_gF S (b := false) rfl rfl rfl rfl ?_; clear S a; intro a S
    refine s_gF S (b := false) rfl rfl rfl rfl ?_; clear S a; intro a S
    refine s_pick S (b := false) (hc_of rfl rfl) rfl rfl ?_; clear S a; intro a S
    refine s_move S rfl rfl ?_; clear S a; intro a S
    refine s_gF S (b := false) rfl rfl rfl rfl ?_; clear S a; intro a S
    refine s_gF S (b := false) rfl rfl rfl rfl ?_; clear S a; intro a S
    refine s_pick S (b := false) (hc_of rfl rfl) rfl rfl ?_; clear S a; intro a S
    refine s_assign S rfl rfl ?_; clear S a; intro a S
    refine c_end ?_
    refine wp_ret ?_
    obtain rfl := Option.some.inj h5
    exact b_ret1 (d := (.v (.bool false))) S rfl rfl fun ok => S.retX (Hx := []) hb _ _ (() : Unit) .nil ok
/-! smithy/tx.long -/
abbrev tx_long.Ty : Type := ((List Int) × (List Int) × Bool × Int × (List Int) × (List Int) × Int × (List Int) × (List Int) × (List ((List Int) × (List (List Int))))) → Option Bool
def tx_long.Ctr (s : tx_long.Ty) : Prop := ∀ (x1 : (List Int) × (List Int) × Bool × Int × (List Int) × (List Int) × Int × (List Int) × (List Int) × (List ((List Int) × (List (List Int))))) (ch_0_0 : Option Addr) (ch_0_1 : Nat) (ch_0_2 : Option Addr) (ch_0_3 : Nat) (r : Bool) (h0 : s x1 = some r) (mi : Mem) (w0 : World), okL mi [(.agg [.ints .u8 x1.1 20, .ints .u8 x1.2.1 20, .one (.bool x1.2.2.1), .one (.int .u64 x1.2.2.2.1), .ints .u64 x1.2.2.2.2.1 4, .sl ch_0_0 (x1.2.2.2.2.2.1).length ch_0_1 (RdS (Ty.int .u8) ch_0_0 x1.2.2.2.2.2.1), .one (.int .u64 x1.2.2.2.2.2.2.1), .ints .u64 x1.2.2.2.2.2.2.2.1 4, .ints .u64 x1.2.2.2.2.2.2.2.2.1 4, .sl ch_0_2 (x1.2.2.2.2.2.2.2.2.2).length ch_0_3 (RdS (Ty.prod (Ty.arr .u8 20) (Ty.slice (Ty.arr .u64 4))) ch_0_2 x1.2.2.2.2.2.2.2.2.2)])] → Pre mi [] w0 → Calls Tryd.prog 11 (([(.agg [.ints .u8 x1.1 20, .ints .u8 x1.2.1 20, .one (.bool x1.2.2.1), .one (.int .u64 x1.2.2.2.1), .ints .u64 x1.2.2.2.2.1 4, .sl ch_0_0 (x1.2.2.2.2.2.1).length ch_0_1 (RdS (Ty.int .u8) ch_0_0 x1.2.2.2.2.2.1), .one (.int .u64 x1.2.2.2.2.2.2.1), .ints .u64 x1.2.2.2.2.2.2.2.1 4, .ints .u64 x1.2.2.2.2.2.2.2.2.1 4, .sl ch_0_2 (x1.2.2.2.2.2.2.2.2.2).length ch_0_3 (RdS (Ty.prod (Ty.arr .u8 20) (Ty.slice (Ty.arr .u64 4))) ch_0_2 x1.2.2.2.2.2.2.2.2.2)])] : List D).map D.val).toArray w0 (RetX mi [] (fun (ch : Unit) => ((.v (.bool r)) : D)) (fun (ch : Unit) => []) w0)
def tx_long.j1 (x1 : (List Int) × (List Int) × Bool × Int × (List Int) × (List Int) × Int × (List Int) × (List Int) × (List ((List Int) × (List (List Int))))) : Option Bool := if (decide (131072 < ((x1.2.2.2.2.2.1).length : Int))) = true then (some true) else (some (decide (64 < ((x1.2.2.2.2.2.2.2.2.2).length : Int))))
def tx_long.b1 (x1 : (List Int) × (List Int) × Bool × Int × (List Int) × (List Int) × Int × (List Int) × (List Int) × (List ((List Int) × (List (List Int))))) (rec1 : Int → Option Bool) (y1 : Int) : Option Bool := if (decide (y1 < ((x1.2.2.2.2.2.2.2.2.2).length : Int))) = true then (if (0 : Int) ≤ y1 ∧ y1 < ((x1.2.2.2.2.2.2.2.2.2).length : Int) then (if (decide (64 < (((gt x1.2.2.2.2.2.2.2.2.2 y1).2).length : Int))) = true then (some true) else (rec1 (wr .i64 (y1 + 1)))) else none) else (tx_long.j1 x1)
def tx_long.l1 (x1 : (List Int) × (List Int) × Bool × Int × (List Int) × (List Int) × Int × (List Int) × (List Int) × (List ((List Int) × (List (List Int))))) : Nat → Int → Option Bool
  | 0, _ => none
  | q + 1, y1 => tx_long.b1 x1 (tx_long.l1 x1 q) y1
def tx_long.f (k : Nat) (x1 : (List Int) × (List Int) × Bool × Int × (List Int) × (List Int) × Int × (List Int) × (List Int) × (List ((List Int) × (List (List Int))))) : Option Bool := tx_long.l1 x1 k 0
theorem tx_long.ok (k : Nat) : tx_long.Ctr (tx_long.f k) := by
  intro x1 ch_0_0 ch_0_1 ch_0_2 ch_0_3 r h0 mi w0 ok hm
  delta tx_long.f at h0
  refine c_enterX (n := 27) [(.agg [.ints .u8 x1.1 20, .ints .u8 x1.2.1 20, .one (.bool x1.2.2.1), .one (.int .u64 x1.2.2.2.1), .ints .u64 x1.2.2.2.2.1 4, .sl ch_0_0 (x1.2.2.2.2.2.1).length ch_0_1 (RdS (Ty.int .u8) ch_0_0 x1.2.2.2.2.2.1), .one (.int .u64 x1.2.2.2.2.2.2.1), .ints .u64 x1.2.2.2.2.2.2.2.1 4, .ints .u64 x1.2.2.2.2.2.2.2.2.1 4, .sl ch_0_2 (x1.2.2.2.2.2.2.2.2.2).length ch_0_3 (RdS (Ty.prod (Ty.arr .u8 20) (Ty.slice (Ty.arr .u64 4))) ch_0_2 x1.2.2.2.2.2.2.2.2.2)])] (l := [(0, (.agg [.ints .u8 x1.1 20, .ints .u8 x1.2.1 20, .one (.bool x1.2.2.1), .one (.int .u64 x1.2.2.2.1), .ints .u64 x1.2.2.2.2.1 4, .sl ch_0_0 (x1.2.2.2.2.2.1).length ch_0_1 (RdS (Ty.int .u8) ch_0_0 x1.2.2.2.2.2.1), .one (.int .u64 x1.2.2.2.2.2.2.1), .ints .u64 x1.2.2.2.2.2.2.2.1 4, .ints .u64 x1.2.2.2.2.2.2.2.2.1 4, .sl ch_0_2 (x1.2.2.2.2.2.2.2.2.2).length ch_0_3 (RdS (Ty.prod (Ty.arr .u8 20) (Ty.slice (Ty.arr .u64 4))) ch_0_2 x1.2.2.2.2.2.2.2.2.2)]))]) Tryd.func11 rfl rfl rfl rfl ok hm ?_
  clear ok hm
  intro b0 hb a S
  refine c_region ?_
  refine s_box S rfl rfl rfl ?_; clear S a; intro g1 a w S
  refine s_assign S rfl rfl ?_; clear S a; intro a S
  refine c_end ?_
  refine wp_seq_k ?_
  intro K1 hK1
  have j1 : ∀ (m : Mem) (g7 : Nat) (a : Act) (w : World), St 27 m b0 [(1, (.v (.pointer (some ⟨g7, 0, none⟩))))] [Res.cells g7 30 [.ints .u8 x1.1 20, .ints .u8 x1.2.1 20, .one (.bool x1.2.2.1), .one (.int .u64 x1.2.2.2.1), .ints .u64 x1.2.2.2.2.1 4, .sl ch_0_0 (x1.2.2.2.2.2.1).length ch_0_1 (RdS (Ty.int .u8) ch_0_0 x1.2.2.2.2.2.1), .one (.int .u64 x1.2.2.2.2.2.2.1), .ints .u64 x1.2.2.2.2.2.2.2.1 4, .ints .u64 x1.2.2.2.2.2.2.2.2.1 4, .sl ch_0_2 (x1.2.2.2.2.2.2.2.2.2).length ch_0_3 (RdS (Ty.prod (Ty.arr .u8 20) (Ty.slice (Ty.arr .u64 4))) ch_0_2 x1.2.2.2.2.2.2.2.2.2)]] a w → tx_long.j1 x1 = some r → K1 a w := by
    intro m g7 a w S h0
    delta tx_long.j1 at h0
    refine hK1 a w ?_
    refine c_region ?_
    refine s_fieldAddr S rfl I30_5 T27 (by decide) rfl rfl ?_; clear S a; intro a S
    refine s_loadSl S rfl .here T27 (A := ch_0_0) (len := (x1.2.2.2.2.2.1).length) (cap := ch_0_1) rfl rfl ?_; clear S a; intro a S
    refine s_lenS S rfl Tryd.underlying27 rfl ?_; clear S a; intro a S
    refine s_bin S rfl rfl rfl rfl ?_; clear S a; intro a S
    refine s_move S rfl rfl ?_; clear S a; intro a S
    rcases ite_of h0 with ⟨c1, h1⟩ | ⟨c1, h1⟩ <;> clear h0
    · refine s_gF S (b := (decide (131072 < ((x1.2.2.2.2.2.1).length : Int)))) rfl rfl c1 rfl ?_; clear S a; intro a S
      refine s_gF S (b := (decide (131072 < ((x1.2.2.2.2.2.1).length : Int)))) rfl rfl c1 rfl ?_; clear S a; intro a S
      refine s_gF S (b := (decide (131072 < ((x1.2.2.2.2.2.1).length : Int)))) rfl rfl c1 rfl ?_; clear S a; intro a S
      refine s_gF S (b := (decide (131072 < ((x1.2.2.2.2.2.1).length : Int)))) rfl rfl c1 rfl ?_; clear S a; intro a S
      refine s_pick S (b := true) (hc_of rfl c1) rfl rfl ?_; clear S a; intro a S
      refine s_assign S rfl rfl ?_; clear S a; intro a S
      refine c_end ?_
      refine wp_ret ?_
      obtain rfl := Option.some.inj h1
      exact b_ret1 (d := (.v (.bool true))) S rfl rfl fun ok => S.retX (Hx := []) hb _ _ (() : Unit) .nil ok
    · refine s_gT S (b := (decide (131072 < ((x1.2.2.2.2.2.1).length : Int)))) rfl rfl c1 ?_
      refine s_fieldAddr S rfl I30_9 T28 (by decide) rfl rfl ?_; clear S a; intro a S
      refine s_gT S (b := (decide (131072 < ((x1.2.2.2.2.2.1).length : Int)))) rfl rfl c1 ?_
      refine s_loadSl S rfl .here T28 (A := ch_0_2) (len := (x1.2.2.2.2.2.2.2.2.2).length) (cap := ch_0_3) rfl rfl ?_; clear S a; intro a S
      refine s_gT S (b := (decide (131072 < ((x1.2.2.2.2.2.1).length : Int)))) rfl rfl c1 ?_
      refine s_lenS S rfl Tryd.underlying28 rfl ?_; clear S a; intro a S
      refine s_gT S (b := (decide (131072 < ((x1.2.2.2.2.2.1).length : Int)))) rfl rfl c1 ?_
      refine s_bin S rfl rfl rfl rfl ?_; clear S a; intro a S
      refine s_pick S (b := false) (hc_of rfl c1) rfl rfl ?_; clear S a; intro a S
      refine s_assign S rfl rfl ?_; clear S a; intro a S
      refine c_end ?_
      refine wp_ret ?_
      obtain rfl := Option.some.inj h1
      exact b_ret1 (d := (.v (.bool (decide (64 < ((x1.2.2.2.2.2.2.2.2.2).length : Int)))))) S rfl rfl fun ok => S.retX (Hx := []) hb _ _ (() : Unit) .nil ok
  refine c_region ?_
  refine s_fieldAddr S rfl I30_9 T28 (by decide) rfl rfl ?_; clear S a; intro a S
  refine s_loadSl S rfl .here T28 (A := ch_0_2) (len := (x1.2.2.2.2.2.2.2.2.2).length) (cap := ch_0_3) rfl rfl ?_; clear S a; intro a S
  refine s_lenS S rfl Tryd.underlying28 rfl ?_; clear S a; intro a S
  refine s_move S rfl rfl ?_; clear S a; intro a S
  refine c_end ?_
  refine wp_block ?_
  refine c_loop (fun q1 a w => ∃ (m : Mem) (y1 : Int) (g12 : Nat), St 27 m b0 [(8, (.v (.int .i64 y1))), (7, (.v (.int .i64 ((x1.2.2.2.2.2.2.2.2.2).length : Int)))), (6, (.sl ch_0_2 (x1.2.2.2.2.2.2.2.2.2).length ch_0_3 (RdS (Ty.prod (Ty.arr .u8 20) (Ty.slice (Ty.arr .u64 4))) ch_0_2 x1.2.2.2.2.2.2.2.2.2))), (1, (.v (.pointer (some ⟨g12, 0, none⟩))))] [Res.cells g12 30 [.ints .u8 x1.1 20, .ints .u8 x1.2.1 20, .one (.bool x1.2.2.1), .one (.int .u64 x1.2.2.2.1), .ints .u64 x1.2.2.2.2.1 4, .sl ch_0_0 (x1.2.2.2.2.2.1).length ch_0_1 (RdS (Ty.int .u8) ch_0_0 x1.2.2.2.2.2.1), .one (.int .u64 x1.2.2.2.2.2.2.1), .ints .u64 x1.2.2.2.2.2.2.2.1 4, .ints .u64 x1.2.2.2.2.2.2.2.2.1 4, .sl ch_0_2 (x1.2.2.2.2.2.2.2.2.2).length ch_0_3 (RdS (Ty.prod (Ty.arr .u8 20) (Ty.slice (Ty.arr .u64 4))) ch_0_2 x1.2.2.2.2.2.2.2.2.2)]] a w ∧ tx_long.l1 x1 q1 y1 = some r) ?_ ?_ (k := k) ⟨_, 0, g1, (S.sub ⟨rfl, rfl, rfl, rfl, trivial⟩ (.cons .here .nil)), h0⟩
  · rintro a w ⟨m, y1, g12, S, h0⟩
    exact (nomatch (show (none : Option Bool) = some r from h0))
  · clear S h0
    rintro q1 a w ⟨m, y1, g12, S, h0⟩
    replace h0 : tx_long.b1 x1 (tx_long.l1 x1 q1) y1 = some r := h0
    delta tx_long.b1 at h0
    refine c_region ?_
    refine s_bin S rfl rfl rfl rfl ?_; clear S a; intro a S
    refine c_end ?_
    refine wp_seq ?_
    rcases ite_of h0 with ⟨c2, h1⟩ | ⟨c2, h1⟩ <;> clear h0
    · refine c_condT S rfl c2 ?_
      refine wp_skip ?_
      refine x_thenN ?_
      refine wp_seq ?_
      refine wp_block ?_
      refine c_region ?_
      obtain ⟨c3, h2⟩ := chk_of h1; clear h1
      refine s_iaddrS S rfl rfl rfl Tryd.underlying28 T35 c3.1 c3.2 rfl ?_; clear S a; intro p1 a S
      refine s_ldA S (fun (c : Unit × (Option Addr × Nat)) => [.ints .u8 ((gt x1.2.2.2.2.2.2.2.2.2 y1).1) 20, .sl c.2.1 ((gt x1.2.2.2.2.2.2.2.2.2 y1).2).length c.2.2 (RdS (Ty.arr .u64 4) c.2.1 ((gt x1.2.2.2.2.2.2.2.2.2 y1).2))]) rfl T35 (fun _ => rfl) rfl ?_; clear S a; intro ch1 a S
      refine s_alloc S Z35 rfl ⟨rfl, rfl, trivial⟩ rfl ?_; clear S a w; intro g13 a w S
      refine s_store S rfl rfl rfl (s' := [.ints .u8 ((gt x1.2.2.2.2.2.2.2.2.2 y1).1) 20, .sl ch1.2.1 ((gt x1.2.2.2.2.2.2.2.2.2 y1).2).length ch1.2.2 (RdS (Ty.arr .u64 4) ch1.2.1 ((gt x1.2.2.2.2.2.2.2.2.2 y1).2))]) .here T35 rfl rfl ?_; clear S w; intro w S
      refine c_end ?_
      refine c_region ?_
      refine s_fieldAddr S rfl I35_1 T33 (by decide) rfl rfl ?_; clear S a; intro a S
      refine s_loadSl S rfl .here T33 (A := ch1.2.1) (len := ((gt x1.2.2.2.2.2.2.2.2.2 y1).2).length) (cap := ch1.2.2) rfl rfl ?_; clear S a; intro a S
      refine s_lenS S rfl Tryd.underlying33 rfl ?_; clear S a; intro a S
      refine s_bin S rfl rfl rfl rfl ?_; clear S a; intro a S
      refine c_end ?_
      rcases ite_of h2 with ⟨c4, h3⟩ | ⟨c4, h3⟩ <;> clear h2
      · refine c_condT S rfl c4 ?_
        refine c_region ?_
        refine s_assign S rfl rfl ?_; clear S a; intro a S
        refine c_end ?_
        refine wp_ret ?_
        refine x_blockR ?_
        refine x_thenR ?_
        refine x_thenR ?_
        refine x_blockR ?_
        refine x_thenR ?_
        obtain rfl := Option.some.inj h3
        exact b_ret1 (d := (.v (.bool true))) S rfl rfl fun ok => S.retX (Hx := []) hb _ _ (() : Unit) .nil ok
      · refine c_condF S rfl c4 ?_
        refine wp_skip ?_
        refine x_blockN ?_
        refine x_thenN ?_
        refine c_region' ?_
        refine s_bin S rfl rfl rfl rfl ?_; clear S a; intro a S
        refine s_move S rfl rfl ?_; clear S a; intro a S
        refine c_end' ?_
        refine x_thenN ?_
        exact ⟨_, (wr .i64 (y1 + 1)), g12, (S.sub ⟨rfl, rfl, rfl, rfl, trivial⟩ (.cons (.there .here) .nil)), h3⟩
    · refine c_condF S rfl c2 ?_
      refine wp_exit ?_
      refine x_thenX ?_
      refine x_thenX ?_
      refine x_blockX ?_
      refine x_thenN ?_
      exact j1 _ g12 a w (S.sub ⟨rfl, trivial⟩ (.cons .here .nil)) h1
/-! smithy/tx.item -/
abbrev tx_item.Ty : Type := (List Int) → Option ((Bool × (List Int) × Int))
def tx_item.Ctr (s : tx_item.Ty) : Prop := ∀ (x1 : List Int) (ch_0_0 : Option Addr) (ch_0_1 : Nat) (r : (Bool × (List Int) × Int)) (h0 : s x1 = some r) (mi : Mem) (w0 : World), okL mi [(.sl ch_0_0 (x1).length ch_0_1 (RdS (Ty.int .u8) ch_0_0 x1))] → Pre mi [] w0 → Calls Tryd.prog 12 (([(.sl ch_0_0 (x1).length ch_0_1 (RdS (Ty.int .u8) ch_0_0 x1))] : List D).map D.val).toArray w0 (RetX mi [] (fun (ch : (Option Addr) × Nat) => ((.agg [.one (.bool r.1), .sl ch.1 (r.2.1).length ch.2 (RdS (Ty.int .u8) ch.1 r.2.1), .one (.int .i64 r.2.2)]) : D)) (fun (ch : (Option Addr) × Nat) => []) w0)
def tx_item.f (x1 : List Int) : Option ((Bool × (List Int) × Int)) := some (false, x1, 0)
theorem tx_item.ok : tx_item.Ctr (tx_item.f) := by
  intro x1 ch_0_0 ch_0_1 r h0 mi w0 ok hm
  delta tx_item.f at h0
  refine c_enterX (n := 5) [(.sl ch_0_0 (x1).length ch_0_1 (RdS (Ty.int .u8) ch_0_0 x1))] (l := [(0, (.sl ch_0_0 (x1).length ch_0_1 (RdS (Ty.int .u8) ch_0_0 x1)))]) Tryd.func12 rfl rfl rfl rfl ok hm ?_
  clear ok hm
  intro b0 hb a S
  refine c_region ?_
  refine s_alloc S Z46 rfl ⟨rfl, rfl, rfl, trivial⟩ rfl ?_; clear S a; intro g1 a w S
  refine c_end ?_
  refine c_region ?_
  refine s_move S rfl rfl ?_; clear S a; intro a S
  refine s_bldS S (ds := [(1, (.sl ch_0_0 (x1).length ch_0_1 (RdS (Ty.int .u8) ch_0_0 x1)))]) (zs := [.one (.bool false), .one (.slice none 0 0), .one (.int .i64 0)]) (s' := [.one (.bool false), .sl ch_0_0 (x1).length ch_0_1 (RdS (Ty.int .u8) ch_0_0 x1), .one (.int .i64 0)]) rfl Tryd.underlying46 P46 Z46 ⟨rfl, rfl, rfl, trivial⟩ rfl rfl ?_; clear S a; intro a S
  refine s_store S rfl rfl rfl (s' := [.one (.bool false), .sl ch_0_0 (x1).length ch_0_1 (RdS (Ty.int .u8) ch_0_0 x1), .one (.int .i64 0)]) .here T46 rfl rfl ?_; clear S w; intro w S
  refine c_end ?_
  refine wp_ret ?_
  obtain rfl := Option.some.inj h0
  exact b_ret1 (d := (.agg [.one (.bool false), .sl ch_0_0 (x1).length ch_0_1 (RdS (Ty.int .u8) ch_0_0 x1), .one (.int .i64 0)])) S rfl (resD_cell rfl .here T46 rfl rfl) fun ok => S.retX (Hx := []) hb _ _ ((ch_0_0, ch_0_1) : (Option Addr) × Nat) .nil ok
/-! smithy/word.Bytes -/
abbrev word_Bytes.Ty : Type := (List Int) → Option ((List Int))
def word_Bytes.Ctr (s : word_Bytes.Ty) : Prop := ∀ (x1 : List Int) (r : (List Int)) (h0 : s x1 = some r) (mi : Mem) (w0 : World), okL mi [(.agg [.ints .u64 x1 4])] → Pre mi [] w0 → Calls Tryd.prog 30 (([(.agg [.ints .u64 x1 4])] : List D).map D.val).toArray w0 (RetX mi [] (fun (ch : Unit) => ((.agg [.ints .u8 r 32]) : D)) (fun (ch : Unit) => []) w0)
def word_Bytes.j1 (y1 : List Int) : Option ((List Int)) := some y1
def word_Bytes.j2 (y14 : Int) (rec1 : Int → (List Int) → Option ((List Int))) (y20 : List Int) : Option ((List Int)) := rec1 (wr .i64 (y14 + 1)) y20
def word_Bytes.b2 (x1 : List Int) (y14 : Int) (rec1 : Int → (List Int) → Option ((List Int))) (rec2 : Int → (List Int) → Option ((List Int))) (y23 : Int) (y24 : List Int) : Option ((List Int)) := if (decide (y23 < 8)) = true then (if (0 : Int) ≤ (wr .i64 (8 * y23)) then (if (0 : Int) ≤ (wr .i64 ((wr .i64 (31 - (wr .i64 (8 * y14)))) - y23)) ∧ (wr .i64 ((wr .i64 (31 - (wr .i64 (8 * y14)))) - y23)) < 32 then (rec2 (wr .i64 (y23 + 1)) (y24.set (Int.toNat (wr .i64 ((wr .i64 (31 - (wr .i64 (8 * y14)))) - y23))) (wr .u8 (shr (rd x1 y14) (min (Int.toNat (wr .i64 (8 * y23))) 64))))) else none) else none) else (word_Bytes.j2 y14 rec1 y24)
def word_Bytes.l2 (x1 : List Int) (y14 : Int) (rec1 : Int → (List Int) → Option ((List Int))) : Nat → Int → (List Int) → Option ((List Int))
  | 0, _, _ => none
  | q + 1, y23, y24 => word_Bytes.b2 x1 y14 rec1 (word_Bytes.l2 x1 y14 rec1 q) y23 y24
def word_Bytes.b1 (k : Nat) (x1 : List Int) (rec1 : Int → (List Int) → Option ((List Int))) (y14 : Int) (y15 : List Int) : Option ((List Int)) := if (decide (y14 < 4)) = true then (if (0 : Int) ≤ y14 ∧ y14 < 4 then (word_Bytes.l2 x1 y14 rec1 k 0 y15) else none) else (word_Bytes.j1 y15)
def word_Bytes.l1 (k : Nat) (x1 : List Int) : Nat → Int → (List Int) → Option ((List Int))
  | 0, _, _ => none
  | q + 1, y14, y15 => word_Bytes.b1 k x1 (word_Bytes.l1 k x1 q) y14 y15
def word_Bytes.f (k : Nat) (x1 : List Int) : Option ((List Int)) := word_Bytes.l1 k x1 k 0 [0, 0, 0, 0, 0, 0, 0, 0, 0, 0, 0, 0, 0, 0, 0, 0, 0, 0, 0, 0, 0, 0, 0, 0, 0, 0, 0, 0, 0, 0, 0, 0]
theorem word_Bytes.ok (k : Nat) : word_Bytes.Ctr (word_Bytes.f k) := by
  intro x1 r h0 mi w0 ok hm
  delta word_Bytes.f at h0
  refine c_enterX (n := 29) [(.agg [.ints .u64 x1 4])] (l := [(0, (.agg [.ints .u64 x1 4]))]) Tryd.func30 rfl rfl rfl rfl ok hm ?_
  clear ok hm
  intro b0 hb a S
  refine c_region ?_
  refine s_box S rfl rfl rfl ?_; clear S a; intro g1 a w S
  refine s_alloc S Z36 rfl ⟨rfl, trivial⟩ rfl ?_; clear S a w; intro g2 a w S
  refine c_end ?_
  refine c_region ?_
  refine s_alloc S Z36 rfl ⟨rfl, trivial⟩ rfl ?_; clear S a w; intro g3 a w S
  refine c_end ?_
  refine wp_seq_k ?_
  intro K1 hK1
  have j1 : ∀ (m : Mem) (g26 : Nat) (g27 : Nat) (y1 : List Int) (a : Act) (w : World), St 29 m b0 [(3, (.v (.pointer (some ⟨g26, 0, none⟩)))), (2, (.v (.pointer (some ⟨g27, 0, none⟩))))] [Res.cells g26 36 [.ints .u8 y1 32], Res.cells g27 36 [.ints .u8 [0, 0, 0, 0, 0, 0, 0, 0, 0, 0, 0, 0, 0, 0, 0, 0, 0, 0, 0, 0, 0, 0, 0, 0, 0, 0, 0, 0, 0, 0, 0, 0] 32]] a w → word_Bytes.j1 y1 = some r → K1 a w := by
    intro m g26 g27 y1 a w S h0
    delta word_Bytes.j1 at h0
    refine hK1 a w ?_
    refine c_region ?_
    refine s_loada S rfl .here T36 (s' := [.ints .u8 y1 32]) rfl rfl ?_; clear S a; intro a S
    refine s_store S rfl rfl rfl (s' := [.ints .u8 y1 32]) (.there .here) T36 rfl rfl ?_; clear S w; intro w S
    refine c_end ?_
    refine wp_ret ?_
    obtain rfl := Option.some.inj h0
    exact b_ret1 (d := (.agg [.ints .u8 y1 32])) S rfl (resD_cell rfl (.there .here) T36 rfl rfl) fun ok => S.retX (Hx := []) hb _ _ (() : Unit) .nil ok
  refine c_region ?_
  refine s_loada S rfl (.there (.there .here)) T26 (s' := [.ints .u64 x1 4]) rfl rfl ?_; clear S a; intro a S
  refine s_move S rfl rfl ?_; clear S a; intro a S
  refine c_end ?_
  refine wp_block ?_
  refine c_loop (fun q1 a w => ∃ (m : Mem) (y14 : Int) (g48 : Nat) (g49 : Nat) (y15 : List Int), St 29 m b0 [(8, (.v (.int .i64 y14))), (7, (.agg [.ints .u64 x1 4])), (3, (.v (.pointer (some ⟨g48, 0, none⟩)))), (2, (.v (.pointer (some ⟨g49, 0, none⟩))))] [Res.cells g48 36 [.ints .u8 y15 32], Res.cells g49 36 [.ints .u8 [0, 0, 0, 0, 0, 0, 0, 0, 0, 0, 0, 0, 0, 0, 0, 0, 0, 0, 0, 0, 0, 0, 0, 0, 0, 0, 0, 0, 0, 0, 0, 0] 32]] a w ∧ word_Bytes.l1 k x1 q1 y14 y15 = some r) ?_ ?_ (k := k) ⟨_, 0, g3, g2, [0, 0, 0, 0, 0, 0, 0, 0, 0, 0, 0, 0, 0, 0, 0, 0, 0, 0, 0, 0, 0, 0, 0, 0, 0, 0, 0, 0, 0, 0, 0, 0], (S.sub ⟨rfl, rfl, rfl, rfl, trivial⟩ (.cons .here (.cons .here .nil))), h0⟩
  · rintro a w ⟨m, y14, g48, g49, y15, S, h0⟩
    exact (nomatch (show (none : Option ((List Int))) = some r from h0))
  · clear S h0
    rintro q1 a w ⟨m, y14, g48, g49, y15, S, h0⟩
    replace h0 : word_Bytes.b1 k x1 (word_Bytes.l1 k x1 q1) y14 y15 = some r := h0
    delta word_Bytes.b1 at h0
    refine c_region ?_
    refine s_bin S rfl rfl rfl rfl ?_; clear S a; intro a S
    refine c_end ?_
    refine wp_seq ?_
    rcases ite_of h0 with ⟨c1, h1⟩ | ⟨c1, h1⟩ <;> clear h0
    · refine c_condT S rfl c1 ?_
      refine wp_skip ?_
      refine x_thenN ?_
      refine wp_seq_k ?_
      intro K2 hK2
      have j2 : ∀ (m : Mem) (g56 : Nat) (g57 : Nat) (y20 : List Int) (a : Act) (w : World), St 29 m b0 [(8, (.v (.int .i64 y14))), (7, (.agg [.ints .u64 x1 4])), (3, (.v (.pointer (some ⟨g56, 0, none⟩)))), (2, (.v (.pointer (some ⟨g57, 0, none⟩))))] [Res.cells g56 36 [.ints .u8 y20 32], Res.cells g57 36 [.ints .u8 [0, 0, 0, 0, 0, 0, 0, 0, 0, 0, 0, 0, 0, 0, 0, 0, 0, 0, 0, 0, 0, 0, 0, 0, 0, 0, 0, 0, 0, 0, 0, 0] 32]] a w → word_Bytes.j2 y14 (word_Bytes.l1 k x1 q1) y20 = some r → K2 a w := by
        intro m g56 g57 y20 a w S h0
        delta word_Bytes.j2 at h0
        refine hK2 a w ?_
        refine c_region' ?_
        refine s_bin S rfl rfl rfl rfl ?_; clear S a; intro a S
        refine s_move S rfl rfl ?_; clear S a; intro a S
        refine c_end' ?_
        refine x_thenN ?_
        exact ⟨_, (wr .i64 (y14 + 1)), g56, g57, y20, (S.sub ⟨rfl, rfl, rfl, rfl, trivial⟩ (.cons .here (.cons .here .nil))), h0⟩
      refine wp_block ?_
      refine c_region ?_
      refine s_move S rfl rfl ?_; clear S a; intro a S
      obtain ⟨c2, h2⟩ := chk_of h1; clear h1
      refine s_index S rfl rfl Tryd.underlying26 T24 c2.1 c2.2 rfl ?_; clear S a; intro a S
      refine s_assign S rfl rfl ?_; clear S a; intro a S
      refine s_assign S rfl rfl ?_; clear S a; intro a S
      refine c_end ?_
      refine c_region ?_
      refine s_move S rfl rfl ?_; clear S a; intro a S
      refine c_end ?_
      refine wp_block ?_
      refine c_loop (fun q2 a w => ∃ (m : Mem) (y23 : Int) (g62 : Nat) (g63 : Nat) (y24 : List Int), St 29 m b0 [(12, (.v (.int .i64 y23))), (5, (.v (.int .u64 (rd x1 y14)))), (4, (.v (.int .i64 y14))), (8, (.v (.int .i64 y14))), (7, (.agg [.ints .u64 x1 4])), (3, (.v (.pointer (some ⟨g62, 0, none⟩)))), (2, (.v (.pointer (some ⟨g63, 0, none⟩))))] [Res.cells g62 36 [.ints .u8 y24 32], Res.cells g63 36 [.ints .u8 [0, 0, 0, 0, 0, 0, 0, 0, 0, 0, 0, 0, 0, 0, 0, 0, 0, 0, 0, 0, 0, 0, 0, 0, 0, 0, 0, 0, 0, 0, 0, 0] 32]] a w ∧ word_Bytes.l2 x1 y14 (word_Bytes.l1 k x1 q1) q2 y23 y24 = some r) ?_ ?_ (k := k) ⟨_, 0, g48, g49, y15, (S.sub ⟨rfl, rfl, rfl, rfl, rfl, rfl, rfl, trivial⟩ (.cons .here (.cons .here .nil))), h2⟩
      · rintro a w ⟨m, y23, g62, g63, y24, S, h0⟩
        exact (nomatch (show (none : Option ((List Int))) = some r from h0))
      · clear S h2
        rintro q2 a w ⟨m, y23, g62, g63, y24, S, h0⟩
        replace h0 : word_Bytes.b2 x1 y14 (word_Bytes.l1 k x1 q1) (word_Bytes.l2 x1 y14 (word_Bytes.l1 k x1 q1) q2) y23 y24 = some r := h0
        delta word_Bytes.b2 at h0
        refine c_region ?_
        refine s_bin S rfl rfl rfl rfl ?_; clear S a; intro a S
        refine c_end ?_
        refine wp_seq ?_
        rcases ite_of h0 with ⟨c3, h1⟩ | ⟨c3, h1⟩ <;> clear h0
        · refine c_condT S rfl c3 ?_
          refine wp_skip ?_
          refine x_thenN ?_
          refine wp_seq ?_
          refine wp_block ?_
          refine c_region ?_
          refine s_move S rfl rfl ?_; clear S a; intro a S
          refine s_assign S rfl rfl ?_; clear S a; intro a S
          refine c_end ?_
          refine c_region' ?_
          refine s_move S rfl rfl ?_; clear S a; intro a S
          refine s_bin S rfl rfl rfl rfl ?_; clear S a; intro a S
          refine s_bin S rfl rfl rfl rfl ?_; clear S a; intro a S
          refine s_move S rfl rfl ?_; clear S a; intro a S
          refine s_bin S rfl rfl rfl rfl ?_; clear S a; intro a S
          refine s_move S rfl rfl ?_; clear S a; intro a S
          refine s_move S rfl rfl ?_; clear S a; intro a S
          refine s_bin S rfl rfl rfl rfl ?_; clear S a; intro a S
          obtain ⟨c4, h2⟩ := chk_of h1; clear h1
          refine s_shr S (e := (min (Int.toNat (wr .i64 (8 * y23))) 64)) rfl rfl c4 rfl rfl ?_; clear S a; intro a S
          refine s_conv S rfl rfl Tryd.underlying5 rfl ?_; clear S a; intro a S
          obtain ⟨c5, h3⟩ := chk_of h2; clear h2
          refine s_iaddr S rfl rfl Tryd.underlying36 T5 c5.1 c5.2 (mul1 _ _) rfl ?_; clear S a; intro a S
          refine s_storei S (i := (wr .i64 ((wr .i64 (31 - (wr .i64 (8 * y14)))) - y23))) rfl rfl .here T5 .here rfl c5.1 c5.2 ?_; clear S w; intro w S
          refine c_end' ?_
          refine x_blockN ?_
          refine x_thenN ?_
          refine c_region' ?_
          refine s_bin S rfl rfl rfl rfl ?_; clear S a; intro a S
          refine s_move S rfl rfl ?_; clear S a; intro a S
          refine c_end' ?_
          refine x_thenN ?_
          exact ⟨_, (wr .i64 (y23 + 1)), g62, g63, (y24.set (Int.toNat (wr .i64 ((wr .i64 (31 - (wr .i64 (8 * y14)))) - y23))) (wr .u8 (shr (rd x1 y14) (min (Int.toNat (wr .i64 (8 * y23))) 64)))), (S.sub ⟨rfl, rfl, rfl, rfl, rfl, rfl, rfl, trivial⟩ (.cons .here (.cons .here .nil))), h3⟩
        · refine c_condF S rfl c3 ?_
          refine wp_exit ?_
          refine x_thenX ?_
          refine x_thenX ?_
          refine x_blockX ?_
          refine x_blockN ?_
          refine x_thenN ?_
          exact j2 _ g62 g63 y24 a w (S.sub ⟨rfl, rfl, rfl, rfl, trivial⟩ (.cons .here (.cons .here .nil))) h1
    · refine c_condF S rfl c1 ?_
      refine wp_exit ?_
      refine x_thenX ?_
      refine x_thenX ?_
      refine x_blockX ?_
      refine x_thenN ?_
      exact j1 _ g48 g49 y15 a w (S.sub ⟨rfl, rfl, trivial⟩ (.cons .here (.cons .here .nil))) h1
/-! math/bits.Len64 -/
abbrev bits_Len64.Ty : Type := Int → Option Int
def bits_Len64.Ctr (s : bits_Len64.Ty) : Prop := ∀ (x1 : Int) (r : Int) (h0 : s x1 = some r) (mi : Mem) (w0 : World), okL mi [(.v (.int .u64 x1))] → Pre mi [] w0 → Calls Tryd.prog 54 (([(.v (.int .u64 x1))] : List D).map D.val).toArray w0 (RetX mi [] (fun (ch : Unit) => ((.v (.int .i64 r)) : D)) (fun (ch : Unit) => []) w0)
def bits_Len64.j3 (y5 : Int) (y6 : Int) : Option Int := if (0 : Int) ≤ (wr .u8 y6) ∧ (wr .u8 y6) < (txt0.size : Int) then (some (wr .i64 (y5 + (wr .i64 (bt txt0 (wr .u8 y6)))))) else none
def bits_Len64.j2 (y3 : Int) (y4 : Int) : Option Int := if (decide (256 ≤ y4)) = true then (bits_Len64.j3 (wr .i64 (y3 + 8)) (shr y4 8)) else (bits_Len64.j3 y3 y4)
def bits_Len64.j1 (y1 : Int) (y2 : Int) : Option Int := if (decide (65536 ≤ y2)) = true then (bits_Len64.j2 (wr .i64 (y1 + 16)) (shr y2 16)) else (bits_Len64.j2 y1 y2)
def bits_Len64.f (x1 : Int) : Option Int := if (decide (4294967296 ≤ x1)) = true then (bits_Len64.j1 32 (shr x1 32)) else (bits_Len64.j1 0 x1)
theorem bits_Len64.ok : bits_Len64.Ctr (bits_Len64.f) := by
  intro x1 r h0 mi w0 ok hm
  delta bits_Len64.f at h0
  refine c_enterX (n := 25) [(.v (.int .u64 x1))] (l := [(0, (.v (.int .u64 x1)))]) Tryd.func54 rfl rfl rfl rfl ok hm ?_
  clear ok hm
  intro b0 hb a S
  refine c_region ?_
  refine s_assign S rfl rfl ?_; clear S a; intro a S
  refine c_end ?_
  refine wp_seq_k ?_
  intro K1 hK1
  have j1 : ∀ (m : Mem) (y1 : Int) (y2 : Int) (a : Act) (w : World), St 25 m b0 [(2, (.v (.int .i64 y1))), (0, (.v (.int .u64 y2)))] [] a w → bits_Len64.j1 y1 y2 = some r → K1 a w := by
    intro m y1 y2 a w S h0
    delta bits_Len64.j1 at h0
    refine hK1 a w ?_
    refine wp_seq_k ?_
    intro K2 hK2
    have j2 : ∀ (m : Mem) (y3 : Int) (y4 : Int) (a : Act) (w : World), St 25 m b0 [(2, (.v (.int .i64 y3))), (0, (.v (.int .u64 y4)))] [] a w → bits_Len64.j2 y3 y4 = some r → K2 a w := by
      intro m y3 y4 a w S h0
      delta bits_Len64.j2 at h0
      refine hK2 a w ?_
      refine wp_seq_k ?_
      intro K3 hK3
      have j3 : ∀ (m : Mem) (y5 : Int) (y6 : Int) (a : Act) (w : World), St 25 m b0 [(2, (.v (.int .i64 y5))), (0, (.v (.int .u64 y6)))] [] a w → bits_Len64.j3 y5 y6 = some r → K3 a w := by
        intro m y5 y6 a w S h0
        delta bits_Len64.j3 at h0
        refine hK3 a w ?_
        refine c_region ?_
        refine s_move S rfl rfl ?_; clear S a; intro a S
        refine s_move S rfl rfl ?_; clear S a; intro a S
        refine s_conv S rfl rfl Tryd.underlying5 rfl ?_; clear S a; intro a S
        obtain ⟨c1, h1⟩ := chk_of h0; clear h0
        refine s_indexT S rfl rfl Tryd.underlying9 c1.1 c1.2 rfl ?_; clear S a; intro a S
        refine s_conv S rfl rfl Tryd.underlying3 rfl ?_; clear S a; intro a S
        refine s_bin S rfl rfl rfl rfl ?_; clear S a; intro a S
        refine s_assign S rfl rfl ?_; clear S a; intro a S
        refine c_end ?_
        refine wp_ret ?_
        obtain rfl := Option.some.inj h1
        exact b_ret1 (d := (.v (.int .i64 (wr .i64 (y5 + (wr .i64 (bt txt0 (wr .u8 y6)))))))) S rfl rfl fun ok => S.retX (Hx := []) hb _ _ (() : Unit) .nil ok
      refine c_region ?_
      refine s_move S rfl rfl ?_; clear S a; intro a S
      refine s_bin S rfl rfl rfl rfl ?_; clear S a; intro a S
      refine c_end ?_
      rcases ite_of h0 with ⟨c2, h1⟩ | ⟨c2, h1⟩ <;> clear h0
      · refine c_condT S rfl c2 ?_
        refine c_region ?_
        refine s_move S rfl rfl ?_; clear S a; intro a S
        refine s_shr S (e := 8) rfl rfl (by decide) rfl rfl ?_; clear S a; intro a S
        refine s_assign S rfl rfl ?_; clear S a; intro a S
        refine c_end ?_
        refine c_region' ?_
        refine s_move S rfl rfl ?_; clear S a; intro a S
        refine s_bin S rfl rfl rfl rfl ?_; clear S a; intro a S
        refine s_assign S rfl rfl ?_; clear S a; intro a S
        refine c_end' ?_
        refine x_thenN ?_
        exact j3 _ (wr .i64 (y3 + 8)) (shr y4 8) a w (S.sub ⟨rfl, rfl, trivial⟩ .nil) h1
      · refine c_condF S rfl c2 ?_
        refine wp_skip ?_
        refine x_thenN ?_
        exact j3 _ y3 y4 a w (S.sub ⟨rfl, rfl, trivial⟩ .nil) h1
    refine c_region ?_
    refine s_move S rfl rfl ?_; clear S a; intro a S
    refine s_bin S rfl rfl rfl rfl ?_; clear S a; intro a S
    refine c_end ?_
    rcases ite_of h0 with ⟨c3, h1⟩ | ⟨c3, h1⟩ <;> clear h0
    · refine c_condT S rfl c3 ?_
      refine c_region ?_
      refine s_move S rfl rfl ?_; clear S a; intro a S
      refine s_shr S (e := 16) rfl rfl (by decide) rfl rfl ?_; clear S a; intro a S
      refine s_assign S rfl rfl ?_; clear S a; intro a S
      refine c_end ?_
      refine c_region' ?_
      refine s_move S rfl rfl ?_; clear S a; intro a S
      refine s_bin S rfl rfl rfl rfl ?_; clear S a; intro a S
      refine s_assign S rfl rfl ?_; clear S a; intro a S
      refine c_end' ?_
      refine x_thenN ?_
      exact j2 _ (wr .i64 (y1 + 16)) (shr y2 16) a w (S.sub ⟨rfl, rfl, trivial⟩ .nil) h1
    · refine c_condF S rfl c3 ?_
      refine wp_skip ?_
      refine x_thenN ?_
      exact j2 _ y1 y2 a w (S.sub ⟨rfl, rfl, trivial⟩ .nil) h1
  refine c_region ?_
  refine s_move S rfl rfl ?_; clear S a; intro a S
  refine s_bin S rfl rfl rfl rfl ?_; clear S a; intro a S
  refine c_end ?_
  rcases ite_of h0 with ⟨c4, h1⟩ | ⟨c4, h1⟩ <;> clear h0
  · refine c_condT S rfl c4 ?_
    refine c_region ?_
    refine s_move S rfl rfl ?_; clear S a; intro a S
    refine s_shr S (e := 32) rfl rfl (by decide) rfl rfl ?_; clear S a; intro a S
    refine s_assign S rfl rfl ?_; clear S a; intro a S
    refine c_end ?_
    refine c_region' ?_
    refine s_assign S rfl rfl ?_; clear S a; intro a S
    refine c_end' ?_
    refine x_thenN ?_
    exact j1 _ 32 (shr x1 32) a w0 (S.sub ⟨rfl, rfl, trivial⟩ .nil) h1
  · refine c_condF S rfl c4 ?_
    refine wp_skip ?_
    refine x_thenN ?_
    exact j1 _ 0 x1 a w0 (S.sub ⟨rfl, rfl, trivial⟩ .nil) h1
/-! smithy/word.Len -/
abbrev word_Len.Ty : Type := (List Int) → Option Int
def word_Len.Ctr (s : word_Len.Ty) : Prop := ∀ (x1 : List Int) (r : Int) (h0 : s x1 = some r) (mi : Mem) (w0 : World), okL mi [(.agg [.ints .u64 x1 4])] → Pre mi [] w0 → Calls Tryd.prog 51 (([(.agg [.ints .u64 x1 4])] : List D).map D.val).toArray w0 (RetX mi [] (fun (ch : Unit) => ((.v (.int .i64 r)) : D)) (fun (ch : Unit) => []) w0)
def word_Len.j1 : Option Int := some 0
def word_Len.b1 (x1 : List Int) (rec1 : Int → Option Int) (y1 : Int) : Option Int := if (decide (0 ≤ y1)) = true then (if (0 : Int) ≤ y1 ∧ y1 < 4 then (if ((rd x1 y1) != 0) = true then ((bits_Len64.f (rd x1 y1)).bind fun t1 => (some (wr .i64 ((wr .i64 (64 * y1)) + t1)))) else (rec1 (wr .i64 (y1 - 1)))) else none) else word_Len.j1
def word_Len.l1 (x1 : List Int) : Nat → Int → Option Int
  | 0, _ => none
  | q + 1, y1 => word_Len.b1 x1 (word_Len.l1 x1 q) y1
def word_Len.f (k : Nat) (x1 : List Int) : Option Int := word_Len.l1 x1 k 3
theorem word_Len.ok (k : Nat) : word_Len.Ctr (word_Len.f k) := by
  intro x1 r h0 mi w0 ok hm
  delta word_Len.f at h0
  refine c_enterX (n := 19) [(.agg [.ints .u64 x1 4])] (l := [(0, (.agg [.ints .u64 x1 4]))]) Tryd.func51 rfl rfl rfl rfl ok hm ?_
  clear ok hm
  intro b0 hb a S
  refine c_region ?_
  refine s_box S rfl rfl rfl ?_; clear S a; intro g1 a w S
  refine s_assign S rfl rfl ?_; clear S a; intro a S
  refine c_end ?_
  refine wp_seq_k ?_
  intro K1 hK1
  have j1 : ∀ (m : Mem) (a : Act) (w : World), St 19 m b0 [] [] a w → word_Len.j1 = some r → K1 a w := by
    intro m a w S h0
    delta word_Len.j1 at h0
    refine hK1 a w ?_
    refine c_region ?_
    refine s_assign S rfl rfl ?_; clear S a; intro a S
    refine c_end ?_
    refine wp_ret ?_
    obtain rfl := Option.some.inj h0
    exact b_ret1 (d := (.v (.int .i64 0))) S rfl rfl fun ok => S.retX (Hx := []) hb _ _ (() : Unit) .nil ok
  refine c_region ?_
  refine s_assign S rfl rfl ?_; clear S a; intro a S
  refine c_end ?_
  refine wp_block ?_
  refine c_loop (fun q1 a w => ∃ (m : Mem) (y1 : Int) (g7 : Nat), St 19 m b0 [(3, (.v (.int .i64 y1))), (1, (.v (.pointer (some ⟨g7, 0, none⟩))))] [Res.cells g7 26 [.ints .u64 x1 4]] a w ∧ word_Len.l1 x1 q1 y1 = some r) ?_ ?_ (k := k) ⟨_, 3, g1, (S.sub ⟨rfl, rfl, trivial⟩ (.cons .here .nil)), h0⟩
  · rintro a w ⟨m, y1, g7, S, h0⟩
    exact (nomatch (show (none : Option Int) = some r from h0))
  · clear S h0
    rintro q1 a w ⟨m, y1, g7, S, h0⟩
    replace h0 : word_Len.b1 x1 (word_Len.l1 x1 q1) y1 = some r := h0
    delta word_Len.b1 at h0
    refine wp_seq ?_
    refine c_region ?_
    refine s_move S rfl rfl ?_; clear S a; intro a S
    refine s_bin S rfl rfl rfl rfl ?_; clear S a; intro a S
    refine c_end ?_
    rcases ite_of h0 with ⟨c1, h1⟩ | ⟨c1, h1⟩ <;> clear h0
    · refine c_condT S rfl c1 ?_
      refine wp_skip ?_
      refine x_thenN ?_
      refine wp_seq ?_
      refine wp_block ?_
      refine c_region ?_
      refine s_move S rfl rfl ?_; clear S a; intro a S
      obtain ⟨c2, h2⟩ := chk_of h1; clear h1
      refine s_iaddr S rfl rfl Tryd.underlying26 T24 c2.1 c2.2 (mul1 _ _) rfl ?_; clear S a; intro a S
      refine s_loadi S (i := y1) rfl .here T24 .here rfl c2.1 c2.2 rfl ?_; clear S a; intro a S
      refine s_bin S rfl rfl rfl rfl ?_; clear S a; intro a S
      refine c_end ?_
      rcases ite_of h2 with ⟨c3, h3⟩ | ⟨c3, h3⟩ <;> clear h2
      · refine c_condT S rfl c3 ?_
        refine c_region ?_
        refine s_move S rfl rfl ?_; clear S a; intro a S
        refine s_bin S rfl rfl rfl rfl ?_; clear S a; intro a S
        refine s_move S rfl rfl ?_; clear S a; intro a S
        refine s_iaddr S rfl rfl Tryd.underlying26 T24 c2.1 c2.2 (mul1 _ _) rfl ?_; clear S a; intro a S
        refine s_loadi S (i := y1) rfl .here T24 .here rfl c2.1 c2.2 rfl ?_; clear S a; intro a S
        obtain ⟨t1, et1, h4⟩ := bind_of h3; clear h3
        refine s_callP S (fun (ch : Unit) => ((.v (.int .i64 t1)) : D)) N54 rfl rfl (bits_Len64.ok (rd x1 y1) t1 et1 _ _) ?_; clear S a w; intro ch1 m le1 a w S
        refine s_bin S rfl rfl rfl rfl ?_; clear S a; intro a S
        refine s_assign S rfl rfl ?_; clear S a; intro a S
        refine c_end ?_
        refine wp_ret ?_
        refine x_blockR ?_
        refine x_thenR ?_
        refine x_thenR ?_
        refine x_blockR ?_
        refine x_thenR ?_
        obtain rfl := Option.some.inj h4
        exact b_ret1 (d := (.v (.int .i64 (wr .i64 ((wr .i64 (64 * y1)) + t1))))) S rfl rfl fun ok => S.retX (Hx := []) hb _ _ (() : Unit) .nil ok
      · refine c_condF S rfl c3 ?_
        refine wp_skip ?_
        refine x_blockN ?_
        refine x_thenN ?_
        refine c_region' ?_
        refine s_move S rfl rfl ?_; clear S a; intro a S
        refine s_bin S rfl rfl rfl rfl ?_; clear S a; intro a S
        refine s_assign S rfl rfl ?_; clear S a; intro a S
        refine c_end' ?_
        refine x_thenN ?_
        exact ⟨_, (wr .i64 (y1 - 1)), g7, (S.sub ⟨rfl, rfl, trivial⟩ (.cons .here .nil)), h3⟩
    · refine c_condF S rfl c1 ?_
      refine wp_exit ?_
      refine x_thenX ?_
      refine x_thenX ?_
      refine x_blockX ?_
      refine x_thenN ?_
      exact j1 _ a w (S.sub trivial .nil) h1
/-! smithy/word.Size -/
abbrev word_Size.Ty : Type := (List Int) → Option Int
def word_Size.Ctr (s : word_Size.Ty) : Prop := ∀ (x1 : List Int) (r : Int) (h0 : s x1 = some r) (mi : Mem) (w0 : World), okL mi [(.agg [.ints .u64 x1 4])] → Pre mi [] w0 → Calls Tryd.prog 42 (([(.agg [.ints .u64 x1 4])] : List D).map D.val).toArray w0 (RetX mi [] (fun (ch : Unit) => ((.v (.int .i64 r)) : D)) (fun (ch : Unit) => []) w0)
def word_Size.f (k : Nat) (x1 : List Int) : Option Int := (word_Len.f k x1).bind fun t1 => (some (wr .i64 (Int.tdiv (wr .i64 (t1 + 7)) 8)))
theorem word_Size.ok (k : Nat) : word_Size.Ctr (word_Size.f k) := by
  intro x1 r h0 mi w0 ok hm
  delta word_Size.f at h0
  refine c_enterX (n := 7) [(.agg [.ints .u64 x1 4])] (l := [(0, (.agg [.ints .u64 x1 4]))]) Tryd.func42 rfl rfl rfl rfl ok hm ?_
  clear ok hm
  intro b0 hb a S
  refine c_region ?_
  refine s_box S rfl rfl rfl ?_; clear S a; intro g1 a w S
  refine s_assign S rfl rfl ?_; clear S a; intro a S
  refine c_end ?_
  refine c_region ?_
  refine s_loada S rfl .here T26 (s' := [.ints .u64 x1 4]) rfl rfl ?_; clear S a; intro a S
  obtain ⟨t1, et1, h1⟩ := bind_of h0; clear h0
  refine s_callP S (fun (ch : Unit) => ((.v (.int .i64 t1)) : D)) N51 rfl rfl (word_Len.ok k x1 t1 et1 _ _) ?_; clear S a w; intro ch1 m le1 a w S
  refine s_bin S rfl rfl rfl rfl ?_; clear S a; intro a S
  refine s_quo S rfl rfl (by decide) rfl ?_; clear S a; intro a S
  refine s_assign S rfl rfl ?_; clear S a; intro a S
  refine c_end ?_
  refine wp_ret ?_
  obtain rfl := Option.some.inj h1
  exact b_ret1 (d := (.v (.int .i64 (wr .i64 (Int.tdiv (wr .i64 (t1 + 7)) 8))))) S rfl rfl fun ok => S.retX (Hx := []) hb _ _ (() : Unit) .nil ok
/-! smithy/rlp.Number -/
abbrev rlp_Number.Ty : Type := (List Int) → Option ((List Int))
def rlp_Number.Ctr (s : rlp_Number.Ty) : Prop := ∀ (x1 : List Int) (r : (List Int)) (h0 : s x1 = some r) (mi : Mem) (w0 : World), okL mi [(.agg [.ints .u64 x1 4])] → Pre mi [] w0 → Calls Tryd.prog 29 (([(.agg [.ints .u64 x1 4])] : List D).map D.val).toArray w0 (RetX mi [] (fun (ch : (Option Addr) × Nat × Nat) => ((.v (.slice ch.1 ch.2.1 ch.2.2)) : D)) (fun (ch : (Option Addr) × Nat × Nat) => [Res.row (Ty.int .u8) 5 ch.1 ch.2.1 ch.2.2 r]) w0)
def rlp_Number.f (k : Nat) (x1 : List Int) : Option ((List Int)) := (word_Bytes.f k x1).bind fun t1 => ((word_Size.f k x1).bind fun t2 => (if (0 : Int) ≤ (wr .i64 (32 - t2)) ∧ ((wr .i64 (32 - t2)) : Int) ≤ 32 ∧ 32 ≤ ((32 : Nat) : Int) then (if ((([] : List Int)).length + (((t1).drop (Int.toNat (wr .i64 (32 - t2)))).take (Int.toNat 32 - Int.toNat (wr .i64 (32 - t2)))).length) * 1 ≤ 140737488355328 then (some (([] : List Int) ++ (((t1).drop (Int.toNat (wr .i64 (32 - t2)))).take (Int.toNat 32 - Int.toNat (wr .i64 (32 - t2)))))) else none) else none))
theorem rlp_Number.ok (k : Nat) : rlp_Number.Ctr (rlp_Number.f k) := by
  intro x1 r h0 mi w0 ok hm
  delta rlp_Number.f at h0
  refine c_enterX (n := 12) [(.agg [.ints .u64 x1 4])] (l := [(0, (.agg [.ints .u64 x1 4]))]) Tryd.func29 rfl rfl rfl rfl ok hm ?_
  clear ok hm
  intro b0 hb a S
  refine c_region ?_
  refine s_box S rfl rfl rfl ?_; clear S a; intro g1 a w S
  refine s_assign S rfl rfl ?_; clear S a; intro a S
  refine c_end ?_
  refine c_region ?_
  refine s_loada S rfl .here T26 (s' := [.ints .u64 x1 4]) rfl rfl ?_; clear S a; intro a S
  obtain ⟨t1, et1, h1⟩ := bind_of h0; clear h0
  refine s_callP S (fun (ch : Unit) => ((.agg [.ints .u8 t1 32]) : D)) N30 rfl rfl (word_Bytes.ok k x1 t1 et1 _ _) ?_; clear S a w; intro ch1 m le1 a w S
  refine s_alloc S Z36 rfl ⟨rfl, trivial⟩ rfl ?_; clear S a w; intro g2 a w S
  refine s_store S rfl rfl rfl (s' := [.ints .u8 t1 32]) .here T36 rfl rfl ?_; clear S w; intro w S
  refine c_end ?_
  refine c_region ?_
  refine s_bldSl S (ty' := (Ty.int .u8)) (ds := []) (z := 0) (c0 := ()) (ys := ([] : List Int)) (cs := []) rfl Tryd.underlying27 J5 Z5 rfl ⟨rfl, trivial⟩ rfl rfl rfl rfl rfl rfl ?_; clear S a w; intro g3 a w S
  refine s_loada S rfl (.there (.there .here)) T26 (s' := [.ints .u64 x1 4]) rfl rfl ?_; clear S a; intro a S
  obtain ⟨t2, et2, h2⟩ := bind_of h1; clear h1
  refine s_callP S (fun (ch : Unit) => ((.v (.int .i64 t2)) : D)) N42 rfl rfl (word_Size.ok k x1 t2 et2 _ _) ?_; clear S a w; intro ch2 m le1 a w S
  refine s_bin S rfl rfl rfl rfl ?_; clear S a; intro a S
  obtain ⟨c1, h3⟩ := chk_of h2; clear h2
  refine s_sliceA S (i := (wr .i64 (32 - t2))) (j := 32) (o' := if 32 = Int.toNat (wr .i64 (32 - t2)) then 0 else 0 + Int.toNat (wr .i64 (32 - t2)) * 1) (len := Int.toNat 32 - Int.toNat (wr .i64 (32 - t2))) (cap := 32 - Int.toNat (wr .i64 (32 - t2))) rfl Tryd.underlying36 T5 (.inr ⟨_, _, rfl, rfl⟩) (.inl ⟨rfl, rfl⟩) c1 rfl rfl rfl rfl ?_; clear S a; intro a S
  replace S := S.freeze (.there .here)
  obtain ⟨m, le1, S⟩ := S
  replace S := (S.slup' (u := 10) (lo := Int.toNat (wr .i64 (32 - t2))) (c := 32) (ys := ((t1).drop (Int.toNat (wr .i64 (32 - t2)))).take (Int.toNat 32 - Int.toNat (wr .i64 (32 - t2)))) rfl (Pull.mem (.there .here)).1 .here (ho_if c1) (hl_if c1) (hcap_if c1 rfl) rfl).2
  obtain ⟨c2, h4⟩ := chk_of h3; clear h3
  refine s_app S (k2 := ((((t1).drop (Int.toNat (wr .i64 (32 - t2)))).take (Int.toNat 32 - Int.toNat (wr .i64 (32 - t2)))).length)) (ys := (((t1).drop (Int.toNat (wr .i64 (32 - t2)))).take (Int.toNat 32 - Int.toNat (wr .i64 (32 - t2))))) rfl (fun _ _ => .here) rfl rfl rfl (RdS.src (S.get 10 (.sl (some ⟨g2, if 32 = Int.toNat (wr .i64 (32 - t2)) then 0 else 0 + Int.toNat (wr .i64 (32 - t2)) * 1, none⟩) (((t1).drop (Int.toNat (wr .i64 (32 - t2)))).take (Int.toNat 32 - Int.toNat (wr .i64 (32 - t2)))).length (32 - Int.toNat (wr .i64 (32 - t2))) (RdS (Ty.int .u8) (some ⟨g2, if 32 = Int.toNat (wr .i64 (32 - t2)) then 0 else 0 + Int.toNat (wr .i64 (32 - t2)) * 1, none⟩) (((t1).drop (Int.toNat (wr .i64 (32 - t2)))).take (Int.toNat 32 - Int.toNat (wr .i64 (32 - t2)))))) rfl).2.2.2.1 (by decide) S.frz) Tryd.underlying27 J5 c2 rfl ?_; clear S a w; intro A1 cp1 a w S
  refine s_assign S rfl rfl ?_; clear S a; intro a S
  refine c_end ?_
  refine wp_ret ?_
  obtain rfl := Option.some.inj h4
  exact b_ret1 (d := (.v (.slice A1 (0 + ((((t1).drop (Int.toNat (wr .i64 (32 - t2)))).take (Int.toNat 32 - Int.toNat (wr .i64 (32 - t2)))).length)) cp1))) S rfl rfl fun ok => S.retX (Hx := []) hb _ _ ((A1, 0 + ((((t1).drop (Int.toNat (wr .i64 (32 - t2)))).take (Int.toNat 32 - Int.toNat (wr .i64 (32 - t2)))).length), cp1) : (Option Addr) × Nat × Nat) (.cons .here .nil) ok
/-! smithy/tx.number -/
abbrev tx_number.Ty : Type := (List Int) → Option ((Bool × (List Int) × Int))
def tx_number.Ctr (s : tx_number.Ty) : Prop := ∀ (x1 : List Int) (r : (Bool × (List Int) × Int)) (h0 : s x1 = some r) (mi : Mem) (w0 : World), okL mi [(.agg [.ints .u64 x1 4])] → Pre mi [] w0 → Calls Tryd.prog 13 (([(.agg [.ints .u64 x1 4])] : List D).map D.val).toArray w0 (RetX mi [] (fun (ch : (Option Addr) × Nat) => ((.agg [.one (.bool r.1), .sl ch.1 (r.2.1).length ch.2 (RdS (Ty.int .u8) ch.1 r.2.1), .one (.int .i64 r.2.2)]) : D)) (fun (ch : (Option Addr) × Nat) => []) w0)
def tx_number.f (k : Nat) (x1 : List Int) : Option ((Bool × (List Int) × Int)) := (rlp_Number.f k x1).bind fun t1 => ((tx_item.f t1).bind fun t2 => (some (t2.1, t2.2.1, t2.2.2)))
theorem tx_number.ok (k : Nat) : tx_number.Ctr (tx_number.f k) := by
  intro x1 r h0 mi w0 ok hm
  delta tx_number.f at h0
  refine c_enterX (n := 6) [(.agg [.ints .u64 x1 4])] (l := [(0, (.agg [.ints .u64 x1 4]))]) Tryd.func13 rfl rfl rfl rfl ok hm ?_
  clear ok hm
  intro b0 hb a S
  refine c_region ?_
  refine s_box S rfl rfl rfl ?_; clear S a; intro g1 a w S
  refine s_alloc S Z46 rfl ⟨rfl, rfl, rfl, trivial⟩ rfl ?_; clear S a w; intro g2 a w S
  refine c_end ?_
  refine c_region ?_
  refine s_loada S rfl (.there .here) T26 (s' := [.ints .u64 x1 4]) rfl rfl ?_; clear S a; intro a S
  obtain ⟨t1, et1, h1⟩ := bind_of h0; clear h0
  refine s_callR S (fun (ch : (Option Addr) × Nat × Nat) => ((.v (.slice ch.1 ch.2.1 ch.2.2)) : D)) (fun (ch : (Option Addr) × Nat × Nat) => Res.row (Ty.int .u8) 5 ch.1 ch.2.1 ch.2.2 t1) N29 rfl rfl (rlp_Number.ok k x1 t1 et1 _ _) ?_; clear S a w; intro ch1 m le1 a w S
  replace S := S.rowfro .here
  obtain ⟨m, le1, S, hro⟩ := S
  replace S := S.slotro (u := 4) rfl hro
  obtain ⟨t2, et2, h2⟩ := bind_of h1; clear h1
  refine s_callP S (fun (ch : (Option Addr) × Nat) => ((.agg [.one (.bool t2.1), .sl ch.1 (t2.2.1).length ch.2 (RdS (Ty.int .u8) ch.1 t2.2.1), .one (.int .i64 t2.2.2)]) : D)) N12 rfl rfl (tx_item.ok t1 ch1.1 ch1.2.2 t2 et2 _ _) ?_; clear S a w; intro ch2 m le1 a w S
  refine s_store S rfl rfl rfl (s' := [.one (.bool t2.1), .sl ch2.1 (t2.2.1).length ch2.2 (RdS (Ty.int .u8) ch2.1 t2.2.1), .one (.int .i64 t2.2.2)]) .here T46 rfl rfl ?_; clear S w; intro w S
  refine c_end ?_
  refine wp_ret ?_
  obtain rfl := Option.some.inj h2
  exact b_ret1 (d := (.agg [.one (.bool t2.1), .sl ch2.1 (t2.2.1).length ch2.2 (RdS (Ty.int .u8) ch2.1 t2.2.1), .one (.int .i64 t2.2.2)])) S rfl (resD_cell rfl .here T46 rfl rfl) fun ok => S.retX (Hx := []) hb _ _ ((ch2.1, ch2.2) : (Option Addr) × Nat) .nil ok
end GW
