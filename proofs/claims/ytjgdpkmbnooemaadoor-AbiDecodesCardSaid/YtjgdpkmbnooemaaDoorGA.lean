import Derived.Test.YtjgdpkmbnooemaaDoorProg
import Derived.Test.YtjgdpkmbnooemaaDoorGWBrev
set_option linter.unusedVariables false
set_option linter.unusedSimpArgs false
set_option maxRecDepth 10000
set_option maxHeartbeats 4000000
namespace GW
open Go Go.RowKit Go.Proofs Go.Proofs.Tryd
noncomputable section
def tbl_keccak_constants : List Int := [1, 32898, 9223372036854808714, 9223372039002292224, 32907, 2147483649, 9223372039002292353, 9223372036854808585, 138, 136, 2147516425, 2147483658, 2147516555, 9223372036854775947, 9223372036854808713, 9223372036854808579, 9223372036854808578, 9223372036854775936, 32778, 9223372039002259466, 9223372039002292353, 9223372036854808704, 2147483649, 9223372039002292232]
def tbl_keccak_places : List Int := [10, 7, 11, 17, 18, 3, 5, 16, 8, 21, 24, 4, 15, 23, 19, 13, 12, 2, 20, 14, 22, 9, 6, 1]
def tbl_keccak_turns : List Int := [1, 3, 6, 10, 15, 21, 28, 36, 45, 55, 2, 14, 27, 41, 56, 8, 25, 43, 62, 18, 39, 61, 20, 44]
def Glob (m : Mem) : Prop := FroAt m 0 [.ints .u64 tbl_keccak_constants 24] ∧ FroAt m 1 [.ints .i64 tbl_keccak_places 24] ∧ FroAt m 2 [.ints .i64 tbl_keccak_turns 24]
theorem Glob.mono {m m' : Mem} (h : Glob m) (hm : LeM m m') : Glob m' := ⟨(FroAt.mono hm h.1), (FroAt.mono hm h.2.1), (FroAt.mono hm h.2.2)⟩
theorem P56 : ∀ w : World, ((match Tryd.prog.underlying 56 with | some (.struct fs) => fs | _ => (#[] : Array Field)).mapM fun (f : Field) => (do pure (f.offset, ← Go.sizeOf f.type) : Sem (Nat × Nat))).run Tryd.prog w = .ok #[(0, 4), (4, 1), (5, 1)] w := fun _ => by kernel_rfl
theorem Z56 : zeroI Tryd.prog 56 = some (D.val (.agg [.w4 [0, 0, 0, 0], .s none 0 0, .i 0])) := by kernel_rfl
abbrev Y56 : Ty ((List Int) × (List Int) × Int) := (Ty.prod (Ty.arr .u64 4) (Ty.prod (Ty.slice (Ty.int .u8)) (Ty.int .i64)))
theorem J56 : appI Tryd.prog 56 = some (6, 64) := by kernel_rfl
def txt0 : ByteArray := ByteArray.mk #[40, 117, 105, 110, 116, 41]
abbrev L38 : Type := List ((List Int) × (List Int) × Int)
def txt1 : ByteArray := ByteArray.mk #[]
theorem P90 : ∀ w : World, ((match Tryd.prog.underlying 90 with | some (.struct fs) => fs | _ => (#[] : Array Field)).mapM fun (f : Field) => (do pure (f.offset, ← Go.sizeOf f.type) : Sem (Nat × Nat))).run Tryd.prog w = .ok #[(0, 1), (1, 1)] w := fun _ => by kernel_rfl
theorem Z90 : zeroI Tryd.prog 90 = some (D.val (.agg [.one (.string txt1), .b false])) := by kernel_rfl
def txt2 : ByteArray := ByteArray.mk #[117, 105, 110, 116]
theorem I90_0 : fieldI Tryd.prog 90 0 = some (0, 9) := by kernel_rfl
theorem T9 : tyI Tryd.prog 9 = some (false, 1) := by kernel_rfl
theorem N67 : Fn_ Tryd.prog 67 := ⟨_, func67, rfl, by decide⟩
inductive PT61 where
  | nil
  | mk (u : Int × Int × (List PT61))
instance : Inhabited PT61 := ⟨.nil⟩
def PT61.nn : PT61 → Bool
  | .nil => false
  | .mk _ => true
def PT61.to : PT61 → Int × Int × (List PT61)
  | .nil => default
  | .mk u => u
abbrev PU61 (T : Ty PT61) : Ty (Int × Int × (List PT61)) := (Ty.prod (Ty.int .u8) (Ty.prod (Ty.int .i64) (Ty.slice T)))
theorem PH61 : ∀ T T' : Ty PT61, SubT T T' → SubT (PU61 T) (PU61 T') := fun _ _ h => (subT_prod (SubT.refl _) (subT_prod (SubT.refl _) (subT_slice h)))
abbrev PR61 : Option Addr → PT61 → Mem → Prop := RP PT61.nn PT61.to PU61
abbrev PY61 : Ty PT61 := Ty.ptr PR61
theorem P67 : ∀ w : World, ((match Tryd.prog.underlying 67 with | some (.struct fs) => fs | _ => (#[] : Array Field)).mapM fun (f : Field) => (do pure (f.offset, ← Go.sizeOf f.type) : Sem (Nat × Nat))).run Tryd.prog w = .ok #[(0, 1), (1, 1), (2, 1)] w := fun _ => by kernel_rfl
theorem Z67 : zeroI Tryd.prog 67 = some (D.val (.agg [.one (.int .u8 0), .i 0, .s none 0 0])) := by kernel_rfl
def txt3 : ByteArray := ByteArray.mk #[97, 100, 100, 114, 101, 115, 115]
def txt4 : ByteArray := ByteArray.mk #[98, 111, 111, 108]
def txt5 : ByteArray := ByteArray.mk #[98, 121, 116, 101, 115]
def txt6 : ByteArray := ByteArray.mk #[40]
def txt7 : ByteArray := ByteArray.mk #[41]
theorem I90_1 : fieldI Tryd.prog 90 1 = some (1, 4) := by kernel_rfl
theorem T4 : tyI Tryd.prog 4 = some (false, 1) := by kernel_rfl
theorem I67_2 : fieldI Tryd.prog 67 2 = some (2, 65) := by kernel_rfl
theorem T65 : tyI Tryd.prog 65 = some (false, 1) := by kernel_rfl
theorem N81 : Fn_ Tryd.prog 81 := ⟨_, func81, rfl, by decide⟩
theorem N66 : Fn_ Tryd.prog 66 := ⟨_, func66, rfl, by decide⟩
def txt8 : ByteArray := ByteArray.mk #[91]
def txt9 : ByteArray := ByteArray.mk #[93]
theorem J61 : appI Tryd.prog 61 = some (1, 8) := by kernel_rfl
theorem Z61 : zeroI Tryd.prog 61 = some (D.val (.v (.pointer none))) := by kernel_rfl
theorem N68 : Fn_ Tryd.prog 68 := ⟨_, func68, rfl, by decide⟩
theorem T61 : tyI Tryd.prog 61 = some (false, 1) := by kernel_rfl
theorem I67_0 : fieldI Tryd.prog 67 0 = some (0, 64) := by kernel_rfl
theorem T64 : tyI Tryd.prog 64 = some (false, 1) := by kernel_rfl
theorem N42 : Fn_ Tryd.prog 42 := ⟨_, func42, rfl, by decide⟩
theorem N41 : Fn_ Tryd.prog 41 := ⟨_, func41, rfl, by decide⟩
def txt10 : ByteArray := ByteArray.mk #[44]
theorem N26 : Fn_ Tryd.prog 26 := ⟨_, func26, rfl, by decide⟩
theorem T56 : tyI Tryd.prog 56 = some (true, 6) := by kernel_rfl
theorem I56_2 : fieldI Tryd.prog 56 2 = some (5, 3) := by kernel_rfl
theorem T3 : tyI Tryd.prog 3 = some (false, 1) := by kernel_rfl
theorem I56_1 : fieldI Tryd.prog 56 1 = some (4, 26) := by kernel_rfl
theorem T26 : tyI Tryd.prog 26 = some (false, 1) := by kernel_rfl
theorem I56_0 : fieldI Tryd.prog 56 0 = some (0, 54) := by kernel_rfl
theorem T54 : tyI Tryd.prog 54 = some (true, 4) := by kernel_rfl
theorem T52 : tyI Tryd.prog 52 = some (false, 1) := by kernel_rfl
theorem Q54 : Tryd.prog.eqGuardType Tryd.prog.depth 54 = false := by kernel_rfl
theorem I67_1 : fieldI Tryd.prog 67 1 = some (1, 3) := by kernel_rfl
def txt11 : ByteArray := ByteArray.mk #[99, 97, 110, 110, 111, 116, 32, 98, 101, 32, 110, 101, 103, 97, 116, 105, 118, 101]
theorem N87 : Fn_ Tryd.prog 87 := ⟨_, func87, rfl, by decide⟩
theorem N82 : Fn_ Tryd.prog 82 := ⟨_, func82, rfl, by decide⟩
def txt12 : ByteArray := ByteArray.mk #[116, 104, 101, 32, 114, 101, 115, 117, 108, 116, 32, 111, 102, 32, 40, 108, 101, 110, 40, 120, 41, 32, 42, 32, 99, 111, 117, 110, 116, 41, 32, 111, 118, 101, 114, 102, 108, 111, 119, 115]
theorem N70 : Fn_ Tryd.prog 70 := ⟨_, func70, rfl, by decide⟩
theorem N44 : Fn_ Tryd.prog 44 := ⟨_, func44, rfl, by decide⟩
theorem N29 : Fn_ Tryd.prog 29 := ⟨_, func29, rfl, by decide⟩
theorem P98 : ∀ w : World, ((match Tryd.prog.underlying 98 with | some (.struct fs) => fs | _ => (#[] : Array Field)).mapM fun (f : Field) => (do pure (f.offset, ← Go.sizeOf f.type) : Sem (Nat × Nat))).run Tryd.prog w = .ok #[(0, 1), (1, 1)] w := fun _ => by kernel_rfl
theorem Z98 : zeroI Tryd.prog 98 = some (D.val (.agg [.s none 0 0, .b false])) := by kernel_rfl
theorem I98_0 : fieldI Tryd.prog 98 0 = some (0, 38) := by kernel_rfl
theorem T38 : tyI Tryd.prog 38 = some (false, 1) := by kernel_rfl
theorem I98_1 : fieldI Tryd.prog 98 1 = some (1, 4) := by kernel_rfl
def txt13 : ByteArray := ByteArray.mk #[0, 1, 2, 2, 3, 3, 3, 3, 4, 4, 4, 4, 4, 4, 4, 4, 5, 5, 5, 5, 5, 5, 5, 5, 5, 5, 5, 5, 5, 5, 5, 5, 6, 6, 6, 6, 6, 6, 6, 6, 6, 6, 6, 6, 6, 6, 6, 6, 6, 6, 6, 6, 6, 6, 6, 6, 6, 6, 6, 6, 6, 6, 6, 6, 7, 7, 7, 7, 7, 7, 7, 7, 7, 7, 7, 7, 7, 7, 7, 7, 7, 7, 7, 7, 7, 7, 7, 7, 7, 7, 7, 7, 7, 7, 7, 7, 7, 7, 7, 7, 7, 7, 7, 7, 7, 7, 7, 7, 7, 7, 7, 7, 7, 7, 7, 7, 7, 7, 7, 7, 7, 7, 7, 7, 7, 7, 7, 7, 8, 8, 8, 8, 8, 8, 8, 8, 8, 8, 8, 8, 8, 8, 8, 8, 8, 8, 8, 8, 8, 8, 8, 8, 8, 8, 8, 8, 8, 8, 8, 8, 8, 8, 8, 8, 8, 8, 8, 8, 8, 8, 8, 8, 8, 8, 8, 8, 8, 8, 8, 8, 8, 8, 8, 8, 8, 8, 8, 8, 8, 8, 8, 8, 8, 8, 8, 8, 8, 8, 8, 8, 8, 8, 8, 8, 8, 8, 8, 8, 8, 8, 8, 8, 8, 8, 8, 8, 8, 8, 8, 8, 8, 8, 8, 8, 8, 8, 8, 8, 8, 8, 8, 8, 8, 8, 8, 8, 8, 8, 8, 8, 8, 8, 8, 8, 8, 8, 8, 8, 8, 8, 8, 8, 8, 8, 8, 8]
theorem N83 : Fn_ Tryd.prog 83 := ⟨_, func83, rfl, by decide⟩
theorem N71 : Fn_ Tryd.prog 71 := ⟨_, func71, rfl, by decide⟩
theorem N48 : Fn_ Tryd.prog 48 := ⟨_, func48, rfl, by decide⟩
theorem N45 : Fn_ Tryd.prog 45 := ⟨_, func45, rfl, by decide⟩
theorem N30 : Fn_ Tryd.prog 30 := ⟨_, func30, rfl, by decide⟩
theorem P73 : ∀ w : World, ((match Tryd.prog.underlying 73 with | some (.struct fs) => fs | _ => (#[] : Array Field)).mapM fun (f : Field) => (do pure (f.offset, ← Go.sizeOf f.type) : Sem (Nat × Nat))).run Tryd.prog w = .ok #[(0, 1), (1, 1)] w := fun _ => by kernel_rfl
theorem Z73 : zeroI Tryd.prog 73 = some (D.val (.agg [.s none 0 0, .i 0])) := by kernel_rfl
theorem I73_1 : fieldI Tryd.prog 73 1 = some (1, 40) := by kernel_rfl
theorem T40 : tyI Tryd.prog 40 = some (false, 1) := by kernel_rfl
theorem I73_0 : fieldI Tryd.prog 73 0 = some (0, 38) := by kernel_rfl
theorem N46 : Fn_ Tryd.prog 46 := ⟨_, func46, rfl, by decide⟩
theorem Z23 : zeroI Tryd.prog 23 = some (D.val (.a32 z32)) := by kernel_rfl
theorem T5 : tyI Tryd.prog 5 = some (false, 1) := by kernel_rfl
theorem T23 : tyI Tryd.prog 23 = some (true, 32) := by kernel_rfl
theorem N47 : Fn_ Tryd.prog 47 := ⟨_, func47, rfl, by decide⟩
theorem Z54 : zeroI Tryd.prog 54 = some (D.val (.a4 [0, 0, 0, 0])) := by kernel_rfl
theorem N73 : Fn_ Tryd.prog 73 := ⟨_, func73, rfl, by decide⟩
theorem N50 : Fn_ Tryd.prog 50 := ⟨_, func50, rfl, by decide⟩
theorem J26 : appI Tryd.prog 26 = some (1, 24) := by kernel_rfl
theorem Z26 : zeroI Tryd.prog 26 = some (D.val (.s none 0 0)) := by kernel_rfl
def txt14 : ByteArray := ByteArray.mk #[108, 101, 110, 32, 111, 117, 116, 32, 111, 102, 32, 114, 97, 110, 103, 101]
theorem J5 : appI Tryd.prog 5 = some (1, 1) := by kernel_rfl
theorem Z5 : zeroI Tryd.prog 5 = some (D.val (.v (.int .u8 0))) := by kernel_rfl
theorem N72 : Fn_ Tryd.prog 72 := ⟨_, func72, rfl, by decide⟩
theorem N49 : Fn_ Tryd.prog 49 := ⟨_, func49, rfl, by decide⟩
theorem N69 : Fn_ Tryd.prog 69 := ⟨_, func69, rfl, by decide⟩
theorem N43 : Fn_ Tryd.prog 43 := ⟨_, func43, rfl, by decide⟩
theorem N27 : Fn_ Tryd.prog 27 := ⟨_, func27, rfl, by decide⟩
theorem N28 : Fn_ Tryd.prog 28 := ⟨_, func28, rfl, by decide⟩
theorem N51 : Fn_ Tryd.prog 51 := ⟨_, func51, rfl, by decide⟩
theorem N31 : Fn_ Tryd.prog 31 := ⟨_, func31, rfl, by decide⟩
theorem N17 : Fn_ Tryd.prog 17 := ⟨_, func17, rfl, by decide⟩
def txt15 : ByteArray := ByteArray.mk #[116, 114, 97, 110, 115, 102, 101, 114, 40, 97, 100, 100, 114, 101, 115, 115, 44, 117, 105, 110, 116, 50, 53, 54, 41]
theorem Z27 : zeroI Tryd.prog 27 = some (D.val (.agg [.ints .u8 [0, 0, 0, 0] 4])) := by kernel_rfl
theorem Z24 : zeroI Tryd.prog 24 = some (D.val (.a32 z32)) := by kernel_rfl
theorem Z57 : zeroI Tryd.prog 57 = some (D.val (.agg [.ints .u64 z25 25])) := by kernel_rfl
theorem T57 : tyI Tryd.prog 57 = some (true, 25) := by kernel_rfl
theorem T83 : tyI Tryd.prog 83 = some (true, 24) := by kernel_rfl
theorem Z119 : zeroI Tryd.prog 119 = some (D.val (.agg [.ints .u64 [0, 0, 0, 0, 0] 5])) := by kernel_rfl
theorem N85 : Fn_ Tryd.prog 85 := ⟨_, func85, rfl, by decide⟩
theorem T138 : tyI Tryd.prog 138 = some (true, 24) := by kernel_rfl
theorem T119 : tyI Tryd.prog 119 = some (true, 5) := by kernel_rfl
theorem N80 : Fn_ Tryd.prog 80 := ⟨_, func80, rfl, by decide⟩
theorem N65 : Fn_ Tryd.prog 65 := ⟨_, func65, rfl, by decide⟩
theorem N39 : Fn_ Tryd.prog 39 := ⟨_, func39, rfl, by decide⟩
theorem Z87 : zeroI Tryd.prog 87 = some (D.val (.agg [.ints .u8 (List.replicate 136 0) 136])) := by kernel_rfl
theorem T24 : tyI Tryd.prog 24 = some (true, 32) := by kernel_rfl
theorem N23 : Fn_ Tryd.prog 23 := ⟨_, func23, rfl, by decide⟩
theorem T27 : tyI Tryd.prog 27 = some (true, 4) := by kernel_rfl
theorem N9 : Fn_ Tryd.prog 9 := ⟨_, func9, rfl, by decide⟩
theorem Q27 : Tryd.prog.eqGuardType Tryd.prog.depth 27 = false := by kernel_rfl
theorem N7 : Fn_ Tryd.prog 7 := ⟨_, func7, rfl, by decide⟩
inductive ST32 where
  | mk (u : Int × Int × (List ST32))
def ST32.un : ST32 → Int × Int × (List ST32)
  | .mk u => u
instance : Inhabited ST32 := ⟨.mk default⟩
abbrev SU32 (T : Ty (List ST32)) : Ty (Int × Int × (List ST32)) := (Ty.prod (Ty.int .i64) (Ty.prod (Ty.int .i64) T))
theorem SH32 : ∀ T T' : Ty (List ST32), SubT T T' → SubT (SU32 T) (SU32 T') := fun _ _ h => (subT_prod (SubT.refl _) (subT_prod (SubT.refl _) h))
def SR32 : Option Addr → List ST32 → Mem → Prop := RS ST32.un SU32
abbrev SY32 : Ty ST32 := Ty.iso ST32.un (SU32 (Ty.slR SR32))
theorem SE32 (A : Option Addr) (xs : List ST32) : SR32 A xs = RdS SY32 A xs := congrFun (congrFun (RS.eq SH32) A) xs
theorem SM32 (A : Option Addr) (xs : List ST32) : Mono (SR32 A xs) := RS.mono _ _ _ _
theorem SN32 {m : Mem} : Seg.ok m (Seg.sl none ([] : List ST32).length 0 (SR32 none ([] : List ST32))) := ⟨Nat.le_refl _, Nat.zero_le _, by rw [SE32]; exact RdS.nil _ _ _, SM32 _ _⟩
theorem Z32 : zeroI Tryd.prog 32 = some (D.val (.agg [.i 0, .i 0, .s none 0 0])) := by kernel_rfl
def txt16 : ByteArray := ByteArray.mk #[40, 41]
theorem P32 : ∀ w : World, ((match Tryd.prog.underlying 32 with | some (.struct fs) => fs | _ => (#[] : Array Field)).mapM fun (f : Field) => (do pure (f.offset, ← Go.sizeOf f.type) : Sem (Nat × Nat))).run Tryd.prog w = .ok #[(0, 1), (1, 1), (2, 1)] w := fun _ => by kernel_rfl
theorem T32 : tyI Tryd.prog 32 = some (true, 3) := by kernel_rfl
theorem J9 : appI Tryd.prog 9 = some (1, 16) := by kernel_rfl
theorem Z9 : zeroI Tryd.prog 9 = some (D.val (.v (.string txt1))) := by kernel_rfl
theorem N40 : Fn_ Tryd.prog 40 := ⟨_, func40, rfl, by decide⟩
theorem J32 : appI Tryd.prog 32 = some (3, 40) := by kernel_rfl
theorem N24 : Fn_ Tryd.prog 24 := ⟨_, func24, rfl, by decide⟩
theorem I32_2 : fieldI Tryd.prog 32 2 = some (2, 30) := by kernel_rfl
theorem T30 : tyI Tryd.prog 30 = some (false, 1) := by kernel_rfl
theorem I32_0 : fieldI Tryd.prog 32 0 = some (0, 3) := by kernel_rfl
theorem N25 : Fn_ Tryd.prog 25 := ⟨_, func25, rfl, by decide⟩
theorem N10 : Fn_ Tryd.prog 10 := ⟨_, func10, rfl, by decide⟩
theorem N15 : Fn_ Tryd.prog 15 := ⟨_, func15, rfl, by decide⟩
theorem I32_1 : fieldI Tryd.prog 32 1 = some (1, 3) := by kernel_rfl
theorem N14 : Fn_ Tryd.prog 14 := ⟨_, func14, rfl, by decide⟩
theorem N52 : Fn_ Tryd.prog 52 := ⟨_, func52, rfl, by decide⟩
theorem N32 : Fn_ Tryd.prog 32 := ⟨_, func32, rfl, by decide⟩
theorem Z108 : zeroI Tryd.prog 108 = some (D.val (.agg [.ints .i64 z32 32])) := by kernel_rfl
theorem T108 : tyI Tryd.prog 108 = some (true, 32) := by kernel_rfl
theorem N53 : Fn_ Tryd.prog 53 := ⟨_, func53, rfl, by decide⟩
theorem N74 : Fn_ Tryd.prog 74 := ⟨_, func74, rfl, by decide⟩
theorem N54 : Fn_ Tryd.prog 54 := ⟨_, func54, rfl, by decide⟩
theorem N33 : Fn_ Tryd.prog 33 := ⟨_, func33, rfl, by decide⟩
theorem N55 : Fn_ Tryd.prog 55 := ⟨_, func55, rfl, by decide⟩
theorem N56 : Fn_ Tryd.prog 56 := ⟨_, func56, rfl, by decide⟩
theorem N34 : Fn_ Tryd.prog 34 := ⟨_, func34, rfl, by decide⟩
theorem N18 : Fn_ Tryd.prog 18 := ⟨_, func18, rfl, by decide⟩
theorem P80 : ∀ w : World, ((match Tryd.prog.underlying 80 with | some (.struct fs) => fs | _ => (#[] : Array Field)).mapM fun (f : Field) => (do pure (f.offset, ← Go.sizeOf f.type) : Sem (Nat × Nat))).run Tryd.prog w = .ok #[(0, 1), (1, 1), (2, 1), (3, 1)] w := fun _ => by kernel_rfl
theorem Z80 : zeroI Tryd.prog 80 = some (D.val (.agg [.s none 0 0, .i 0, .s none 0 0, .b false])) := by kernel_rfl
theorem I80_3 : fieldI Tryd.prog 80 3 = some (3, 4) := by kernel_rfl
theorem I80_0 : fieldI Tryd.prog 80 0 = some (0, 26) := by kernel_rfl
theorem N75 : Fn_ Tryd.prog 75 := ⟨_, func75, rfl, by decide⟩
theorem N57 : Fn_ Tryd.prog 57 := ⟨_, func57, rfl, by decide⟩
theorem I80_2 : fieldI Tryd.prog 80 2 = some (2, 38) := by kernel_rfl
theorem I80_1 : fieldI Tryd.prog 80 1 = some (1, 3) := by kernel_rfl
theorem N79 : Fn_ Tryd.prog 79 := ⟨_, func79, rfl, by decide⟩
theorem N59 : Fn_ Tryd.prog 59 := ⟨_, func59, rfl, by decide⟩
theorem N77 : Fn_ Tryd.prog 77 := ⟨_, func77, rfl, by decide⟩
theorem N84 : Fn_ Tryd.prog 84 := ⟨_, func84, rfl, by decide⟩
theorem N76 : Fn_ Tryd.prog 76 := ⟨_, func76, rfl, by decide⟩
theorem N78 : Fn_ Tryd.prog 78 := ⟨_, func78, rfl, by decide⟩
theorem N58 : Fn_ Tryd.prog 58 := ⟨_, func58, rfl, by decide⟩
theorem N60 : Fn_ Tryd.prog 60 := ⟨_, func60, rfl, by decide⟩
theorem N35 : Fn_ Tryd.prog 35 := ⟨_, func35, rfl, by decide⟩
theorem N19 : Fn_ Tryd.prog 19 := ⟨_, func19, rfl, by decide⟩
theorem N20 : Fn_ Tryd.prog 20 := ⟨_, func20, rfl, by decide⟩
theorem N61 : Fn_ Tryd.prog 61 := ⟨_, func61, rfl, by decide⟩
theorem N62 : Fn_ Tryd.prog 62 := ⟨_, func62, rfl, by decide⟩
theorem N63 : Fn_ Tryd.prog 63 := ⟨_, func63, rfl, by decide⟩
theorem N36 : Fn_ Tryd.prog 36 := ⟨_, func36, rfl, by decide⟩
theorem N21 : Fn_ Tryd.prog 21 := ⟨_, func21, rfl, by decide⟩
def Gd54 : (List Int) → Prop := fun xs => xs.length = 4 ∧ ∀ y ∈ xs, inK .u64 y
def Gd5 : Int → Prop := fun x => inK .u8 x
def Gd26 : (List Int) → Prop := fun xs => (∀ y ∈ xs, Gd5 y) ∧ xs.length ≤ maxLen
def Gd3 : Int → Prop := fun x => inK .i64 x
def Gd56 : ((List Int) × (List Int) × Int) → Prop := fun y => Gd54 y.1 ∧ (Gd26 y.2.1 ∧ (Gd3 y.2.2))
abbrev fd9_.Ty : Type := (ByteArray × Bool) → ByteArray → Option (Bool × (ByteArray × Unit))
def fd9_.Ctr (s : fd9_.Ty) : Prop := ∀ (x1 : ByteArray × Bool) (x2 : ByteArray) (ch_0_0 : Nat) (r : Bool × (ByteArray × Unit)), Ct (C := Unit) Tryd.prog 67 (s x1 x2 = some r) [Res.cells ch_0_0 90 [.one (.string x1.1), .b x1.2]] [(.p ch_0_0), (.v (.string x2))] (fun _ => (.b r.1)) fun _ => [Res.cells ch_0_0 90 [.one (.string r.2.1), .b x1.2]]
def fd9_.j1 (x1 : ByteArray × Bool) (x2 : ByteArray) (y1 : Bool) : Option (Bool × (ByteArray × Unit)) := if y1 = true then (some (false, (x1.1, ()))) else (if (0 : Int) ≤ (x2.size : Int) ∧ ((x2.size : Int) : Int) ≤ (x1.1.size : Int) ∧ ((x1.1.size : Int) : Int) ≤ x1.1.size then (some (true, (bcut x1.1 (x2.size : Int) (x1.1.size : Int), ()))) else none)
def fd9_.f (x1 : ByteArray × Bool) (x2 : ByteArray) : Option (Bool × (ByteArray × Unit)) := if (decide ((x1.1.size : Int) < (x2.size : Int))) = true then (fd9_.j1 x1 x2 true) else (if (0 : Int) ≤ 0 ∧ (0 : Int) ≤ (x2.size : Int) ∧ ((x2.size : Int) : Int) ≤ x1.1.size then (fd9_.j1 x1 x2 (!((bcut x1.1 0 (x2.size : Int)).toList == x2.toList))) else none)
theorem fd9_.ok : fd9_.Ctr (fd9_.f) := by
 intro x1 x2 ch_0_0 r h0 mi w0 ok hm
 delta fd9_.f at h0
 refine c_enterZ (n := 34) ok hm func67 rfl rfl rfl fun b0 hb a S => c_region (s_assign S rfl rfl fun a S => c_end (wp_seq (wp_seq_k fun K1 hK1 => ?_)))
 have j1 : ∀ m y1 a w, St 34 m b0 [(23, (.b y1)), (0, (.p ch_0_0)), (1, (.v (.string x2)))] [Res.cells ch_0_0 90 [.one (.string x1.1), .b x1.2]] a w → fd9_.j1 x1 x2 y1 = some r → K1 a w := by
  intro m y1 a w S h0
  delta fd9_.j1 at h0
  refine hK1 a w ?_
  rcases ite_of h0 with ⟨c1, h1⟩ | ⟨c1, h1⟩
  ·refine c_condT S rfl c1 (c_region (s_assign S rfl rfl fun a S => c_end (wp_ret (x_thenR ?_))))
   obtain rfl := Option.some.inj h1
   exact b_ret1 (d := (.b false)) S rfl rfl fun ok => S.retX (Hx := []) hb _ _ (() : Unit) (.c0 .n) ok
  ·refine c_condF S rfl c1 (wp_skip (x_thenN (c_region (s_move S rfl rfl fun a S => s_move S rfl rfl fun a S => s_nilchk S rfl rfl fun a S => s_fieldAddr S rfl I90_0 T9 (by decide) rfl rfl fun a S => s_load1 S rfl .h T9 (v := (.string x1.1)) rfl rfl fun a S => s_move S rfl rfl fun a S => s_lenT S rfl underlying9 rfl fun a S => ?_))))
   obtain ⟨c2, h2⟩ := chk_of h1; clear h1
   refine s_cutT S (i := (x2.size : Int)) (j := (x1.1.size : Int)) rfl underlying9 (.inr ⟨_, _, rfl, rfl⟩) (.inl ⟨rfl, rfl⟩) c2 rfl fun a S => s_nilchk S rfl rfl fun a S => s_fieldAddr S rfl I90_0 T9 (by decide) rfl rfl fun a S => s_store S rfl rfl rfl (s' := [.one (.string (bcut x1.1 (x2.size : Int) (x1.1.size : Int))), .b x1.2]) .h T9 rfl rfl fun w S => c_end (c_region (s_assign S rfl rfl fun a S => c_end (wp_ret ?_)))
   obtain rfl := Option.some.inj h2
   exact b_ret1 (d := (.b true)) S rfl rfl fun ok => S.retX (Hx := []) hb _ _ (() : Unit) (.c0 .n) ok
 refine c_region' (s_move S rfl rfl fun a S => s_nilchk S rfl rfl fun a S => s_fieldAddr S rfl I90_0 T9 (by decide) rfl rfl fun a S => s_load1 S rfl .h T9 (v := (.string x1.1)) rfl rfl fun a S => s_lenT S rfl underlying9 rfl fun a S => s_move S rfl rfl fun a S => s_lenT S rfl underlying9 rfl fun a S => s_bin S rfl rfl rfl rfl fun a S => s_move S rfl rfl fun a S => ?_)
 rcases ite_of h0 with ⟨c3, h1⟩ | ⟨c3, h1⟩
 ·refine s_gF S (b := (decide ((x1.1.size : Int) < (x2.size : Int)))) rfl rfl c3 rfl fun a S => s_gF S (b := (decide ((x1.1.size : Int) < (x2.size : Int)))) rfl rfl c3 rfl fun a S => s_gF S (b := (decide ((x1.1.size : Int) < (x2.size : Int)))) rfl rfl c3 rfl fun a S => s_gF S (b := (decide ((x1.1.size : Int) < (x2.size : Int)))) rfl rfl c3 rfl fun a S => s_gF S (b := (decide ((x1.1.size : Int) < (x2.size : Int)))) rfl rfl c3 rfl fun a S => s_gF S (b := (decide ((x1.1.size : Int) < (x2.size : Int)))) rfl rfl c3 rfl fun a S => s_gF S (b := (decide ((x1.1.size : Int) < (x2.size : Int)))) rfl rfl c3 rfl fun a S => s_gF S (b := (decide ((x1.1.size : Int) < (x2.size : Int)))) rfl rfl c3 rfl fun a S => s_gF S (b := (decide ((x1.1.size : Int) < (x2.size : Int)))) rfl rfl c3 rfl fun a S => s_pick S (b := true) (hc_of rfl c3) rfl rfl fun a S => c_end' (x_thenN ?_)
  exact j1 _ true a w0 (S.sb rfl (.c0 .n)) h1
 ·refine s_gT S (b := (decide ((x1.1.size : Int) < (x2.size : Int)))) rfl rfl c3 (s_move S rfl rfl fun a S => s_gT S (b := (decide ((x1.1.size : Int) < (x2.size : Int)))) rfl rfl c3 (s_nilchk S rfl rfl fun a S => s_gT S (b := (decide ((x1.1.size : Int) < (x2.size : Int)))) rfl rfl c3 (s_fieldAddr S rfl I90_0 T9 (by decide) rfl rfl fun a S => s_gT S (b := (decide ((x1.1.size : Int) < (x2.size : Int)))) rfl rfl c3 (s_load1 S rfl .h T9 (v := (.string x1.1)) rfl rfl fun a S => s_gT S (b := (decide ((x1.1.size : Int) < (x2.size : Int)))) rfl rfl c3 (s_move S rfl rfl fun a S => s_gT S (b := (decide ((x1.1.size : Int) < (x2.size : Int)))) rfl rfl c3 (s_lenT S rfl underlying9 rfl fun a S => s_gT S (b := (decide ((x1.1.size : Int) < (x2.size : Int)))) rfl rfl c3 ?_))))))
  obtain ⟨c4, h2⟩ := chk_of h1; clear h1
  refine s_cutT S (i := 0) (j := (x2.size : Int)) rfl underlying9 (.inl ⟨rfl, rfl⟩) (.inr ⟨_, _, rfl, rfl⟩) c4 rfl fun a S => s_gT S (b := (decide ((x1.1.size : Int) < (x2.size : Int)))) rfl rfl c3 (s_move S rfl rfl fun a S => s_gT S (b := (decide ((x1.1.size : Int) < (x2.size : Int)))) rfl rfl c3 (s_neT S rfl rfl rfl fun a S => s_pick S (b := false) (hc_of rfl c3) rfl rfl fun a S => c_end' (x_thenN ?_)))
  exact j1 _ (!((bcut x1.1 0 (x2.size : Int)).toList == x2.toList)) a w0 (S.sb rfl (.c0 .n)) h2
abbrev fb8_.Ty : Type := (ByteArray × Bool) → Option (Int × (ByteArray × Bool))
def fb8_.Ctr (s : fb8_.Ty) : Prop := ∀ (x1 : ByteArray × Bool) (ch_0_0 : Nat) (r : Int × (ByteArray × Bool)), Ct (C := Unit) Tryd.prog 68 (s x1 = some r) [Res.cells ch_0_0 90 [.one (.string x1.1), .b x1.2]] [(.p ch_0_0)] (fun _ => (.i r.1)) fun _ => [Res.cells ch_0_0 90 [.one (.string r.2.1), .b r.2.2]]
def fb8_.j2 (y1 : Int) (y2 : ByteArray) (y4 : Bool) : Option (Int × (ByteArray × Bool)) := some (y1, (y2, y4))
def fb8_.j1 (y1 : Int) (y2 : ByteArray) (y3 : Bool) : Option (Int × (ByteArray × Bool)) := if y3 = true then (fb8_.j2 y1 y2 true) else (if (decide (y1 < 1)) = true then (fb8_.j2 y1 y2 true) else (fb8_.j2 y1 y2 (decide (64 < y1))))
def fb8_.j4 (y13 : Int) (y14 : ByteArray) (rec1 : Int → ByteArray → Bool → Option (Int × (ByteArray × Bool))) (y18 : Bool) : Option (Int × (ByteArray × Bool)) := if (0 : Int) ≤ 0 ∧ 0 < (y14.size : Int) then (if (0 : Int) ≤ 1 ∧ (1 : Int) ≤ (y14.size : Int) ∧ ((y14.size : Int) : Int) ≤ y14.size then (rec1 (wr .i64 ((wr .i64 (10 * y13)) + (wr .i64 (wr .u8 ((bt y14 0) - 48))))) (bcut y14 1 (y14.size : Int)) y18) else none) else none
def fb8_.j5 (y13 : Int) (y14 : ByteArray) (y15 : Bool) (rec1 : Int → ByteArray → Bool → Option (Int × (ByteArray × Bool))) (y19 : Bool) : Option (Int × (ByteArray × Bool)) := if y19 = true then (fb8_.j4 y13 y14 rec1 true) else (fb8_.j4 y13 y14 rec1 y15)
def fb8_.j3 (y13 : Int) (y14 : ByteArray) (y15 : Bool) (rec1 : Int → ByteArray → Bool → Option (Int × (ByteArray × Bool))) (y16 : Bool) : Option (Int × (ByteArray × Bool)) := if y16 = true then (if (y13 == 0) = true then (if (0 : Int) ≤ 0 ∧ 0 < (y14.size : Int) then (fb8_.j5 y13 y14 y15 rec1 ((bt y14 0) == 48)) else none) else (fb8_.j5 y13 y14 y15 rec1 false)) else (fb8_.j1 y13 y14 y15)
def fb8_.b1 (rec1 : Int → ByteArray → Bool → Option (Int × (ByteArray × Bool))) (y13 : Int) (y14 : ByteArray) (y15 : Bool) : Option (Int × (ByteArray × Bool)) := if (decide (0 < (y14.size : Int))) = true then (if (0 : Int) ≤ 0 ∧ 0 < (y14.size : Int) then (if (decide (48 ≤ (bt y14 0))) = true then (if (decide ((bt y14 0) ≤ 57)) = true then (fb8_.j3 y13 y14 y15 rec1 (decide (y13 ≤ 64))) else (fb8_.j3 y13 y14 y15 rec1 false)) else (fb8_.j3 y13 y14 y15 rec1 false)) else none) else (fb8_.j3 y13 y14 y15 rec1 false)
def fb8_.l1 : Nat → Int → ByteArray → Bool → Option (Int × (ByteArray × Bool))
  | 0, _, _, _ => none
  | q + 1, y13, y14, y15 => fb8_.b1 (fb8_.l1 q) y13 y14 y15
def fb8_.f (k : Nat) (x1 : ByteArray × Bool) : Option (Int × (ByteArray × Bool)) := fb8_.l1 k 0 x1.1 x1.2
theorem fb8_.ok (k : Nat) : fb8_.Ctr (fb8_.f k) := by
 intro x1 ch_0_0 r h0 mi w0 ok hm
 delta fb8_.f at h0
 refine c_enterZ (n := 77) ok hm func68 rfl rfl rfl fun b0 hb a S => c_region (s_assign S rfl rfl fun a S => c_end (c_region (s_assign S rfl rfl fun a S => c_end (wp_seq_k fun K1 hK1 => ?_))))
 have j1 : ∀ m y1 y2 y3 a w, St 77 m b0 [(3, (.i y1)), (0, (.p ch_0_0))] [Res.cells ch_0_0 90 [.one (.string y2), .b y3]] a w → fb8_.j1 y1 y2 y3 = some r → K1 a w := by
  intro m y1 y2 y3 a w S h0
  delta fb8_.j1 at h0
  refine hK1 a w (wp_seq_k fun K2 hK2 => ?_)
  have j2 : ∀ m y4 a w, St 77 m b0 [(3, (.i y1))] [Res.cells ch_0_0 90 [.one (.string y2), .b y4]] a w → fb8_.j2 y1 y2 y4 = some r → K2 a w := by
   intro m y4 a w S h0
   delta fb8_.j2 at h0
   refine hK2 a w (c_region (s_move S rfl rfl fun a S => s_assign S rfl rfl fun a S => c_end (wp_ret ?_)))
   obtain rfl := Option.some.inj h0
   exact b_ret1 (d := (.i y1)) S rfl rfl fun ok => S.retX (Hx := []) hb _ _ (() : Unit) (.c0 .n) ok
  refine c_region' (s_move S rfl rfl fun a S => s_move S rfl rfl fun a S => s_nilchk S rfl rfl fun a S => s_fieldAddr S rfl I90_1 T4 (by decide) rfl rfl fun a S => s_load1 S rfl .h T4 (v := (.bool y3)) rfl rfl fun a S => s_move S rfl rfl fun a S => ?_)
  rcases ite_of h0 with ⟨c1, h1⟩ | ⟨c1, h1⟩
  ·refine s_gF S (b := y3) rfl rfl c1 rfl fun a S => s_gF S (b := y3) rfl rfl c1 rfl fun a S => s_pick S (b := true) (hc_of rfl c1) rfl rfl fun a S => s_move S rfl rfl fun a S => s_gF S (b := true) rfl rfl rfl rfl fun a S => s_gF S (b := true) rfl rfl rfl rfl fun a S => s_pick S (b := true) (hc_of rfl rfl) rfl rfl fun a S => s_nilchk S rfl rfl fun a S => s_fieldAddr S rfl I90_1 T4 (by decide) rfl rfl fun a S => s_store S rfl rfl rfl (s' := [.one (.string y2), .b true]) .h T4 rfl rfl fun w S => c_end' (x_thenN ?_)
   exact j2 _ true a w (S.sub ⟨rfl, trivial⟩ (.c0 .n)) h1
  ·refine s_gT S (b := y3) rfl rfl c1 (s_move S rfl rfl fun a S => s_gT S (b := y3) rfl rfl c1 (s_bin S rfl rfl rfl rfl fun a S => s_pick S (b := false) (hc_of rfl c1) rfl rfl fun a S => s_move S rfl rfl fun a S => ?_))
   rcases ite_of h1 with ⟨c2, h2⟩ | ⟨c2, h2⟩
   ·refine s_gF S (b := (decide (y1 < 1))) rfl rfl c2 rfl fun a S => s_gF S (b := (decide (y1 < 1))) rfl rfl c2 rfl fun a S => s_pick S (b := true) (hc_of rfl c2) rfl rfl fun a S => s_nilchk S rfl rfl fun a S => s_fieldAddr S rfl I90_1 T4 (by decide) rfl rfl fun a S => s_store S rfl rfl rfl (s' := [.one (.string y2), .b true]) .h T4 rfl rfl fun w S => c_end' (x_thenN ?_)
    exact j2 _ true a w (S.sub ⟨rfl, trivial⟩ (.c0 .n)) h2
   ·refine s_gT S (b := (decide (y1 < 1))) rfl rfl c2 (s_move S rfl rfl fun a S => s_gT S (b := (decide (y1 < 1))) rfl rfl c2 (s_bin S rfl rfl rfl rfl fun a S => s_pick S (b := false) (hc_of rfl c2) rfl rfl fun a S => s_nilchk S rfl rfl fun a S => s_fieldAddr S rfl I90_1 T4 (by decide) rfl rfl fun a S => s_store S rfl rfl rfl (s' := [.one (.string y2), .b (decide (64 < y1))]) .h T4 rfl rfl fun w S => c_end' (x_thenN ?_)))
    exact j2 _ (decide (64 < y1)) a w (S.sub ⟨rfl, trivial⟩ (.c0 .n)) h2
 refine wp_block ?_
 refine c_loop (fun q1 a w => ∃ m y13 y14 y15, St 77 m b0 [(3, (.i y13)), (0, (.p ch_0_0))] [Res.cells ch_0_0 90 [.one (.string y14), .b y15]] a w ∧ fb8_.l1 q1 y13 y14 y15 = some r) ?_ ?_ (k := k) ⟨_, 0, x1.1, x1.2, (S.sb rfl (.c0 .n)), h0⟩
 ·rintro a w ⟨m, y13, y14, y15, S, h0⟩
  exact (nomatch (show (none : Option (Int × (ByteArray × Bool))) = some r from h0))
 ·clear S h0
  rintro q1 a w ⟨m, y13, y14, y15, S, h0⟩
  replace h0 : fb8_.b1 (fb8_.l1 q1) y13 y14 y15 = some r := h0
  delta fb8_.b1 at h0
  refine wp_seq (wp_seq_k fun K3 hK3 => ?_)
  have j3 : ∀ m y16 a w, St 77 m b0 [(29, (.b y16)), (3, (.i y13)), (0, (.p ch_0_0))] [Res.cells ch_0_0 90 [.one (.string y14), .b y15]] a w → fb8_.j3 y13 y14 y15 (fb8_.l1 q1) y16 = some r → K3 a w := by
   intro m y16 a w S h0
   delta fb8_.j3 at h0
   refine hK3 a w ?_
   rcases ite_of h0 with ⟨c3, h1⟩ | ⟨c3, h1⟩
   ·refine c_condT S rfl c3 (wp_skip (x_thenN (wp_block (wp_seq_k fun K4 hK4 => ?_))))
    have j4 : ∀ m y18 a w, St 77 m b0 [(3, (.i y13)), (0, (.p ch_0_0))] [Res.cells ch_0_0 90 [.one (.string y14), .b y18]] a w → fb8_.j4 y13 y14 (fb8_.l1 q1) y18 = some r → K4 a w := by
     intro m y18 a w S h0
     delta fb8_.j4 at h0
     refine hK4 a w (c_region (s_move S rfl rfl fun a S => s_bin S rfl rfl rfl rfl fun a S => s_move S rfl rfl fun a S => s_nilchk S rfl rfl fun a S => s_fieldAddr S rfl I90_0 T9 (by decide) rfl rfl fun a S => s_load1 S rfl .h T9 (v := (.string y14)) rfl rfl fun a S => ?_))
     obtain ⟨c4, h1⟩ := chk_of h0; clear h0
     refine s_indexT S rfl rfl underlying9 c4.1 c4.2 rfl fun a S => s_bin S rfl rfl rfl rfl fun a S => s_conv S rfl rfl underlying3 rfl fun a S => s_bin S rfl rfl rfl rfl fun a S => s_assign S rfl rfl fun a S => c_end (c_region' (s_move S rfl rfl fun a S => s_move S rfl rfl fun a S => s_nilchk S rfl rfl fun a S => s_fieldAddr S rfl I90_0 T9 (by decide) rfl rfl fun a S => s_load1 S rfl .h T9 (v := (.string y14)) rfl rfl fun a S => ?_))
     obtain ⟨c5, h2⟩ := chk_of h1; clear h1
     refine s_cutT S (i := 1) (j := (y14.size : Int)) rfl underlying9 (.inr ⟨_, _, rfl, rfl⟩) (.inl ⟨rfl, rfl⟩) c5 rfl fun a S => s_nilchk S rfl rfl fun a S => s_fieldAddr S rfl I90_0 T9 (by decide) rfl rfl fun a S => s_store S rfl rfl rfl (s' := [.one (.string (bcut y14 1 (y14.size : Int))), .b y18]) .h T9 rfl rfl fun w S => c_end' (x_blockN (x_thenN ?_))
     exact ⟨_, (wr .i64 ((wr .i64 (10 * y13)) + (wr .i64 (wr .u8 ((bt y14 0) - 48))))), (bcut y14 1 (y14.size : Int)), y18, (S.sb rfl (.c0 .n)), h2⟩
    refine wp_seq_k fun K5 hK5 => ?_
    have j5 : ∀ m y19 a w, St 77 m b0 [(39, (.b y19)), (3, (.i y13)), (0, (.p ch_0_0))] [Res.cells ch_0_0 90 [.one (.string y14), .b y15]] a w → fb8_.j5 y13 y14 y15 (fb8_.l1 q1) y19 = some r → K5 a w := by
     intro m y19 a w S h0
     delta fb8_.j5 at h0
     refine hK5 a w ?_
     rcases ite_of h0 with ⟨c6, h1⟩ | ⟨c6, h1⟩
     ·refine c_condT S rfl c6 (c_region' (s_move S rfl rfl fun a S => s_nilchk S rfl rfl fun a S => s_fieldAddr S rfl I90_1 T4 (by decide) rfl rfl fun a S => s_store S rfl rfl rfl (s' := [.one (.string y14), .b true]) .h T4 rfl rfl fun w S => c_end' (x_thenN ?_)))
      exact j4 _ true a w (S.sb rfl (.c0 .n)) h1
     ·refine c_condF S rfl c6 (wp_skip (x_thenN ?_))
      exact j4 _ y15 a w (S.sb rfl (.c0 .n)) h1
    refine c_region' (s_move S rfl rfl fun a S => s_bin S rfl rfl rfl rfl fun a S => s_move S rfl rfl fun a S => ?_)
    rcases ite_of h1 with ⟨c7, h2⟩ | ⟨c7, h2⟩
    ·refine s_gT S (b := (y13 == 0)) rfl rfl c7 (s_move S rfl rfl fun a S => s_gT S (b := (y13 == 0)) rfl rfl c7 (s_nilchk S rfl rfl fun a S => s_gT S (b := (y13 == 0)) rfl rfl c7 (s_fieldAddr S rfl I90_0 T9 (by decide) rfl rfl fun a S => s_gT S (b := (y13 == 0)) rfl rfl c7 (s_load1 S rfl .h T9 (v := (.string y14)) rfl rfl fun a S => s_gT S (b := (y13 == 0)) rfl rfl c7 ?_))))
     obtain ⟨c8, h3⟩ := chk_of h2; clear h2
     refine s_indexT S rfl rfl underlying9 c8.1 c8.2 rfl fun a S => s_gT S (b := (y13 == 0)) rfl rfl c7 (s_bin S rfl rfl rfl rfl fun a S => s_pick S (b := true) (hc_of rfl c7) rfl rfl fun a S => c_end' (x_thenN ?_))
     exact j5 _ ((bt y14 0) == 48) a w (S.sb rfl (.c0 .n)) h3
    ·refine s_gF S (b := (y13 == 0)) rfl rfl c7 rfl fun a S => s_gF S (b := (y13 == 0)) rfl rfl c7 rfl fun a S => s_gF S (b := (y13 == 0)) rfl rfl c7 rfl fun a S => s_gF S (b := (y13 == 0)) rfl rfl c7 rfl fun a S => s_gF S (b := (y13 == 0)) rfl rfl c7 rfl fun a S => s_gF S (b := (y13 == 0)) rfl rfl c7 rfl fun a S => s_pick S (b := false) (hc_of rfl c7) rfl rfl fun a S => c_end' (x_thenN ?_)
     exact j5 _ false a w (S.sb rfl (.c0 .n)) h2
   ·refine c_condF S rfl c3 (wp_exit (x_thenX (x_thenX (x_blockX (x_thenN ?_)))))
    exact j1 _ y13 y14 y15 a w (S.sb rfl (.c0 .n)) h1
  refine c_region' (s_move S rfl rfl fun a S => s_nilchk S rfl rfl fun a S => s_fieldAddr S rfl I90_0 T9 (by decide) rfl rfl fun a S => s_load1 S rfl .h T9 (v := (.string y14)) rfl rfl fun a S => s_lenT S rfl underlying9 rfl fun a S => s_bin S rfl rfl rfl rfl fun a S => s_move S rfl rfl fun a S => ?_)
  rcases ite_of h0 with ⟨c9, h1⟩ | ⟨c9, h1⟩
  ·refine s_gT S (b := (decide (0 < (y14.size : Int)))) rfl rfl c9 (s_move S rfl rfl fun a S => s_gT S (b := (decide (0 < (y14.size : Int)))) rfl rfl c9 (s_nilchk S rfl rfl fun a S => s_gT S (b := (decide (0 < (y14.size : Int)))) rfl rfl c9 (s_fieldAddr S rfl I90_0 T9 (by decide) rfl rfl fun a S => s_gT S (b := (decide (0 < (y14.size : Int)))) rfl rfl c9 (s_load1 S rfl .h T9 (v := (.string y14)) rfl rfl fun a S => s_gT S (b := (decide (0 < (y14.size : Int)))) rfl rfl c9 ?_))))
   obtain ⟨c10, h2⟩ := chk_of h1; clear h1
   refine s_indexT S rfl rfl underlying9 c10.1 c10.2 rfl fun a S => s_gT S (b := (decide (0 < (y14.size : Int)))) rfl rfl c9 (s_bin S rfl rfl rfl rfl fun a S => s_pick S (b := true) (hc_of rfl c9) rfl rfl fun a S => s_move S rfl rfl fun a S => ?_)
   rcases ite_of h2 with ⟨c11, h3⟩ | ⟨c11, h3⟩
   ·refine s_gT S (b := (decide (48 ≤ (bt y14 0)))) rfl rfl c11 (s_move S rfl rfl fun a S => s_gT S (b := (decide (48 ≤ (bt y14 0)))) rfl rfl c11 (s_nilchk S rfl rfl fun a S => s_gT S (b := (decide (48 ≤ (bt y14 0)))) rfl rfl c11 (s_fieldAddr S rfl I90_0 T9 (by decide) rfl rfl fun a S => s_gT S (b := (decide (48 ≤ (bt y14 0)))) rfl rfl c11 (s_load1 S rfl .h T9 (v := (.string y14)) rfl rfl fun a S => s_gT S (b := (decide (48 ≤ (bt y14 0)))) rfl rfl c11 (s_indexT S rfl rfl underlying9 c10.1 c10.2 rfl fun a S => s_gT S (b := (decide (48 ≤ (bt y14 0)))) rfl rfl c11 (s_bin S rfl rfl rfl rfl fun a S => s_pick S (b := true) (hc_of rfl c11) rfl rfl fun a S => s_move S rfl rfl fun a S => ?_))))))
    rcases ite_of h3 with ⟨c12, h4⟩ | ⟨c12, h4⟩
    ·refine s_gT S (b := (decide ((bt y14 0) ≤ 57))) rfl rfl c12 (s_move S rfl rfl fun a S => s_gT S (b := (decide ((bt y14 0) ≤ 57))) rfl rfl c12 (s_bin S rfl rfl rfl rfl fun a S => s_pick S (b := true) (hc_of rfl c12) rfl rfl fun a S => c_end' (x_thenN ?_)))
     exact j3 _ (decide (y13 ≤ 64)) a w (S.sb rfl (.c0 .n)) h4
    ·refine s_gF S (b := (decide ((bt y14 0) ≤ 57))) rfl rfl c12 rfl fun a S => s_gF S (b := (decide ((bt y14 0) ≤ 57))) rfl rfl c12 rfl fun a S => s_pick S (b := false) (hc_of rfl c12) rfl rfl fun a S => c_end' (x_thenN ?_)
     exact j3 _ false a w (S.sb rfl (.c0 .n)) h4
   ·refine s_gF S (b := (decide (48 ≤ (bt y14 0)))) rfl rfl c11 rfl fun a S => s_gF S (b := (decide (48 ≤ (bt y14 0)))) rfl rfl c11 rfl fun a S => s_gF S (b := (decide (48 ≤ (bt y14 0)))) rfl rfl c11 rfl fun a S => s_gF S (b := (decide (48 ≤ (bt y14 0)))) rfl rfl c11 rfl fun a S => s_gF S (b := (decide (48 ≤ (bt y14 0)))) rfl rfl c11 rfl fun a S => s_gF S (b := (decide (48 ≤ (bt y14 0)))) rfl rfl c11 rfl fun a S => s_pick S (b := false) (hc_of rfl c11) rfl rfl fun a S => s_move S rfl rfl fun a S => s_gF S (b := false) rfl rfl rfl rfl fun a S => s_gF S (b := false) rfl rfl rfl rfl fun a S => s_pick S (b := false) (hc_of rfl rfl) rfl rfl fun a S => c_end' (x_thenN ?_)
    exact j3 _ false a w (S.sb rfl (.c0 .n)) h3
  ·refine s_gF S (b := (decide (0 < (y14.size : Int)))) rfl rfl c9 rfl fun a S => s_gF S (b := (decide (0 < (y14.size : Int)))) rfl rfl c9 rfl fun a S => s_gF S (b := (decide (0 < (y14.size : Int)))) rfl rfl c9 rfl fun a S => s_gF S (b := (decide (0 < (y14.size : Int)))) rfl rfl c9 rfl fun a S => s_gF S (b := (decide (0 < (y14.size : Int)))) rfl rfl c9 rfl fun a S => s_gF S (b := (decide (0 < (y14.size : Int)))) rfl rfl c9 rfl fun a S => s_pick S (b := false) (hc_of rfl c9) rfl rfl fun a S => s_move S rfl rfl fun a S => s_gF S (b := false) rfl rfl rfl rfl fun a S => s_gF S (b := false) rfl rfl rfl rfl fun a S => s_gF S (b := false) rfl rfl rfl rfl fun a S => s_gF S (b := false) rfl rfl rfl rfl fun a S => s_gF S (b := false) rfl rfl rfl rfl fun a S => s_gF S (b := false) rfl rfl rfl rfl fun a S => s_pick S (b := false) (hc_of rfl rfl) rfl rfl fun a S => s_move S rfl rfl fun a S => s_gF S (b := false) rfl rfl rfl rfl fun a S => s_gF S (b := false) rfl rfl rfl rfl fun a S => s_pick S (b := false) (hc_of rfl rfl) rfl rfl fun a S => c_end' (x_thenN ?_)
   exact j3 _ false a w (S.sb rfl (.c0 .n)) h1
abbrev fg2_.Ty : Type := PT61 → Option Int
def fg2_.Ctr (s : fg2_.Ty) : Prop := ∀ (x1 : PT61) (ch_0_0 : Option Addr) (r : Int), Ct (C := Unit) Tryd.prog 42 (s x1 = some r) [] [(.rf (.pointer ch_0_0) (PR61 ch_0_0 x1))] (fun _ => (.i r)) fun _ => []
def fg2_.j2 (y2 : Int) : Option Int := some y2
def fg2_.j1 (x1 : PT61) (y1 : Int) : Option Int := if PT61.nn x1 = true then (if (decide (4 ≤ ((PT61.to x1).1))) = true then (fg2_.j2 (wr .i64 (y1 + 1))) else (fg2_.j2 y1)) else none
def fg2_.b1 (self0 : fg2_.Ty) (x1 : PT61) (rec1 : Int → Int → Option Int) (y5 : Int) (y6 : Int) : Option Int := if (decide (y5 < (((PT61.to x1).2.2).length : Int))) = true then (if (0 : Int) ≤ y5 ∧ y5 < (((PT61.to x1).2.2).length : Int) then ((self0 (gt ((PT61.to x1).2.2) y5)).bind fun t1 => (rec1 (wr .i64 (y5 + 1)) (imax y6 t1))) else none) else (fg2_.j1 x1 y6)
def fg2_.l1 (self0 : fg2_.Ty) (x1 : PT61) : Nat → Int → Int → Option Int
  | 0, _, _ => none
  | q + 1, y5, y6 => fg2_.b1 self0 x1 (fg2_.l1 self0 x1 q) y5 y6
def fg2_.body (self0 : fg2_.Ty) (k : Nat) (x1 : PT61) : Option Int := if PT61.nn x1 = true then (fg2_.l1 self0 x1 k 0 0) else none
theorem fg2_.okb (self0 : fg2_.Ty) (c_0 : fg2_.Ctr self0) (k : Nat) : fg2_.Ctr (fg2_.body self0 k) := by
 intro x1 ch_0_0 r h0 mi w0 ok hm
 delta fg2_.body at h0
 refine c_enterZ (n := 28) ok hm func42 rfl rfl rfl fun b0 hb a S => c_region (s_assign S rfl rfl fun a S => c_end (c_region (s_assign S rfl rfl fun a S => c_end (wp_seq_k fun K1 hK1 => ?_))))
 have j1 : ∀ m y1 a w, St 28 m b0 [(3, (.i y1)), (0, (.rf (.pointer ch_0_0) (PR61 ch_0_0 x1)))] [] a w → fg2_.j1 x1 y1 = some r → K1 a w := by
  intro m y1 a w S h0
  delta fg2_.j1 at h0
  refine hK1 a w (wp_seq_k fun K2 hK2 => ?_)
  have j2 : ∀ m y2 a w, St 28 m b0 [(3, (.i y2))] [] a w → fg2_.j2 y2 = some r → K2 a w := by
   intro m y2 a w S h0
   delta fg2_.j2 at h0
   refine hK2 a w (c_region (s_move S rfl rfl fun a S => s_assign S rfl rfl fun a S => c_end (wp_ret ?_)))
   obtain rfl := Option.some.inj h0
   exact b_ret1 (d := (.i y2)) S rfl rfl (S.rt hb)
  refine c_region (s_move S rfl rfl fun a S => ?_)
  obtain ⟨c1, h1⟩ := chk_of h0; clear h0
  refine s_nilQ S rfl PH61 c1 rfl fun a S => s_faddrP S (tF := yb) (y := (PT61.to x1).1) rfl I67_0 T64 (by decide) (fun m h => (at_fst (at_0 h))) rfl fun a S => s_ld1 S (v := (.int .u8 ((PT61.to x1).1))) rfl T64 (fun _ => rfl) rfl fun a S => s_bin S rfl rfl rfl rfl fun a S => c_end ?_
  rcases ite_of h1 with ⟨c2, h2⟩ | ⟨c2, h2⟩
  ·refine c_condT S rfl c2 (c_region' (s_move S rfl rfl fun a S => s_bin S rfl rfl rfl rfl fun a S => s_assign S rfl rfl fun a S => c_end' (x_thenN ?_)))
   exact j2 _ (wr .i64 (y1 + 1)) a w (S.sub ⟨rfl, trivial⟩ .nil) h2
  ·refine c_condF S rfl c2 (wp_skip (x_thenN ?_))
   exact j2 _ y1 a w (S.sub ⟨rfl, trivial⟩ .nil) h2
 refine c_region (s_move S rfl rfl fun a S => ?_)
 obtain ⟨c3, h1⟩ := chk_of h0; clear h0
 refine s_nilQ S rfl PH61 c3 rfl fun a S => s_faddrP S (tF := (Ty.slice PY61)) (y := (PT61.to x1).2.2) rfl I67_2 T65 (by decide) (fun m h => (at_snd (at_snd (at_0 h)))) rfl fun a S => s_ldS S (fun c => c) rfl T65 (fun _ => rfl) rfl fun A1 cp1 a S => s_lenS S rfl underlying65 rfl fun a S => s_move S rfl rfl fun a S => c_end (wp_block ?_)
 refine c_loop (fun q1 a w => ∃ m y5 A2 cp4 y6, St 28 m b0 [(11, (.i y5)), (10, (.i (((PT61.to x1).2.2).length : Int))), (9, (.q PY61 A2 cp4 ((PT61.to x1).2.2))), (3, (.i y6)), (0, (.rf (.pointer ch_0_0) (PR61 ch_0_0 x1)))] [] a w ∧ fg2_.l1 self0 x1 q1 y5 y6 = some r) ?_ ?_ (k := k) ⟨_, 0, A1, cp1, 0, (S.sb rfl .nil), h1⟩
 ·rintro a w ⟨m, y5, A2, cp4, y6, S, h0⟩
  exact (nomatch (show (none : Option Int) = some r from h0))
 ·clear S h1
  rintro q1 a w ⟨m, y5, A2, cp4, y6, S, h0⟩
  replace h0 : fg2_.b1 self0 x1 (fg2_.l1 self0 x1 q1) y5 y6 = some r := h0
  delta fg2_.b1 at h0
  refine c_region (s_bin S rfl rfl rfl rfl fun a S => c_end (wp_seq ?_))
  rcases ite_of h0 with ⟨c4, h1⟩ | ⟨c4, h1⟩
  ·refine c_condT S rfl c4 (wp_skip (x_thenN (wp_seq (wp_block (c_region ?_)))))
   obtain ⟨c5, h2⟩ := chk_of h1; clear h1
   refine s_iaddrS S rfl rfl rfl underlying65 T61 c5.1 c5.2 rfl fun p1 a S => s_ldF S (fun c => .pointer c) (fun c => PR61 c (gt ((PT61.to x1).2.2) y5)) rfl T61 (fun _ => rfl) rfl fun ch1 a S => s_assign S rfl rfl fun a S => c_end (c_region' (s_move S rfl rfl fun a S => s_move S rfl rfl fun a S => bindX h2 fun t1 et1 h3 => s_callP S _ N42 rfl rfl (c_0 (gt ((PT61.to x1).2.2) y5) ch1 t1 et1 _ _) fun ch2 m le1 a w S => s_max2 S rfl rfl rfl fun a S => s_assign S rfl rfl fun a S => c_end' (x_blockN (x_thenN (c_region' (s_bin S rfl rfl rfl rfl fun a S => s_move S rfl rfl fun a S => c_end' (x_thenN ?_)))))))
   exact ⟨_, (wr .i64 (y5 + 1)), A2, cp4, (imax y6 t1), (S.sb rfl .nil), h3⟩
  ·refine c_condF S rfl c4 (wp_exit (x_thenX (x_thenX (x_blockX (x_thenN ?_)))))
   exact j1 _ y6 a w (S.sb rfl .nil) h1
def fg2_.f : Nat → fg2_.Ty
  | 0 => fun _ => none
  | k + 1 => fg2_.body (fg2_.f k) k
theorem fg2_.oks : ∀ k : Nat, fg2_.Ctr (fg2_.f k)
  | 0 => fun _ _ r h0 => (nomatch (show (none : Option Int) = some r from h0))
  | k + 1 => by
    have ih := fg2_.oks k
    exact fg2_.okb (fg2_.f k) ih k
theorem fg2_.ok (k : Nat) : fg2_.Ctr (fg2_.f k) := (fg2_.oks k)
abbrev fd6_.Ty : Type := (ByteArray × Bool) → Int → Option (PT61 × (ByteArray × Bool))
def fd6_.Ctr (s : fd6_.Ty) : Prop := ∀ (x1 : ByteArray × Bool) (x2 : Int) (ch_0_0 : Nat) (r : PT61 × (ByteArray × Bool)), Ct (C := ((Option Addr))) Tryd.prog 41 (s x1 x2 = some r) [Res.cells ch_0_0 90 [.one (.string x1.1), .b x1.2]] [(.p ch_0_0), (.i x2)] (fun ch => (.rf (.pointer ch) (PR61 ch r.1))) fun _ => [Res.cells ch_0_0 90 [.one (.string r.2.1), .b r.2.2]]
abbrev fc8_.Ty : Type := (ByteArray × Bool) → Int → Option (PT61 × (ByteArray × Bool))
def fc8_.Ctr (s : fc8_.Ty) : Prop := ∀ (x1 : ByteArray × Bool) (x2 : Int) (ch_0_0 : Nat) (r : PT61 × (ByteArray × Bool)), Ct (C := ((Option Addr))) Tryd.prog 81 (s x1 x2 = some r) [Res.cells ch_0_0 90 [.one (.string x1.1), .b x1.2]] [(.p ch_0_0), (.i x2)] (fun ch => (.rf (.pointer ch) (PR61 ch r.1))) fun _ => [Res.cells ch_0_0 90 [.one (.string r.2.1), .b r.2.2]]
abbrev fe2_.Ty : Type := (ByteArray × Bool) → Int → Option (PT61 × (ByteArray × Bool))
def fe2_.Ctr (s : fe2_.Ty) : Prop := ∀ (x1 : ByteArray × Bool) (x2 : Int) (ch_0_0 : Nat) (r : PT61 × (ByteArray × Bool)), Ct (C := ((Option Addr))) Tryd.prog 66 (s x1 x2 = some r) [Res.cells ch_0_0 90 [.one (.string x1.1), .b x1.2]] [(.p ch_0_0), (.i x2)] (fun ch => (.rf (.pointer ch) (PR61 ch r.1))) fun _ => [Res.cells ch_0_0 90 [.one (.string r.2.1), .b r.2.2]]
def fd6_.j1 (y1 : PT61) (y2 : ByteArray) (y3 : Bool) : Option (PT61 × (ByteArray × Bool)) := some (y1, (y2, y3))
def fd6_.j3 (k : Nat) (x2 : Int) (y19 : PT61) (rec1 : PT61 → ByteArray → Bool → Option (PT61 × (ByteArray × Bool))) (y24 : ByteArray) (y25 : Bool) (y26 : Int) (y27 : Int) : Option (PT61 × (ByteArray × Bool)) := if y25 = true then (rec1 (PT61.mk (y26, y27, [y19])) y24 true) else ((fg2_.f k (PT61.mk (y26, y27, [y19]))).bind fun t16 => (rec1 (PT61.mk (y26, y27, [y19])) y24 (decide (16 < (wr .i64 (x2 + t16))))))
def fd6_.j2 (k : Nat) (x2 : Int) (y19 : PT61) (y21 : Bool) (rec1 : PT61 → ByteArray → Bool → Option (PT61 × (ByteArray × Bool))) (y22 : Bool) (y23 : ByteArray) : Option (PT61 × (ByteArray × Bool)) := if y22 = true then ((fd9_.f (y23, y21) txt9).bind fun t17 => (if t17.1 = true then (fd6_.j3 k x2 y19 rec1 t17.2.1 y21 4 0) else ((fb8_.f k (t17.2.1, y21)).bind fun t18 => (if t18.2.2 = true then (fd6_.j3 k x2 y19 rec1 t18.2.1 true 5 t18.1) else ((fd9_.f t18.2 txt9).bind fun t19 => (fd6_.j3 k x2 y19 rec1 t19.2.1 (!t19.1) 5 t18.1)))))) else (fd6_.j1 y19 y23 y21)
def fd6_.b1 (k : Nat) (x2 : Int) (rec1 : PT61 → ByteArray → Bool → Option (PT61 × (ByteArray × Bool))) (y19 : PT61) (y20 : ByteArray) (y21 : Bool) : Option (PT61 × (ByteArray × Bool)) := if (!y21) = true then ((fd9_.f (y20, y21) txt8).bind fun t20 => (fd6_.j2 k x2 y19 y21 rec1 t20.1 t20.2.1)) else (fd6_.j2 k x2 y19 y21 rec1 false y20)
def fd6_.l1 (k : Nat) (x2 : Int) : Nat → PT61 → ByteArray → Bool → Option (PT61 × (ByteArray × Bool))
  | 0, _, _, _ => none
  | q + 1, y19, y20, y21 => fd6_.b1 k x2 (fd6_.l1 k x2 q) y19 y20 y21
def fd6_.body (self0 : fd6_.Ty) (self1 : fc8_.Ty) (self2 : fe2_.Ty) (k : Nat) (x1 : ByteArray × Bool) (x2 : Int) : Option (PT61 × (ByteArray × Bool)) := (self2 x1 x2).bind fun t1 => (fd6_.l1 k x2 k t1.1 t1.2.1 t1.2.2)
theorem fd6_.okb (self0 : fd6_.Ty) (self1 : fc8_.Ty) (self2 : fe2_.Ty) (c_0 : fd6_.Ctr self0) (c_1 : fc8_.Ctr self1) (c_2 : fe2_.Ctr self2) (k : Nat) : fd6_.Ctr (fd6_.body self0 self1 self2 k) := by
 intro x1 x2 ch_0_0 r h0 mi w0 ok hm
 delta fd6_.body at h0
 refine c_enterZ (n := 57) ok hm func41 rfl rfl rfl fun b0 hb a S => c_region (s_assign S rfl rfl fun a S => c_end (c_region (s_move S rfl rfl fun a S => s_move S rfl rfl fun a S => bindX h0 fun t1 et1 h1 => s_callX S (ds' := [(.p ch_0_0), (.i x2)]) (ds := [(.p ch_0_0), (.i x2)]) [Res.cells ch_0_0 90 [.one (.string x1.1), .b x1.2]] [] (fun (ch : (Option Addr)) => ((.rf (.pointer ch) (PR61 ch t1.1)) : D)) (fun (ch : (Option Addr)) => [Res.cells ch_0_0 90 [.one (.string t1.2.1), .b t1.2.2]]) (fun (ch : (Option Addr)) => [Res.cells ch_0_0 90 [.one (.string t1.2.1), .b t1.2.2]]) (fun _ => rfl) N66 rfl rfl (fun ok => ok) (.c0 .n) rfl (c_2 x1 x2 ch_0_0 t1 et1 _ _) fun ch1 m le1 a w S => s_assign S rfl rfl fun a S => c_end (wp_seq_k fun K1 hK1 => ?_))))
 have j1 : ∀ m cq1 y1 y2 y3 a w, St 57 m b0 [(5, (.rf (.pointer cq1) (PR61 cq1 y1)))] [Res.cells ch_0_0 90 [.one (.string y2), .b y3]] a w → fd6_.j1 y1 y2 y3 = some r → K1 a w := by
  intro m cq1 y1 y2 y3 a w S h0
  delta fd6_.j1 at h0
  refine hK1 a w (c_region (s_move S rfl rfl fun a S => s_assign S rfl rfl fun a S => c_end (wp_ret ?_)))
  obtain rfl := Option.some.inj h0
  exact b_ret1 (d := (.rf (.pointer cq1) (PR61 cq1 y1))) S rfl rfl fun ok => S.retX (Hx := []) hb _ _ (cq1 : (Option Addr)) (.c0 .n) ok
 refine wp_block ?_
 refine c_loop (fun q1 a w => ∃ m cq2 y19 y20 y21, St 57 m b0 [(5, (.rf (.pointer cq2) (PR61 cq2 y19))), (0, (.p ch_0_0)), (1, (.i x2))] [Res.cells ch_0_0 90 [.one (.string y20), .b y21]] a w ∧ fd6_.l1 k x2 q1 y19 y20 y21 = some r) ?_ ?_ (k := k) ⟨_, ch1, t1.1, t1.2.1, t1.2.2, (S.sb rfl (.c0 .n)), h1⟩
 ·rintro a w ⟨m, cq2, y19, y20, y21, S, h0⟩
  exact (nomatch (show (none : Option (PT61 × (ByteArray × Bool))) = some r from h0))
 ·clear S h1
  rintro q1 a w ⟨m, cq2, y19, y20, y21, S, h0⟩
  replace h0 : fd6_.b1 k x2 (fd6_.l1 k x2 q1) y19 y20 y21 = some r := h0
  delta fd6_.b1 at h0
  refine wp_seq (wp_seq_k fun K2 hK2 => ?_)
  have j2 : ∀ m y22 y23 a w, St 57 m b0 [(17, (.b y22)), (5, (.rf (.pointer cq2) (PR61 cq2 y19))), (0, (.p ch_0_0)), (1, (.i x2))] [Res.cells ch_0_0 90 [.one (.string y23), .b y21]] a w → fd6_.j2 k x2 y19 y21 (fd6_.l1 k x2 q1) y22 y23 = some r → K2 a w := by
   intro m y22 y23 a w S h0
   delta fd6_.j2 at h0
   refine hK2 a w ?_
   rcases ite_of h0 with ⟨c1, h1⟩ | ⟨c1, h1⟩
   ·refine c_condT S rfl c1 (wp_skip (x_thenN (wp_block (wp_seq_k fun K3 hK3 => ?_))))
    have j3 : ∀ m g1 y24 y25 y26 y27 A1 a w, St 57 m b0 [(5, (.p g1)), (0, (.p ch_0_0)), (1, (.i x2))] [Res.cells g1 67 [.one (.int .u8 y26), .i y27, .s A1 1 1], Res.row PY61 61 A1 1 1 [y19], Res.cells ch_0_0 90 [.one (.string y24), .b y25]] a w → fd6_.j3 k x2 y19 (fd6_.l1 k x2 q1) y24 y25 y26 y27 = some r → K3 a w := by
     intro m g1 y24 y25 y26 y27 A1 a w S h0
     delta fd6_.j3 at h0
     refine hK3 a w (c_region' (s_move S rfl rfl fun a S => s_move S rfl rfl fun a S => s_nilchk S rfl rfl fun a S => s_fieldAddr S rfl I90_1 T4 (by decide) rfl rfl fun a S => s_load1 S rfl .h2 T4 (v := (.bool y25)) rfl rfl fun a S => s_move S rfl rfl fun a S => ?_))
     rcases ite_of h0 with ⟨c2, h1⟩ | ⟨c2, h1⟩
     ·refine s_gF S (b := y25) rfl rfl c2 rfl fun a S => s_gF S (b := y25) rfl rfl c2 rfl fun a S => s_gF S (b := y25) rfl rfl c2 rfl fun a S => s_gF S (b := y25) rfl rfl c2 rfl fun a S => s_gF S (b := y25) rfl rfl c2 rfl fun a S => s_pick S (b := true) (hc_of rfl c2) rfl rfl fun a S => s_nilchk S rfl rfl fun a S => s_fieldAddr S rfl I90_1 T4 (by decide) rfl rfl fun a S => s_store S rfl rfl rfl (s' := [.one (.string y24), .b true]) .h2 T4 rfl rfl fun w S => c_end' (x_blockN (x_thenN ?_))
      replace S := S.rowfro .h1
      obtain ⟨m, le1, S, hro⟩ := S
      replace S := S.cellro (s' := [.one (.int .u8 y26), .i y27, .q PY61 A1 1 [y19]]) .h (by simp [cellsOf, Seg.cells, hro.2.1]) (fun h => ⟨h.1, h.2.1, ⟨by have := hro.2.2.1; omega, hro.2.2.2, hro.1, RdS.mono _ _ _⟩, trivial⟩)
      replace S := S.freeze .h
      obtain ⟨m, le1, S⟩ := S
      replace S := S.slotQ (nn := PT61.nn) (to := PT61.to) (u := 5) (y := (PT61.mk (y26, y27, [y19]))) PH61 rfl ((), (), (A1, 1)) (Pull.mem .h).1 rfl rfl
      exact ⟨_, (ad g1), (PT61.mk (y26, y27, [y19])), y24, true, (S.sb rfl (.c1 .n)), h1⟩
     ·refine s_gT S (b := y25) rfl rfl c2 (s_move S rfl rfl fun a S => s_gT S (b := y25) rfl rfl c2 (s_move S rfl rfl fun a S => s_gT S (b := y25) rfl rfl c2 ?_))
      replace S := S.rowfro .h1
      obtain ⟨m, le1, S, hro⟩ := S
      replace S := S.cellro (s' := [.one (.int .u8 y26), .i y27, .q PY61 A1 1 [y19]]) .h (by simp [cellsOf, Seg.cells, hro.2.1]) (fun h => ⟨h.1, h.2.1, ⟨by have := hro.2.2.1; omega, hro.2.2.2, hro.1, RdS.mono _ _ _⟩, trivial⟩)
      replace S := S.freeze .h
      obtain ⟨m, le1, S⟩ := S
      replace S := S.slotQ (nn := PT61.nn) (to := PT61.to) (u := 49) (y := (PT61.mk (y26, y27, [y19]))) PH61 rfl ((), (), (A1, 1)) (Pull.mem .h).1 rfl rfl
      replace S := S.slotQ (nn := PT61.nn) (to := PT61.to) (u := 5) (y := (PT61.mk (y26, y27, [y19]))) PH61 rfl ((), (), (A1, 1)) (Pull.mem .h).1 rfl rfl
      refine bindX h1 fun t16 et16 h2 => s_callP S _ N42 rfl rfl (fg2_.ok k (PT61.mk (y26, y27, [y19])) (ad g1) t16 et16 _ _) fun ch2 m le1 a w S => s_gT S (b := y25) rfl rfl c2 (s_bin S rfl rfl rfl rfl fun a S => s_gT S (b := y25) rfl rfl c2 (s_bin S rfl rfl rfl rfl fun a S => s_pick S (b := false) (hc_of rfl c2) rfl rfl fun a S => s_nilchk S rfl rfl fun a S => s_fieldAddr S rfl I90_1 T4 (by decide) rfl rfl fun a S => s_store S rfl rfl rfl (s' := [.one (.string y24), .b (decide (16 < (wr .i64 (x2 + t16))))]) .h1 T4 rfl rfl fun w S => c_end' (x_blockN (x_thenN ?_))))
      exact ⟨_, (ad g1), (PT61.mk (y26, y27, [y19])), y24, (decide (16 < (wr .i64 (x2 + t16)))), (S.sb rfl (.c1 .n)), h2⟩
    refine c_region (s_move S rfl rfl fun a S => bindX h1 fun t17 et17 h2 => s_callX S (ds' := [(.p ch_0_0), (.v (.string txt9))]) (ds := [(.p ch_0_0), (.v (.string txt9))]) [Res.cells ch_0_0 90 [.one (.string y23), .b y21]] [] (fun (ch : Unit) => ((.b t17.1) : D)) (fun (ch : Unit) => [Res.cells ch_0_0 90 [.one (.string t17.2.1), .b y21]]) (fun (ch : Unit) => [Res.cells ch_0_0 90 [.one (.string t17.2.1), .b y21]]) (fun _ => rfl) N67 rfl rfl (fun ok => ok) (.c0 .n) rfl (fd9_.ok (y23, y21) txt9 ch_0_0 t17 et17 _ _) fun ch3 m le1 a w S => c_end ?_)
    rcases ite_of h2 with ⟨c3, h3⟩ | ⟨c3, h3⟩
    ·refine c_condT S rfl c3 (c_region' (s_move S rfl rfl fun a S => s_bldSl S (ty' := PY61) (ds := [(0, (.rf (.pointer cq2) (PR61 cq2 y19)))]) (z := PT61.nil) (c0 := none) (ys := [y19]) (cs := [cq2]) rfl underlying65 J61 Z61 rfl ⟨(okp_nil PH61 rfl), trivial⟩ rfl rfl rfl rfl rfl rfl fun g2 a w S => s_bldS S (ds := [(0, (.v (.int .u8 4))), (2, (.s (ad g2) 1 1))]) (zs := [.one (.int .u8 0), .i 0, .s none 0 0]) (s' := [.one (.int .u8 4), .i 0, .s (ad g2) 1 1]) rfl underlying67 P67 Z67 ⟨rfl, rfl, rfl, trivial⟩ rfl rfl fun a S => s_box S rfl rfl rfl fun g3 a w S => s_assign S rfl rfl fun a S => c_end' (x_thenN ?_)))
     exact j3 _ g3 t17.2.1 y21 4 0 (ad g2) a w (S.sb rfl (.c0 (.c0 (.c0 .n)))) h3
    ·refine c_condF S rfl c3 (c_region (s_move S rfl rfl fun a S => bindX h3 fun t18 et18 h4 => s_callX S (ds' := [(.p ch_0_0)]) (ds := [(.p ch_0_0)]) [Res.cells ch_0_0 90 [.one (.string t17.2.1), .b y21]] [] (fun (ch : Unit) => ((.i t18.1) : D)) (fun (ch : Unit) => [Res.cells ch_0_0 90 [.one (.string t18.2.1), .b t18.2.2]]) (fun (ch : Unit) => [Res.cells ch_0_0 90 [.one (.string t18.2.1), .b t18.2.2]]) (fun _ => rfl) N68 rfl rfl (fun ok => ok) (.c0 .n) rfl (fb8_.ok k (t17.2.1, y21) ch_0_0 t18 et18 _ _) fun ch4 m le1 a w S => s_move S rfl rfl fun a S => s_bldSl S (ty' := PY61) (ds := [(0, (.rf (.pointer cq2) (PR61 cq2 y19)))]) (z := PT61.nil) (c0 := none) (ys := [y19]) (cs := [cq2]) rfl underlying65 J61 Z61 rfl ⟨(okp_nil PH61 rfl), trivial⟩ rfl rfl rfl rfl rfl rfl fun g4 a w S => s_bldS S (ds := [(0, (.v (.int .u8 5))), (1, (.i t18.1)), (2, (.s (ad g4) 1 1))]) (zs := [.one (.int .u8 0), .i 0, .s none 0 0]) (s' := [.one (.int .u8 5), .i t18.1, .s (ad g4) 1 1]) rfl underlying67 P67 Z67 ⟨rfl, rfl, rfl, trivial⟩ rfl rfl fun a S => s_box S rfl rfl rfl fun g5 a w S => s_assign S rfl rfl fun a S => c_end (c_region' (s_move S rfl rfl fun a S => s_move S rfl rfl fun a S => s_nilchk S rfl rfl fun a S => s_fieldAddr S rfl I90_1 T4 (by decide) rfl rfl fun a S => s_load1 S rfl .h2 T4 (v := (.bool t18.2.2)) rfl rfl fun a S => s_move S rfl rfl fun a S => ?_))))
     rcases ite_of h4 with ⟨c4, h5⟩ | ⟨c4, h5⟩
     ·refine s_gF S (b := t18.2.2) rfl rfl c4 rfl fun a S => s_gF S (b := t18.2.2) rfl rfl c4 rfl fun a S => s_gF S (b := t18.2.2) rfl rfl c4 rfl fun a S => s_pick S (b := true) (hc_of rfl c4) rfl rfl fun a S => s_nilchk S rfl rfl fun a S => s_fieldAddr S rfl I90_1 T4 (by decide) rfl rfl fun a S => s_store S rfl rfl rfl (s' := [.one (.string t18.2.1), .b true]) .h2 T4 rfl rfl fun w S => c_end' (x_thenN ?_)
      exact j3 _ g5 t18.2.1 true 5 t18.1 (ad g4) a w (S.sb rfl (.c0 (.c0 (.c0 .n)))) h5
     ·refine s_gT S (b := t18.2.2) rfl rfl c4 (s_move S rfl rfl fun a S => s_gT S (b := t18.2.2) rfl rfl c4 (bindX h5 fun t19 et19 h6 => s_callX S (ds' := [(.p ch_0_0), (.v (.string txt9))]) (ds := [(.p ch_0_0), (.v (.string txt9))]) [Res.cells ch_0_0 90 [.one (.string t18.2.1), .b t18.2.2]] [Res.cells g5 67 [.one (.int .u8 5), .i t18.1, .s (ad g4) 1 1], Res.row PY61 61 (ad g4) 1 1 [y19]] (fun (ch : Unit) => ((.b t19.1) : D)) (fun (ch : Unit) => [Res.cells ch_0_0 90 [.one (.string t19.2.1), .b t18.2.2]]) (fun (ch : Unit) => [Res.cells ch_0_0 90 [.one (.string t19.2.1), .b t18.2.2], Res.cells g5 67 [.one (.int .u8 5), .i t18.1, .s (ad g4) 1 1], Res.row PY61 61 (ad g4) 1 1 [y19]]) (fun _ => rfl) N67 rfl rfl (fun ok => ok) (.c2 (.c0 (.c0 .n))) rfl (fd9_.ok t18.2 txt9 ch_0_0 t19 et19 _ _) fun ch5 m le1 a w S => s_gT S (b := t18.2.2) rfl rfl c4 (s_not S rfl rfl fun a S => s_pick S (b := false) (hc_of rfl c4) rfl rfl fun a S => s_nilchk S rfl rfl fun a S => s_fieldAddr S rfl I90_1 T4 (by decide) rfl rfl fun a S => s_store S rfl rfl rfl (s' := [.one (.string t19.2.1), .b (!t19.1)]) .h T4 rfl rfl fun w S => c_end' (x_thenN ?_))))
      exact j3 _ g5 t19.2.1 (!t19.1) 5 t18.1 (ad g4) a w (S.sb rfl (.c1 (.c1 (.c0 .n)))) h6
   ·refine c_condF S rfl c1 (wp_exit (x_thenX (x_thenX (x_blockX (x_thenN ?_)))))
    exact j1 _ cq2 y19 y23 y21 a w (S.sub ⟨rfl, trivial⟩ (.c0 .n)) h1
  refine c_region' (s_move S rfl rfl fun a S => s_nilchk S rfl rfl fun a S => s_fieldAddr S rfl I90_1 T4 (by decide) rfl rfl fun a S => s_load1 S rfl .h T4 (v := (.bool y21)) rfl rfl fun a S => s_not S rfl rfl fun a S => s_move S rfl rfl fun a S => ?_)
  rcases ite_of h0 with ⟨c5, h1⟩ | ⟨c5, h1⟩
  ·refine s_gT S (b := (!y21)) rfl rfl c5 (s_move S rfl rfl fun a S => s_gT S (b := (!y21)) rfl rfl c5 (bindX h1 fun t20 et20 h2 => s_callX S (ds' := [(.p ch_0_0), (.v (.string txt8))]) (ds := [(.p ch_0_0), (.v (.string txt8))]) [Res.cells ch_0_0 90 [.one (.string y20), .b y21]] [] (fun (ch : Unit) => ((.b t20.1) : D)) (fun (ch : Unit) => [Res.cells ch_0_0 90 [.one (.string t20.2.1), .b y21]]) (fun (ch : Unit) => [Res.cells ch_0_0 90 [.one (.string t20.2.1), .b y21]]) (fun _ => rfl) N67 rfl rfl (fun ok => ok) (.c0 .n) rfl (fd9_.ok (y20, y21) txt8 ch_0_0 t20 et20 _ _) fun ch6 m le1 a w S => s_pick S (b := true) (hc_of rfl c5) rfl rfl fun a S => c_end' (x_thenN ?_)))
   exact j2 _ t20.1 t20.2.1 a w (S.sb rfl (.c0 .n)) h2
  ·refine s_gF S (b := (!y21)) rfl rfl c5 rfl fun a S => s_gF S (b := (!y21)) rfl rfl c5 rfl fun a S => s_pick S (b := false) (hc_of rfl c5) rfl rfl fun a S => c_end' (x_thenN ?_)
   exact j2 _ false y20 a w (S.sb rfl (.c0 .n)) h1
def fc8_.j1 (t1 : Bool × (ByteArray × Unit)) (y1 : Bool) : Option (PT61 × (ByteArray × Bool)) := some ((PT61.mk (6, 0, ([] : List PT61))), (t1.2.1, y1))
def fc8_.j2 (y8 : ByteArray) (y9 : Bool) (y10 : List PT61) : Option (PT61 × (ByteArray × Bool)) := some ((PT61.mk (6, 0, y10)), (y8, y9))
def fc8_.b1 (self0 : fd6_.Ty) (x2 : Int) (rec1 : ByteArray → Bool → (List PT61) → Option (PT61 × (ByteArray × Bool))) (y14 : ByteArray) (y15 : Bool) (y16 : List PT61) : Option (PT61 × (ByteArray × Bool)) := if (!y15) = true then ((self0 (y14, y15) x2).bind fun t8 => (if ((y16).length + ([t8.1]).length) * 8 ≤ 140737488355328 then ((fd9_.f t8.2 txt7).bind fun t9 => (if t9.1 = true then (some ((PT61.mk (6, 0, y16 ++ [t8.1])), (t9.2.1, t8.2.2))) else (if t8.2.2 = true then (rec1 t9.2.1 true (y16 ++ [t8.1])) else ((fd9_.f (t9.2.1, t8.2.2) txt10).bind fun t10 => (rec1 t10.2.1 (!t10.1) (y16 ++ [t8.1])))))) else none)) else (fc8_.j2 y14 y15 y16)
def fc8_.l1 (self0 : fd6_.Ty) (x2 : Int) : Nat → ByteArray → Bool → (List PT61) → Option (PT61 × (ByteArray × Bool))
  | 0, _, _, _ => none
  | q + 1, y14, y15, y16 => fc8_.b1 self0 x2 (fc8_.l1 self0 x2 q) y14 y15 y16
def fc8_.body (self0 : fd6_.Ty) (self1 : fc8_.Ty) (self2 : fe2_.Ty) (k : Nat) (x1 : ByteArray × Bool) (x2 : Int) : Option (PT61 × (ByteArray × Bool)) := (fd9_.f x1 txt7).bind fun t1 => (if t1.1 = true then (if (decide (1 < x2)) = true then (fc8_.j1 t1 true) else (fc8_.j1 t1 (!(t1.2.1.toList == txt1.toList)))) else (fc8_.l1 self0 x2 k t1.2.1 x1.2 ([] : List PT61)))
theorem fc8_.okb (self0 : fd6_.Ty) (self1 : fc8_.Ty) (self2 : fe2_.Ty) (c_0 : fd6_.Ctr self0) (c_1 : fc8_.Ctr self1) (c_2 : fe2_.Ctr self2) (k : Nat) : fc8_.Ctr (fc8_.body self0 self1 self2 k) := by
 intro x1 x2 ch_0_0 r h0 mi w0 ok hm
 delta fc8_.body at h0
 refine c_enterZ (n := 56) ok hm func81 rfl rfl rfl fun b0 hb a S => c_region (s_assign S rfl rfl fun a S => c_end (c_region (s_bldS S (ds := [(0, (.v (.int .u8 6)))]) (zs := [.one (.int .u8 0), .i 0, .s none 0 0]) (s' := [.one (.int .u8 6), .i 0, .s none 0 0]) rfl underlying67 P67 Z67 ⟨rfl, rfl, rfl, trivial⟩ rfl rfl fun a S => s_box S rfl rfl rfl fun g1 a w S => s_assign S rfl rfl fun a S => c_end (wp_seq (c_region (s_move S rfl rfl fun a S => bindX h0 fun t1 et1 h1 => s_callX S (ds' := [(.p ch_0_0), (.v (.string txt7))]) (ds := [(.p ch_0_0), (.v (.string txt7))]) [Res.cells ch_0_0 90 [.one (.string x1.1), .b x1.2]] [Res.cells g1 67 [.one (.int .u8 6), .i 0, .s none 0 0]] (fun (ch : Unit) => ((.b t1.1) : D)) (fun (ch : Unit) => [Res.cells ch_0_0 90 [.one (.string t1.2.1), .b x1.2]]) (fun (ch : Unit) => [Res.cells ch_0_0 90 [.one (.string t1.2.1), .b x1.2], Res.cells g1 67 [.one (.int .u8 6), .i 0, .s none 0 0]]) (fun _ => rfl) N67 rfl rfl (fun ok => ok) (.c1 (.c0 .n)) rfl (fd9_.ok x1 txt7 ch_0_0 t1 et1 _ _) fun ch1 m le1 a w S => c_end ?_))))))
 rcases ite_of h1 with ⟨c1, h2⟩ | ⟨c1, h2⟩
 ·refine c_condT S rfl c1 (wp_seq_k fun K1 hK1 => ?_)
  have j1 : ∀ m g2 y1 a w, St 56 m b0 [(5, (.p g2))] [Res.cells ch_0_0 90 [.one (.string t1.2.1), .b y1], Res.cells g2 67 [.one (.int .u8 6), .i 0, .s none 0 0]] a w → fc8_.j1 t1 y1 = some r → K1 a w := by
   intro m g2 y1 a w S h0
   delta fc8_.j1 at h0
   refine hK1 a w (c_region (s_move S rfl rfl fun a S => s_assign S rfl rfl fun a S => c_end (wp_ret (x_thenR ?_))))
   replace S := S.cellro (s' := [.one (.int .u8 6), .i 0, .q PY61 none 0 ([] : List PT61)]) .h1 rfl (fun h => ⟨h.1, h.2.1, ok_nil, trivial⟩)
   replace S := S.freeze .h1
   obtain ⟨m, le1, S⟩ := S
   replace S := S.slotQ (nn := PT61.nn) (to := PT61.to) (u := 4) (y := (PT61.mk (6, 0, ([] : List PT61)))) PH61 rfl ((), (), (none, 0)) (Pull.mem .h1).1 rfl rfl
   replace S := S.slotQ (nn := PT61.nn) (to := PT61.to) (u := 22) (y := (PT61.mk (6, 0, ([] : List PT61)))) PH61 rfl ((), (), (none, 0)) (Pull.mem .h1).1 rfl rfl
   replace S := S.slotQ (nn := PT61.nn) (to := PT61.to) (u := 5) (y := (PT61.mk (6, 0, ([] : List PT61)))) PH61 rfl ((), (), (none, 0)) (Pull.mem .h1).1 rfl rfl
   obtain rfl := Option.some.inj h0
   exact b_ret1 (d := (.rf (.pointer (ad g2)) (PR61 (ad g2) (PT61.mk (6, 0, ([] : List PT61)))))) S rfl rfl fun ok => S.retX (Hx := []) hb _ _ ((ad g2) : (Option Addr)) (.c0 .n) ok
  refine c_region' (s_move S rfl rfl fun a S => s_move S rfl rfl fun a S => s_bin S rfl rfl rfl rfl fun a S => s_move S rfl rfl fun a S => ?_)
  rcases ite_of h2 with ⟨c2, h3⟩ | ⟨c2, h3⟩
  ·refine s_gF S (b := (decide (1 < x2))) rfl rfl c2 rfl fun a S => s_gF S (b := (decide (1 < x2))) rfl rfl c2 rfl fun a S => s_gF S (b := (decide (1 < x2))) rfl rfl c2 rfl fun a S => s_gF S (b := (decide (1 < x2))) rfl rfl c2 rfl fun a S => s_gF S (b := (decide (1 < x2))) rfl rfl c2 rfl fun a S => s_pick S (b := true) (hc_of rfl c2) rfl rfl fun a S => s_nilchk S rfl rfl fun a S => s_fieldAddr S rfl I90_1 T4 (by decide) rfl rfl fun a S => s_store S rfl rfl rfl (s' := [.one (.string t1.2.1), .b true]) .h T4 rfl rfl fun w S => c_end' (x_thenN ?_)
   exact j1 _ g1 true a w (S.sub ⟨rfl, trivial⟩ (.c0 (.c0 .n))) h3
  ·refine s_gT S (b := (decide (1 < x2))) rfl rfl c2 (s_move S rfl rfl fun a S => s_gT S (b := (decide (1 < x2))) rfl rfl c2 (s_nilchk S rfl rfl fun a S => s_gT S (b := (decide (1 < x2))) rfl rfl c2 (s_fieldAddr S rfl I90_0 T9 (by decide) rfl rfl fun a S => s_gT S (b := (decide (1 < x2))) rfl rfl c2 (s_load1 S rfl .h T9 (v := (.string t1.2.1)) rfl rfl fun a S => s_gT S (b := (decide (1 < x2))) rfl rfl c2 (s_neT S rfl rfl rfl fun a S => s_pick S (b := false) (hc_of rfl c2) rfl rfl fun a S => s_nilchk S rfl rfl fun a S => s_fieldAddr S rfl I90_1 T4 (by decide) rfl rfl fun a S => s_store S rfl rfl rfl (s' := [.one (.string t1.2.1), .b (!(t1.2.1.toList == txt1.toList))]) .h T4 rfl rfl fun w S => c_end' (x_thenN ?_))))))
   exact j1 _ g1 (!(t1.2.1.toList == txt1.toList)) a w (S.sub ⟨rfl, trivial⟩ (.c0 (.c0 .n))) h3
 ·refine c_condF S rfl c1 (wp_skip (x_thenN (wp_seq_k fun K2 hK2 => ?_)))
  have j2 : ∀ m g8 y8 y9 A1 nn1 cp1 y10 a w, St 56 m b0 [(5, (.p g8))] [Res.row PY61 61 A1 nn1 cp1 y10, Res.cells ch_0_0 90 [.one (.string y8), .b y9], Res.cells g8 67 [.one (.int .u8 6), .i 0, .s A1 nn1 cp1]] a w → fc8_.j2 y8 y9 y10 = some r → K2 a w := by
   intro m g8 y8 y9 A1 nn1 cp1 y10 a w S h0
   delta fc8_.j2 at h0
   refine hK2 a w (c_region (s_move S rfl rfl fun a S => s_assign S rfl rfl fun a S => c_end (wp_ret ?_)))
   replace S := S.rowfro .h
   obtain ⟨m, le1, S, hro⟩ := S
   replace S := S.cellro (s' := [.one (.int .u8 6), .i 0, .q PY61 A1 cp1 y10]) .h1 (by simp [cellsOf, Seg.cells, hro.2.1]) (fun h => ⟨h.1, h.2.1, ⟨by have := hro.2.2.1; omega, hro.2.2.2, hro.1, RdS.mono _ _ _⟩, trivial⟩)
   replace S := S.freeze .h1
   obtain ⟨m, le1, S⟩ := S
   replace S := S.slotQ (nn := PT61.nn) (to := PT61.to) (u := 4) (y := (PT61.mk (6, 0, y10))) PH61 rfl ((), (), (A1, cp1)) (Pull.mem .h1).1 rfl rfl
   replace S := S.slotQ (nn := PT61.nn) (to := PT61.to) (u := 55) (y := (PT61.mk (6, 0, y10))) PH61 rfl ((), (), (A1, cp1)) (Pull.mem .h1).1 rfl rfl
   replace S := S.slotQ (nn := PT61.nn) (to := PT61.to) (u := 5) (y := (PT61.mk (6, 0, y10))) PH61 rfl ((), (), (A1, cp1)) (Pull.mem .h1).1 rfl rfl
   obtain rfl := Option.some.inj h0
   exact b_ret1 (d := (.rf (.pointer (ad g8)) (PR61 (ad g8) (PT61.mk (6, 0, y10))))) S rfl rfl fun ok => S.retX (Hx := []) hb _ _ ((ad g8) : (Option Addr)) (.c0 .n) ok
  refine wp_block ?_
  replace S := S.nilrow PY61 61
  refine c_loop (fun q1 a w => ∃ m g13 y14 y15 A2 nn3 cp5 y16, St 56 m b0 [(5, (.p g13)), (0, (.p ch_0_0)), (1, (.i x2))] [Res.row PY61 61 A2 nn3 cp5 y16, Res.cells ch_0_0 90 [.one (.string y14), .b y15], Res.cells g13 67 [.one (.int .u8 6), .i 0, .s A2 nn3 cp5]] a w ∧ fc8_.l1 self0 x2 q1 y14 y15 y16 = some r) ?_ ?_ (k := k) ⟨_, g1, t1.2.1, x1.2, none, 0, 0, ([] : List PT61), (S.sb rfl (.c0 (.c0 (.c0 .n)))), h2⟩
  ·rintro a w ⟨m, g13, y14, y15, A2, nn3, cp5, y16, S, h0⟩
   exact (nomatch (show (none : Option (PT61 × (ByteArray × Bool))) = some r from h0))
  ·clear S h2
   rintro q1 a w ⟨m, g13, y14, y15, A2, nn3, cp5, y16, S, h0⟩
   replace h0 : fc8_.b1 self0 x2 (fc8_.l1 self0 x2 q1) y14 y15 y16 = some r := h0
   delta fc8_.b1 at h0
   refine wp_seq (c_region (s_move S rfl rfl fun a S => s_nilchk S rfl rfl fun a S => s_fieldAddr S rfl I90_1 T4 (by decide) rfl rfl fun a S => s_load1 S rfl .h1 T4 (v := (.bool y15)) rfl rfl fun a S => s_not S rfl rfl fun a S => c_end ?_))
   rcases ite_of h0 with ⟨c3, h1⟩ | ⟨c3, h1⟩
   ·refine c_condT S rfl c3 (wp_skip (x_thenN (wp_block ?_)))
    refine wp_seq (c_heldS S (.take 0 (.take 1 (.take 2 (.take 3 (.take 4 (.take 5 (.take 6 (.alts (.run 7 true (.alts (.run 8 true (.alts (.run 9 true (.take 10 (.take 11 (.alts (.run 12 false .done .nil)))) .nil)) .nil)) .nil))))))))) 12 [Res.cells g13 67 [.one (.int .u8 6), .i 0, .s A2 nn3 cp5]] (.c2 .n) ⟨Res.stay_cells, trivial⟩ [(5, (.p g13)), (0, (.p ch_0_0)), (1, (.i x2))] (subR rfl) (by kernel_rfl) (by kernel_rfl) ?_); clear S; intro w S CL hw le
    refine h_move S CL hw le (subR rfl) rfl rfl rfl trivial fun a S CL => h_move S CL hw le (subR rfl) rfl rfl rfl trivial fun a S CL => h_nilchk S CL hw le (subR rfl) rfl rfl rfl rfl trivial fun a S CL => h_fieldAddr S CL hw le (subR rfl) rfl I67_2 T65 (by decide) rfl rfl rfl trivial fun a S CL => h_load1 S CL hw le (subR rfl) rfl .h T65 (v := (.slice A2 nn3 cp5)) rfl rfl rfl trivial fun a S CL => h_move S CL hw le (subR rfl) rfl rfl rfl trivial fun a S CL => h_move S CL hw le (subR rfl) rfl rfl rfl trivial fun a S CL => h_run' S rfl trivial (bindX h1 fun t8 et8 h2 => s_callX S (ds' := [(.p ch_0_0), (.i x2)]) (ds := [(.p ch_0_0), (.i x2)]) [Res.cells ch_0_0 90 [.one (.string y14), .b y15]] [Res.row PY61 61 A2 nn3 cp5 y16, Res.cells g13 67 [.one (.int .u8 6), .i 0, .s A2 nn3 cp5]] (fun (ch : (Option Addr)) => ((.rf (.pointer ch) (PR61 ch t8.1)) : D)) (fun (ch : (Option Addr)) => [Res.cells ch_0_0 90 [.one (.string t8.2.1), .b t8.2.2]]) (fun (ch : (Option Addr)) => [Res.cells ch_0_0 90 [.one (.string t8.2.1), .b t8.2.2], Res.row PY61 61 A2 nn3 cp5 y16, Res.cells g13 67 [.one (.int .u8 6), .i 0, .s A2 nn3 cp5]]) (fun _ => rfl) N41 rfl rfl (fun ok => ok) (.c1 (.c0 (.c0 .n))) rfl (c_0 (y14, y15) x2 ch_0_0 t8 et8 _ _) fun ch4 m le1 a w S => ?_)
    replace le := le.trans le1
    refine CL.bk hw S (.c2 .n) le fun hw => h_run' S rfl trivial (s_bldSl S (ty' := PY61) (ds := [(0, (.rf (.pointer ch4) (PR61 ch4 t8.1)))]) (z := PT61.nil) (c0 := none) (ys := [t8.1]) (cs := [ch4]) rfl underlying65 J61 Z61 rfl ⟨(okp_nil PH61 rfl), trivial⟩ rfl rfl rfl rfl rfl rfl fun g14 a w S => CL.bk hw S (.c3 .n) le fun hw => h_run' S rfl trivial ?_)
    obtain ⟨c4, h3⟩ := chk_of h2; clear h2
    refine s_app S (k2 := 1) (ys := [t8.1]) rfl (fun _ _ => .h2) rfl rfl (S.holds _ (Pull.mem .h).1).1 (Res.row.src (S.holds _ (Pull.mem .h).1)) underlying65 J61 c4 rfl fun A3 cp6 a w S => CL.bk hw S (.c3 .n) le fun hw => h_nilchk S CL hw le (subR rfl) rfl rfl rfl rfl trivial fun a S CL => h_fieldAddr S CL hw le (subR rfl) rfl I67_2 T65 (by decide) rfl rfl rfl trivial fun a S CL => h_run' S rfl trivial (s_store S rfl rfl rfl (s' := [.one (.int .u8 6), .i 0, .s A3 (nn3 + 1) cp6]) .h3 T65 rfl rfl fun w S => ?_)
    refine h_back ⟨fun h => (nomatch h), ?_⟩
    refine h_done ?_; clear CL hw le
    refine x_thenN (wp_seq (c_region (s_move S rfl rfl fun a S => bindX h3 fun t9 et9 h4 => s_callX S (ds' := [(.p ch_0_0), (.v (.string txt7))]) (ds := [(.p ch_0_0), (.v (.string txt7))]) [Res.cells ch_0_0 90 [.one (.string t8.2.1), .b t8.2.2]] [Res.row PY61 61 (ad g14) 1 1 [t8.1], Res.row PY61 61 A3 (nn3 + 1) cp6 (y16 ++ [t8.1]), Res.cells g13 67 [.one (.int .u8 6), .i 0, .s A3 (nn3 + 1) cp6]] (fun (ch : Unit) => ((.b t9.1) : D)) (fun (ch : Unit) => [Res.cells ch_0_0 90 [.one (.string t9.2.1), .b t8.2.2]]) (fun (ch : Unit) => [Res.cells ch_0_0 90 [.one (.string t9.2.1), .b t8.2.2], Res.row PY61 61 (ad g14) 1 1 [t8.1], Res.row PY61 61 A3 (nn3 + 1) cp6 (y16 ++ [t8.1]), Res.cells g13 67 [.one (.int .u8 6), .i 0, .s A3 (nn3 + 1) cp6]]) (fun _ => rfl) N67 rfl rfl (fun ok => ok) (.c1 (.c0 (.c0 (.c0 .n)))) rfl (fd9_.ok t8.2 txt7 ch_0_0 t9 et9 _ _) fun ch5 m le1 a w S => c_end ?_)))
    rcases ite_of h4 with ⟨c5, h5⟩ | ⟨c5, h5⟩
    ·refine c_condT S rfl c5 (c_region (s_move S rfl rfl fun a S => s_assign S rfl rfl fun a S => c_end (wp_ret (x_thenR (x_blockR (x_thenR (x_blockR (x_thenR ?_))))))))
     replace S := S.rowfro .h2
     obtain ⟨m, le1, S, hro⟩ := S
     replace S := S.slotro (u := 37) rfl hro
     replace S := S.cellro (s' := [.one (.int .u8 6), .i 0, .q PY61 A3 cp6 (y16 ++ [t8.1])]) .h2 (by simp [cellsOf, Seg.cells, hro.2.1]) (fun h => ⟨h.1, h.2.1, ⟨by have := hro.2.2.1; omega, hro.2.2.2, hro.1, RdS.mono _ _ _⟩, trivial⟩)
     replace S := S.freeze .h2
     obtain ⟨m, le1, S⟩ := S
     replace S := S.slotQ (nn := PT61.nn) (to := PT61.to) (u := 4) (y := (PT61.mk (6, 0, y16 ++ [t8.1]))) PH61 rfl ((), (), (A3, cp6)) (Pull.mem .h2).1 rfl rfl
     replace S := S.slotQ (nn := PT61.nn) (to := PT61.to) (u := 42) (y := (PT61.mk (6, 0, y16 ++ [t8.1]))) PH61 rfl ((), (), (A3, cp6)) (Pull.mem .h2).1 rfl rfl
     replace S := S.slotQ (nn := PT61.nn) (to := PT61.to) (u := 38) (y := (PT61.mk (6, 0, y16 ++ [t8.1]))) PH61 rfl ((), (), (A3, cp6)) (Pull.mem .h2).1 rfl rfl
     replace S := S.slotQ (nn := PT61.nn) (to := PT61.to) (u := 30) (y := (PT61.mk (6, 0, y16 ++ [t8.1]))) PH61 rfl ((), (), (A3, cp6)) (Pull.mem .h2).1 rfl rfl
     replace S := S.slotQ (nn := PT61.nn) (to := PT61.to) (u := 29) (y := (PT61.mk (6, 0, y16 ++ [t8.1]))) PH61 rfl ((), (), (A3, cp6)) (Pull.mem .h2).1 rfl rfl
     replace S := S.slotQ (nn := PT61.nn) (to := PT61.to) (u := 28) (y := (PT61.mk (6, 0, y16 ++ [t8.1]))) PH61 rfl ((), (), (A3, cp6)) (Pull.mem .h2).1 rfl rfl
     replace S := S.slotQ (nn := PT61.nn) (to := PT61.to) (u := 5) (y := (PT61.mk (6, 0, y16 ++ [t8.1]))) PH61 rfl ((), (), (A3, cp6)) (Pull.mem .h2).1 rfl rfl
     obtain rfl := Option.some.inj h5
     exact b_ret1 (d := (.rf (.pointer (ad g13)) (PR61 (ad g13) (PT61.mk (6, 0, y16 ++ [t8.1]))))) S rfl rfl fun ok => S.retX (Hx := []) hb _ _ ((ad g13) : (Option Addr)) (.c0 .n) ok
    ·refine c_condF S rfl c5 (wp_skip (x_thenN (c_region' (s_move S rfl rfl fun a S => s_move S rfl rfl fun a S => s_nilchk S rfl rfl fun a S => s_fieldAddr S rfl I90_1 T4 (by decide) rfl rfl fun a S => s_load1 S rfl .h T4 (v := (.bool t8.2.2)) rfl rfl fun a S => s_move S rfl rfl fun a S => ?_))))
     rcases ite_of h5 with ⟨c6, h6⟩ | ⟨c6, h6⟩
     ·refine s_gF S (b := t8.2.2) rfl rfl c6 rfl fun a S => s_gF S (b := t8.2.2) rfl rfl c6 rfl fun a S => s_gF S (b := t8.2.2) rfl rfl c6 rfl fun a S => s_pick S (b := true) (hc_of rfl c6) rfl rfl fun a S => s_nilchk S rfl rfl fun a S => s_fieldAddr S rfl I90_1 T4 (by decide) rfl rfl fun a S => s_store S rfl rfl rfl (s' := [.one (.string t9.2.1), .b true]) .h T4 rfl rfl fun w S => c_end' (x_blockN (x_thenN ?_))
      exact ⟨_, g13, t9.2.1, true, A3, (nn3 + 1), cp6, (y16 ++ [t8.1]), (S.sb rfl (.c2 (.c0 (.c1 .n)))), h6⟩
     ·refine s_gT S (b := t8.2.2) rfl rfl c6 (s_move S rfl rfl fun a S => s_gT S (b := t8.2.2) rfl rfl c6 (bindX h6 fun t10 et10 h7 => s_callX S (ds' := [(.p ch_0_0), (.v (.string txt10))]) (ds := [(.p ch_0_0), (.v (.string txt10))]) [Res.cells ch_0_0 90 [.one (.string t9.2.1), .b t8.2.2]] [Res.row PY61 61 (ad g14) 1 1 [t8.1], Res.row PY61 61 A3 (nn3 + 1) cp6 (y16 ++ [t8.1]), Res.cells g13 67 [.one (.int .u8 6), .i 0, .s A3 (nn3 + 1) cp6]] (fun (ch : Unit) => ((.b t10.1) : D)) (fun (ch : Unit) => [Res.cells ch_0_0 90 [.one (.string t10.2.1), .b t8.2.2]]) (fun (ch : Unit) => [Res.cells ch_0_0 90 [.one (.string t10.2.1), .b t8.2.2], Res.row PY61 61 (ad g14) 1 1 [t8.1], Res.row PY61 61 A3 (nn3 + 1) cp6 (y16 ++ [t8.1]), Res.cells g13 67 [.one (.int .u8 6), .i 0, .s A3 (nn3 + 1) cp6]]) (fun _ => rfl) N67 rfl rfl (fun ok => ok) (.c0 (.c0 (.c0 (.c0 .n)))) rfl (fd9_.ok (t9.2.1, t8.2.2) txt10 ch_0_0 t10 et10 _ _) fun ch6 m le1 a w S => s_gT S (b := t8.2.2) rfl rfl c6 (s_not S rfl rfl fun a S => s_pick S (b := false) (hc_of rfl c6) rfl rfl fun a S => s_nilchk S rfl rfl fun a S => s_fieldAddr S rfl I90_1 T4 (by decide) rfl rfl fun a S => s_store S rfl rfl rfl (s' := [.one (.string t10.2.1), .b (!t10.1)]) .h T4 rfl rfl fun w S => c_end' (x_blockN (x_thenN ?_)))))
      exact ⟨_, g13, t10.2.1, (!t10.1), A3, (nn3 + 1), cp6, (y16 ++ [t8.1]), (S.sb rfl (.c2 (.c0 (.c1 .n)))), h7⟩
   ·refine c_condF S rfl c3 (wp_exit (x_thenX (x_thenX (x_blockX (x_thenN ?_)))))
    exact j2 _ g13 y14 y15 A2 nn3 cp5 y16 a w (S.sub ⟨rfl, trivial⟩ (.c0 (.c0 (.c0 .n)))) h1
def fe2_.j1 (self1 : fc8_.Ty) (x1 : ByteArray × Bool) (x2 : Int) (y1 : Bool) (y2 : ByteArray) : Option (PT61 × (ByteArray × Bool)) := if y1 = true then ((self1 (y2, x1.2) (wr .i64 (x2 + 1))).bind fun t6 => (some (t6.1, t6.2))) else (some ((PT61.mk (0, 0, ([] : List PT61))), (y2, true)))
def fe2_.body (self0 : fd6_.Ty) (self1 : fc8_.Ty) (self2 : fe2_.Ty) (k : Nat) (x1 : ByteArray × Bool) (x2 : Int) : Option (PT61 × (ByteArray × Bool)) := (fd9_.f x1 txt2).bind fun t1 => (if t1.1 = true then (some ((PT61.mk (0, 0, ([] : List PT61))), (t1.2.1, x1.2))) else ((fd9_.f (t1.2.1, x1.2) txt3).bind fun t2 => (if t2.1 = true then (some ((PT61.mk (1, 0, ([] : List PT61))), (t2.2.1, x1.2))) else ((fd9_.f (t2.2.1, x1.2) txt4).bind fun t3 => (if t3.1 = true then (some ((PT61.mk (2, 0, ([] : List PT61))), (t3.2.1, x1.2))) else ((fd9_.f (t3.2.1, x1.2) txt5).bind fun t4 => (if t4.1 = true then (some ((PT61.mk (3, 0, ([] : List PT61))), (t4.2.1, x1.2))) else (if (decide (x2 < 16)) = true then ((fd9_.f (t4.2.1, x1.2) txt6).bind fun t7 => (fe2_.j1 self1 x1 x2 t7.1 t7.2.1)) else (fe2_.j1 self1 x1 x2 false t4.2.1)))))))))
theorem fe2_.okb (self0 : fd6_.Ty) (self1 : fc8_.Ty) (self2 : fe2_.Ty) (c_0 : fd6_.Ctr self0) (c_1 : fc8_.Ctr self1) (c_2 : fe2_.Ctr self2) (k : Nat) : fe2_.Ctr (fe2_.body self0 self1 self2 k) := by
 intro x1 x2 ch_0_0 r h0 mi w0 ok hm
 delta fe2_.body at h0
 refine c_enterZ (n := 41) ok hm func66 rfl rfl rfl fun b0 hb a S => c_region (s_assign S rfl rfl fun a S => c_end (wp_seq (wp_block (c_region (s_move S rfl rfl fun a S => bindX h0 fun t1 et1 h1 => s_callX S (ds' := [(.p ch_0_0), (.v (.string txt2))]) (ds := [(.p ch_0_0), (.v (.string txt2))]) [Res.cells ch_0_0 90 [.one (.string x1.1), .b x1.2]] [] (fun (ch : Unit) => ((.b t1.1) : D)) (fun (ch : Unit) => [Res.cells ch_0_0 90 [.one (.string t1.2.1), .b x1.2]]) (fun (ch : Unit) => [Res.cells ch_0_0 90 [.one (.string t1.2.1), .b x1.2]]) (fun _ => rfl) N67 rfl rfl (fun ok => ok) (.c0 .n) rfl (fd9_.ok x1 txt2 ch_0_0 t1 et1 _ _) fun ch1 m le1 a w S => s_assign S rfl rfl fun a S => c_end ?_)))))
 rcases ite_of h1 with ⟨c1, h2⟩ | ⟨c1, h2⟩
 ·refine c_condT S rfl c1 (c_region (s_bldS S (ds := [(0, (.v (.int .u8 0)))]) (zs := [.one (.int .u8 0), .i 0, .s none 0 0]) (s' := [.one (.int .u8 0), .i 0, .s none 0 0]) rfl underlying67 P67 Z67 ⟨rfl, rfl, rfl, trivial⟩ rfl rfl fun a S => s_box S rfl rfl rfl fun g1 a w S => s_assign S rfl rfl fun a S => c_end (wp_ret (x_blockR (x_thenR ?_)))))
  replace S := S.cellro (s' := [.one (.int .u8 0), .i 0, .q PY61 none 0 ([] : List PT61)]) .h rfl (fun h => ⟨h.1, h.2.1, ok_nil, trivial⟩)
  replace S := S.freeze .h
  obtain ⟨m, le1, S⟩ := S
  replace S := S.slotQ (nn := PT61.nn) (to := PT61.to) (u := 4) (y := (PT61.mk (0, 0, ([] : List PT61)))) PH61 rfl ((), (), (none, 0)) (Pull.mem .h).1 rfl rfl
  replace S := S.slotQ (nn := PT61.nn) (to := PT61.to) (u := 9) (y := (PT61.mk (0, 0, ([] : List PT61)))) PH61 rfl ((), (), (none, 0)) (Pull.mem .h).1 rfl rfl
  obtain rfl := Option.some.inj h2
  exact b_ret1 (d := (.rf (.pointer (ad g1)) (PR61 (ad g1) (PT61.mk (0, 0, ([] : List PT61)))))) S rfl rfl fun ok => S.retX (Hx := []) hb _ _ ((ad g1) : (Option Addr)) (.c1 .n) ok
 ·refine c_condF S rfl c1 (c_region (s_move S rfl rfl fun a S => bindX h2 fun t2 et2 h3 => s_callX S (ds' := [(.p ch_0_0), (.v (.string txt3))]) (ds := [(.p ch_0_0), (.v (.string txt3))]) [Res.cells ch_0_0 90 [.one (.string t1.2.1), .b x1.2]] [] (fun (ch : Unit) => ((.b t2.1) : D)) (fun (ch : Unit) => [Res.cells ch_0_0 90 [.one (.string t2.2.1), .b x1.2]]) (fun (ch : Unit) => [Res.cells ch_0_0 90 [.one (.string t2.2.1), .b x1.2]]) (fun _ => rfl) N67 rfl rfl (fun ok => ok) (.c0 .n) rfl (fd9_.ok (t1.2.1, x1.2) txt3 ch_0_0 t2 et2 _ _) fun ch2 m le1 a w S => s_assign S rfl rfl fun a S => c_end ?_))
  rcases ite_of h3 with ⟨c2, h4⟩ | ⟨c2, h4⟩
  ·refine c_condT S rfl c2 (c_region (s_bldS S (ds := [(0, (.v (.int .u8 1)))]) (zs := [.one (.int .u8 0), .i 0, .s none 0 0]) (s' := [.one (.int .u8 1), .i 0, .s none 0 0]) rfl underlying67 P67 Z67 ⟨rfl, rfl, rfl, trivial⟩ rfl rfl fun a S => s_box S rfl rfl rfl fun g2 a w S => s_assign S rfl rfl fun a S => c_end (wp_ret (x_blockR (x_thenR ?_)))))
   replace S := S.cellro (s' := [.one (.int .u8 1), .i 0, .q PY61 none 0 ([] : List PT61)]) .h rfl (fun h => ⟨h.1, h.2.1, ok_nil, trivial⟩)
   replace S := S.freeze .h
   obtain ⟨m, le1, S⟩ := S
   replace S := S.slotQ (nn := PT61.nn) (to := PT61.to) (u := 4) (y := (PT61.mk (1, 0, ([] : List PT61)))) PH61 rfl ((), (), (none, 0)) (Pull.mem .h).1 rfl rfl
   replace S := S.slotQ (nn := PT61.nn) (to := PT61.to) (u := 14) (y := (PT61.mk (1, 0, ([] : List PT61)))) PH61 rfl ((), (), (none, 0)) (Pull.mem .h).1 rfl rfl
   obtain rfl := Option.some.inj h4
   exact b_ret1 (d := (.rf (.pointer (ad g2)) (PR61 (ad g2) (PT61.mk (1, 0, ([] : List PT61)))))) S rfl rfl fun ok => S.retX (Hx := []) hb _ _ ((ad g2) : (Option Addr)) (.c1 .n) ok
  ·refine c_condF S rfl c2 (c_region (s_move S rfl rfl fun a S => bindX h4 fun t3 et3 h5 => s_callX S (ds' := [(.p ch_0_0), (.v (.string txt4))]) (ds := [(.p ch_0_0), (.v (.string txt4))]) [Res.cells ch_0_0 90 [.one (.string t2.2.1), .b x1.2]] [] (fun (ch : Unit) => ((.b t3.1) : D)) (fun (ch : Unit) => [Res.cells ch_0_0 90 [.one (.string t3.2.1), .b x1.2]]) (fun (ch : Unit) => [Res.cells ch_0_0 90 [.one (.string t3.2.1), .b x1.2]]) (fun _ => rfl) N67 rfl rfl (fun ok => ok) (.c0 .n) rfl (fd9_.ok (t2.2.1, x1.2) txt4 ch_0_0 t3 et3 _ _) fun ch3 m le1 a w S => s_assign S rfl rfl fun a S => c_end ?_))
   rcases ite_of h5 with ⟨c3, h6⟩ | ⟨c3, h6⟩
   ·refine c_condT S rfl c3 (c_region (s_bldS S (ds := [(0, (.v (.int .u8 2)))]) (zs := [.one (.int .u8 0), .i 0, .s none 0 0]) (s' := [.one (.int .u8 2), .i 0, .s none 0 0]) rfl underlying67 P67 Z67 ⟨rfl, rfl, rfl, trivial⟩ rfl rfl fun a S => s_box S rfl rfl rfl fun g3 a w S => s_assign S rfl rfl fun a S => c_end (wp_ret (x_blockR (x_thenR ?_)))))
    replace S := S.cellro (s' := [.one (.int .u8 2), .i 0, .q PY61 none 0 ([] : List PT61)]) .h rfl (fun h => ⟨h.1, h.2.1, ok_nil, trivial⟩)
    replace S := S.freeze .h
    obtain ⟨m, le1, S⟩ := S
    replace S := S.slotQ (nn := PT61.nn) (to := PT61.to) (u := 4) (y := (PT61.mk (2, 0, ([] : List PT61)))) PH61 rfl ((), (), (none, 0)) (Pull.mem .h).1 rfl rfl
    replace S := S.slotQ (nn := PT61.nn) (to := PT61.to) (u := 19) (y := (PT61.mk (2, 0, ([] : List PT61)))) PH61 rfl ((), (), (none, 0)) (Pull.mem .h).1 rfl rfl
    obtain rfl := Option.some.inj h6
    exact b_ret1 (d := (.rf (.pointer (ad g3)) (PR61 (ad g3) (PT61.mk (2, 0, ([] : List PT61)))))) S rfl rfl fun ok => S.retX (Hx := []) hb _ _ ((ad g3) : (Option Addr)) (.c1 .n) ok
   ·refine c_condF S rfl c3 (c_region (s_move S rfl rfl fun a S => bindX h6 fun t4 et4 h7 => s_callX S (ds' := [(.p ch_0_0), (.v (.string txt5))]) (ds := [(.p ch_0_0), (.v (.string txt5))]) [Res.cells ch_0_0 90 [.one (.string t3.2.1), .b x1.2]] [] (fun (ch : Unit) => ((.b t4.1) : D)) (fun (ch : Unit) => [Res.cells ch_0_0 90 [.one (.string t4.2.1), .b x1.2]]) (fun (ch : Unit) => [Res.cells ch_0_0 90 [.one (.string t4.2.1), .b x1.2]]) (fun _ => rfl) N67 rfl rfl (fun ok => ok) (.c0 .n) rfl (fd9_.ok (t3.2.1, x1.2) txt5 ch_0_0 t4 et4 _ _) fun ch4 m le1 a w S => s_assign S rfl rfl fun a S => c_end ?_))
    rcases ite_of h7 with ⟨c4, h8⟩ | ⟨c4, h8⟩
    ·refine c_condT S rfl c4 (c_region (s_bldS S (ds := [(0, (.v (.int .u8 3)))]) (zs := [.one (.int .u8 0), .i 0, .s none 0 0]) (s' := [.one (.int .u8 3), .i 0, .s none 0 0]) rfl underlying67 P67 Z67 ⟨rfl, rfl, rfl, trivial⟩ rfl rfl fun a S => s_box S rfl rfl rfl fun g4 a w S => s_assign S rfl rfl fun a S => c_end (wp_ret (x_blockR (x_thenR ?_)))))
     replace S := S.cellro (s' := [.one (.int .u8 3), .i 0, .q PY61 none 0 ([] : List PT61)]) .h rfl (fun h => ⟨h.1, h.2.1, ok_nil, trivial⟩)
     replace S := S.freeze .h
     obtain ⟨m, le1, S⟩ := S
     replace S := S.slotQ (nn := PT61.nn) (to := PT61.to) (u := 4) (y := (PT61.mk (3, 0, ([] : List PT61)))) PH61 rfl ((), (), (none, 0)) (Pull.mem .h).1 rfl rfl
     replace S := S.slotQ (nn := PT61.nn) (to := PT61.to) (u := 24) (y := (PT61.mk (3, 0, ([] : List PT61)))) PH61 rfl ((), (), (none, 0)) (Pull.mem .h).1 rfl rfl
     obtain rfl := Option.some.inj h8
     exact b_ret1 (d := (.rf (.pointer (ad g4)) (PR61 (ad g4) (PT61.mk (3, 0, ([] : List PT61)))))) S rfl rfl fun ok => S.retX (Hx := []) hb _ _ ((ad g4) : (Option Addr)) (.c1 .n) ok
    ·refine c_condF S rfl c4 (wp_seq_k fun K1 hK1 => ?_)
     have j1 : ∀ m y1 y2 a w, St 41 m b0 [(25, (.b y1)), (0, (.p ch_0_0)), (1, (.i x2))] [Res.cells ch_0_0 90 [.one (.string y2), .b x1.2]] a w → fe2_.j1 self1 x1 x2 y1 y2 = some r → K1 a w := by
      intro m y1 y2 a w S h0
      delta fe2_.j1 at h0
      refine hK1 a w ?_
      rcases ite_of h0 with ⟨c5, h1⟩ | ⟨c5, h1⟩
      ·refine c_condT S rfl c5 (c_region (s_move S rfl rfl fun a S => s_move S rfl rfl fun a S => s_bin S rfl rfl rfl rfl fun a S => bindX h1 fun t6 et6 h2 => s_callX S (ds' := [(.p ch_0_0), (.i (wr .i64 (x2 + 1)))]) (ds := [(.p ch_0_0), (.i (wr .i64 (x2 + 1)))]) [Res.cells ch_0_0 90 [.one (.string y2), .b x1.2]] [] (fun (ch : (Option Addr)) => ((.rf (.pointer ch) (PR61 ch t6.1)) : D)) (fun (ch : (Option Addr)) => [Res.cells ch_0_0 90 [.one (.string t6.2.1), .b t6.2.2]]) (fun (ch : (Option Addr)) => [Res.cells ch_0_0 90 [.one (.string t6.2.1), .b t6.2.2]]) (fun _ => rfl) N81 rfl rfl (fun ok => ok) (.c0 .n) rfl (c_1 (y2, x1.2) (wr .i64 (x2 + 1)) ch_0_0 t6 et6 _ _) fun ch5 m le1 a w S => s_assign S rfl rfl fun a S => c_end (wp_ret (x_blockR (x_thenR ?_)))))
       obtain rfl := Option.some.inj h2
       exact b_ret1 (d := (.rf (.pointer ch5) (PR61 ch5 t6.1))) S rfl rfl fun ok => S.retX (Hx := []) hb _ _ (ch5 : (Option Addr)) (.c0 .n) ok
      ·refine c_condF S rfl c5 (wp_skip (x_blockN (x_thenN (c_region (s_move S rfl rfl fun a S => s_nilchk S rfl rfl fun a S => s_fieldAddr S rfl I90_1 T4 (by decide) rfl rfl fun a S => s_store S rfl rfl rfl (s' := [.one (.string y2), .b true]) .h T4 rfl rfl fun w S => c_end (c_region (s_bldS S (ds := []) (zs := [.one (.int .u8 0), .i 0, .s none 0 0]) (s' := [.one (.int .u8 0), .i 0, .s none 0 0]) rfl underlying67 P67 Z67 ⟨rfl, rfl, rfl, trivial⟩ rfl rfl fun a S => s_box S rfl rfl rfl fun g5 a w S => s_assign S rfl rfl fun a S => c_end (wp_ret ?_))))))))
       replace S := S.cellro (s' := [.one (.int .u8 0), .i 0, .q PY61 none 0 ([] : List PT61)]) .h rfl (fun h => ⟨h.1, h.2.1, ok_nil, trivial⟩)
       replace S := S.freeze .h
       obtain ⟨m, le1, S⟩ := S
       replace S := S.slotQ (nn := PT61.nn) (to := PT61.to) (u := 4) (y := (PT61.mk (0, 0, ([] : List PT61)))) PH61 rfl ((), (), (none, 0)) (Pull.mem .h).1 rfl rfl
       replace S := S.slotQ (nn := PT61.nn) (to := PT61.to) (u := 40) (y := (PT61.mk (0, 0, ([] : List PT61)))) PH61 rfl ((), (), (none, 0)) (Pull.mem .h).1 rfl rfl
       obtain rfl := Option.some.inj h1
       exact b_ret1 (d := (.rf (.pointer (ad g5)) (PR61 (ad g5) (PT61.mk (0, 0, ([] : List PT61)))))) S rfl rfl fun ok => S.retX (Hx := []) hb _ _ ((ad g5) : (Option Addr)) (.c1 .n) ok
     refine c_region' (s_move S rfl rfl fun a S => s_bin S rfl rfl rfl rfl fun a S => s_move S rfl rfl fun a S => ?_)
     rcases ite_of h8 with ⟨c6, h9⟩ | ⟨c6, h9⟩
     ·refine s_gT S (b := (decide (x2 < 16))) rfl rfl c6 (s_move S rfl rfl fun a S => s_gT S (b := (decide (x2 < 16))) rfl rfl c6 (bindX h9 fun t7 et7 h10 => s_callX S (ds' := [(.p ch_0_0), (.v (.string txt6))]) (ds := [(.p ch_0_0), (.v (.string txt6))]) [Res.cells ch_0_0 90 [.one (.string t4.2.1), .b x1.2]] [] (fun (ch : Unit) => ((.b t7.1) : D)) (fun (ch : Unit) => [Res.cells ch_0_0 90 [.one (.string t7.2.1), .b x1.2]]) (fun (ch : Unit) => [Res.cells ch_0_0 90 [.one (.string t7.2.1), .b x1.2]]) (fun _ => rfl) N67 rfl rfl (fun ok => ok) (.c0 .n) rfl (fd9_.ok (t4.2.1, x1.2) txt6 ch_0_0 t7 et7 _ _) fun ch6 m le1 a w S => s_pick S (b := true) (hc_of rfl c6) rfl rfl fun a S => s_assign S rfl rfl fun a S => c_end' (x_thenN ?_)))
      exact j1 _ t7.1 t7.2.1 a w (S.sb rfl (.c0 .n)) h10
     ·refine s_gF S (b := (decide (x2 < 16))) rfl rfl c6 rfl fun a S => s_gF S (b := (decide (x2 < 16))) rfl rfl c6 rfl fun a S => s_pick S (b := false) (hc_of rfl c6) rfl rfl fun a S => s_assign S rfl rfl fun a S => c_end' (x_thenN ?_)
      exact j1 _ false t4.2.1 a w (S.sb rfl (.c0 .n)) h9
mutual
def fd6_.f : Nat → fd6_.Ty
  | 0 => fun _ _ => none
  | k + 1 => fd6_.body (fd6_.f k) (fc8_.f k) (fe2_.f k) k
def fc8_.f : Nat → fc8_.Ty
  | 0 => fun _ _ => none
  | k + 1 => fc8_.body (fd6_.f k) (fc8_.f k) (fe2_.f k) k
def fe2_.f : Nat → fe2_.Ty
  | 0 => fun _ _ => none
  | k + 1 => fe2_.body (fd6_.f k) (fc8_.f k) (fe2_.f k) k
end
theorem fd6_.oks : ∀ k : Nat, fd6_.Ctr (fd6_.f k) ∧ fc8_.Ctr (fc8_.f k) ∧ fe2_.Ctr (fe2_.f k)
  | 0 => ⟨fun _ _ _ r h0 => (nomatch (show (none : Option (PT61 × (ByteArray × Bool))) = some r from h0)), fun _ _ _ r h0 => (nomatch (show (none : Option (PT61 × (ByteArray × Bool))) = some r from h0)), fun _ _ _ r h0 => (nomatch (show (none : Option (PT61 × (ByteArray × Bool))) = some r from h0))⟩
  | k + 1 => by
    have ih := fd6_.oks k
    exact ⟨fd6_.okb (fd6_.f k) (fc8_.f k) (fe2_.f k) ih.1 ih.2.1 ih.2.2 k, fc8_.okb (fd6_.f k) (fc8_.f k) (fe2_.f k) ih.1 ih.2.1 ih.2.2 k, fe2_.okb (fd6_.f k) (fc8_.f k) (fe2_.f k) ih.1 ih.2.1 ih.2.2 k⟩
theorem fd6_.ok (k : Nat) : fd6_.Ctr (fd6_.f k) := (fd6_.oks k).1
theorem fc8_.ok (k : Nat) : fc8_.Ctr (fc8_.f k) := (fd6_.oks k).2.1
theorem fe2_.ok (k : Nat) : fe2_.Ctr (fe2_.f k) := (fd6_.oks k).2.2
abbrev ff8_.Ty : Type := ByteArray → Option PT61
def ff8_.Ctr (s : ff8_.Ty) : Prop := ∀ (x1 : ByteArray) (r : PT61), Ct (C := ((Option Addr))) Tryd.prog 26 (s x1 = some r) [] [(.v (.string x1))] (fun ch => (.rf (.pointer ch) (PR61 ch r))) fun _ => []
def ff8_.j1 (t1 : PT61 × (ByteArray × Bool)) (y1 : Bool) : Option PT61 := if y1 = true then (some PT61.nil) else (some t1.1)
def ff8_.f (k : Nat) (x1 : ByteArray) : Option PT61 := if (decide (512 < (x1.size : Int))) = true then (some PT61.nil) else ((fd6_.f k (x1, false) 0).bind fun t1 => (if t1.2.2 = true then (ff8_.j1 t1 true) else (if (!(t1.2.1.toList == txt1.toList)) = true then (ff8_.j1 t1 true) else ((fg2_.f k t1.1).bind fun t3 => (ff8_.j1 t1 (decide (16 < t3)))))))
theorem ff8_.ok (k : Nat) : ff8_.Ctr (ff8_.f k) := by
 intro x1 r h0 mi w0 ok hm
 delta ff8_.f at h0
 refine c_enterZ (n := 30) ok hm func26 rfl rfl rfl fun b0 hb a S => c_region (s_assign S rfl rfl fun a S => c_end (wp_seq (c_region (s_move S rfl rfl fun a S => s_lenT S rfl underlying9 rfl fun a S => s_bin S rfl rfl rfl rfl fun a S => c_end ?_))))
 rcases ite_of h0 with ⟨c1, h1⟩ | ⟨c1, h1⟩
 ·refine c_condT S rfl c1 (c_region (s_assign S rfl rfl fun a S => c_end (wp_ret (x_thenR ?_))))
  replace S := S.slotQ0 (nn := PT61.nn) (to := PT61.to) (u := 2) (y := PT61.nil) PH61 rfl rfl
  obtain rfl := Option.some.inj h1
  exact b_ret1 (d := (.rf (.pointer none) (PR61 none PT61.nil))) S rfl rfl fun ok => S.retX (Hx := []) hb _ _ (none : (Option Addr)) .nil ok
 ·refine c_condF S rfl c1 (wp_skip (x_thenN (c_region (s_move S rfl rfl fun a S => s_bldS S (ds := [(0, (.v (.string x1)))]) (zs := [.one (.string txt1), .b false]) (s' := [.one (.string x1), .b false]) rfl underlying90 P90 Z90 ⟨rfl, rfl, trivial⟩ rfl rfl fun a S => s_box S rfl rfl rfl fun g1 a w S => s_assign S rfl rfl fun a S => c_end (c_region (s_move S rfl rfl fun a S => bindX h1 fun t1 et1 h2 => s_callX S (ds' := [(.p g1), (.i 0)]) (ds := [(.p g1), (.i 0)]) [Res.cells g1 90 [.one (.string x1), .b false]] [] (fun (ch : (Option Addr)) => ((.rf (.pointer ch) (PR61 ch t1.1)) : D)) (fun (ch : (Option Addr)) => [Res.cells g1 90 [.one (.string t1.2.1), .b t1.2.2]]) (fun (ch : (Option Addr)) => [Res.cells g1 90 [.one (.string t1.2.1), .b t1.2.2]]) (fun _ => rfl) N41 rfl rfl (fun ok => ok) (.c0 .n) rfl (fd6_.ok k (x1, false) 0 g1 t1 et1 _ _) fun ch1 m le1 a w S => s_assign S rfl rfl fun a S => c_end (wp_seq (wp_seq_k fun K1 hK1 => ?_))))))))
  have j1 : ∀ m y1 cq1 a w, St 30 m b0 [(28, (.b y1)), (4, (.rf (.pointer cq1) (PR61 cq1 t1.1)))] [] a w → ff8_.j1 t1 y1 = some r → K1 a w := by
   intro m y1 cq1 a w S h0
   delta ff8_.j1 at h0
   refine hK1 a w ?_
   rcases ite_of h0 with ⟨c2, h1⟩ | ⟨c2, h1⟩
   ·refine c_condT S rfl c2 (c_region (s_assign S rfl rfl fun a S => c_end (wp_ret (x_thenR ?_))))
    replace S := S.slotQ0 (nn := PT61.nn) (to := PT61.to) (u := 2) (y := PT61.nil) PH61 rfl rfl
    obtain rfl := Option.some.inj h1
    exact b_ret1 (d := (.rf (.pointer none) (PR61 none PT61.nil))) S rfl rfl fun ok => S.retX (Hx := []) hb _ _ (none : (Option Addr)) .nil ok
   ·refine c_condF S rfl c2 (wp_skip (x_thenN (c_region (s_move S rfl rfl fun a S => s_assign S rfl rfl fun a S => c_end (wp_ret ?_)))))
    obtain rfl := Option.some.inj h1
    exact b_ret1 (d := (.rf (.pointer cq1) (PR61 cq1 t1.1))) S rfl rfl fun ok => S.retX (Hx := []) hb _ _ (cq1 : (Option Addr)) .nil ok
  refine c_region' (s_move S rfl rfl fun a S => s_nilchk S rfl rfl fun a S => s_fieldAddr S rfl I90_1 T4 (by decide) rfl rfl fun a S => s_load1 S rfl .h T4 (v := (.bool t1.2.2)) rfl rfl fun a S => s_move S rfl rfl fun a S => ?_)
  rcases ite_of h2 with ⟨c3, h3⟩ | ⟨c3, h3⟩
  ·refine s_gF S (b := t1.2.2) rfl rfl c3 rfl fun a S => s_gF S (b := t1.2.2) rfl rfl c3 rfl fun a S => s_gF S (b := t1.2.2) rfl rfl c3 rfl fun a S => s_gF S (b := t1.2.2) rfl rfl c3 rfl fun a S => s_gF S (b := t1.2.2) rfl rfl c3 rfl fun a S => s_pick S (b := true) (hc_of rfl c3) rfl rfl fun a S => s_move S rfl rfl fun a S => s_gF S (b := true) rfl rfl rfl rfl fun a S => s_gF S (b := true) rfl rfl rfl rfl fun a S => s_gF S (b := true) rfl rfl rfl rfl fun a S => s_pick S (b := true) (hc_of rfl rfl) rfl rfl fun a S => c_end' (x_thenN ?_)
   exact j1 _ true ch1 a w (S.sb rfl .nil) h3
  ·refine s_gT S (b := t1.2.2) rfl rfl c3 (s_move S rfl rfl fun a S => s_gT S (b := t1.2.2) rfl rfl c3 (s_nilchk S rfl rfl fun a S => s_gT S (b := t1.2.2) rfl rfl c3 (s_fieldAddr S rfl I90_0 T9 (by decide) rfl rfl fun a S => s_gT S (b := t1.2.2) rfl rfl c3 (s_load1 S rfl .h T9 (v := (.string t1.2.1)) rfl rfl fun a S => s_gT S (b := t1.2.2) rfl rfl c3 (s_neT S rfl rfl rfl fun a S => s_pick S (b := false) (hc_of rfl c3) rfl rfl fun a S => s_move S rfl rfl fun a S => ?_)))))
   rcases ite_of h3 with ⟨c4, h4⟩ | ⟨c4, h4⟩
   ·refine s_gF S (b := (!(t1.2.1.toList == txt1.toList))) rfl rfl c4 rfl fun a S => s_gF S (b := (!(t1.2.1.toList == txt1.toList))) rfl rfl c4 rfl fun a S => s_gF S (b := (!(t1.2.1.toList == txt1.toList))) rfl rfl c4 rfl fun a S => s_pick S (b := true) (hc_of rfl c4) rfl rfl fun a S => c_end' (x_thenN ?_)
    exact j1 _ true ch1 a w (S.sb rfl .nil) h4
   ·refine s_gT S (b := (!(t1.2.1.toList == txt1.toList))) rfl rfl c4 (s_move S rfl rfl fun a S => s_gT S (b := (!(t1.2.1.toList == txt1.toList))) rfl rfl c4 (bindX h4 fun t3 et3 h5 => s_callP S _ N42 rfl rfl (fg2_.ok k t1.1 ch1 t3 et3 _ _) fun ch2 m le1 a w S => s_gT S (b := (!(t1.2.1.toList == txt1.toList))) rfl rfl c4 (s_bin S rfl rfl rfl rfl fun a S => s_pick S (b := false) (hc_of rfl c4) rfl rfl fun a S => c_end' (x_thenN ?_))))
    exact j1 _ (decide (16 < t3)) ch1 a w (S.sb rfl .nil) h5
abbrev ff2_.Ty : Type := Int → Int → Option (Int × Int)
def ff2_.Ctr (s : ff2_.Ty) : Prop := ∀ (x1 : Int) (x2 : Int) (r : Int × Int), Ct (C := Unit) Tryd.prog 87 (s x1 x2 = some r) [] [(.w x1), (.w x2)] (fun _ => (.tup [(false, [.w r.1]), (false, [.w r.2])])) fun _ => []
def ff2_.f (x1 : Int) (x2 : Int) : Option (Int × Int) := some (wr .u64 ((wr .u64 ((wr .u64 ((shr x1 32) * (shr x2 32))) + (shr (wr .u64 ((wr .u64 ((shr x1 32) * (bits .and .u64 x2 4294967295))) + (shr (wr .u64 ((bits .and .u64 x1 4294967295) * (bits .and .u64 x2 4294967295))) 32))) 32))) + (shr (wr .u64 ((bits .and .u64 (wr .u64 ((wr .u64 ((shr x1 32) * (bits .and .u64 x2 4294967295))) + (shr (wr .u64 ((bits .and .u64 x1 4294967295) * (bits .and .u64 x2 4294967295))) 32))) 4294967295) + (wr .u64 ((bits .and .u64 x1 4294967295) * (shr x2 32))))) 32)), wr .u64 (x1 * x2))
theorem ff2_.ok : ff2_.Ctr (ff2_.f) := by
 intro x1 x2 r h0 mi w0 ok hm
 delta ff2_.f at h0
 refine c_enterZ (n := 51) ok hm func87 rfl rfl rfl fun b0 hb a S => c_region (s_assign S rfl rfl fun a S => s_assign S rfl rfl fun a S => c_end (c_region (s_move S rfl rfl fun a S => s_bin S rfl rfl rfl rfl fun a S => s_assign S rfl rfl fun a S => c_end (c_region (s_move S rfl rfl fun a S => s_shr S (e := 32) rfl rfl (by decide) rfl rfl fun a S => s_assign S rfl rfl fun a S => c_end (c_region (s_move S rfl rfl fun a S => s_bin S rfl rfl rfl rfl fun a S => s_assign S rfl rfl fun a S => c_end (c_region (s_move S rfl rfl fun a S => s_shr S (e := 32) rfl rfl (by decide) rfl rfl fun a S => s_assign S rfl rfl fun a S => c_end (c_region (s_move S rfl rfl fun a S => s_move S rfl rfl fun a S => s_bin S rfl rfl rfl rfl fun a S => s_assign S rfl rfl fun a S => c_end (c_region (s_move S rfl rfl fun a S => s_move S rfl rfl fun a S => s_bin S rfl rfl rfl rfl fun a S => s_move S rfl rfl fun a S => s_shr S (e := 32) rfl rfl (by decide) rfl rfl fun a S => s_bin S rfl rfl rfl rfl fun a S => s_assign S rfl rfl fun a S => c_end (c_region (s_move S rfl rfl fun a S => s_bin S rfl rfl rfl rfl fun a S => s_assign S rfl rfl fun a S => c_end (c_region (s_move S rfl rfl fun a S => s_shr S (e := 32) rfl rfl (by decide) rfl rfl fun a S => s_assign S rfl rfl fun a S => c_end (c_region (s_move S rfl rfl fun a S => s_move S rfl rfl fun a S => s_move S rfl rfl fun a S => s_bin S rfl rfl rfl rfl fun a S => s_bin S rfl rfl rfl rfl fun a S => s_assign S rfl rfl fun a S => c_end (c_region (s_move S rfl rfl fun a S => ?_)))))))))))))))))))))
 refine s_move S rfl rfl fun a S => s_bin S rfl rfl rfl rfl fun a S => s_move S rfl rfl fun a S => s_bin S rfl rfl rfl rfl fun a S => s_move S rfl rfl fun a S => s_shr S (e := 32) rfl rfl (by decide) rfl rfl fun a S => s_bin S rfl rfl rfl rfl fun a S => s_assign S rfl rfl fun a S => c_end (c_region (s_move S rfl rfl fun a S => s_move S rfl rfl fun a S => s_bin S rfl rfl rfl rfl fun a S => s_assign S rfl rfl fun a S => c_end (wp_ret ?_)))
 obtain rfl := Option.some.inj h0
 exact b_ret2 (d1 := (.w (wr .u64 ((wr .u64 ((wr .u64 ((shr x1 32) * (shr x2 32))) + (shr (wr .u64 ((wr .u64 ((shr x1 32) * (bits .and .u64 x2 4294967295))) + (shr (wr .u64 ((bits .and .u64 x1 4294967295) * (bits .and .u64 x2 4294967295))) 32))) 32))) + (shr (wr .u64 ((bits .and .u64 (wr .u64 ((wr .u64 ((shr x1 32) * (bits .and .u64 x2 4294967295))) + (shr (wr .u64 ((bits .and .u64 x1 4294967295) * (bits .and .u64 x2 4294967295))) 32))) 4294967295) + (wr .u64 ((bits .and .u64 x1 4294967295) * (shr x2 32))))) 32))))) (d2 := (.w (wr .u64 (x1 * x2)))) S rfl rfl rfl fun ok1 ok2 => S.retX (Hx := []) hb _ _ (() : Unit) .nil ⟨⟨ok1, trivial⟩, ⟨ok2, trivial⟩, trivial⟩
abbrev fg1_.Ty : Type := Int → Int → Option (Int × Int)
def fg1_.Ctr (s : fg1_.Ty) : Prop := ∀ (x1 : Int) (x2 : Int) (r : Int × Int), Ct (C := Unit) Tryd.prog 82 (s x1 x2 = some r) [] [(.w x1), (.w x2)] (fun _ => (.tup [(false, [.w r.1]), (false, [.w r.2])])) fun _ => []
def fg1_.f (x1 : Int) (x2 : Int) : Option (Int × Int) := (ff2_.f x1 x2).bind fun t1 => (some (t1.1, t1.2))
theorem fg1_.ok : fg1_.Ctr (fg1_.f) := by
 intro x1 x2 r h0 mi w0 ok hm
 delta fg1_.f at h0
 refine c_enterZ (n := 30) ok hm func82 rfl rfl rfl fun b0 hb a S => c_region (s_assign S rfl rfl fun a S => s_assign S rfl rfl fun a S => c_end (wp_seq (c_condF S rfl rfl (wp_skip (x_thenN (c_region (s_move S rfl rfl fun a S => s_move S rfl rfl fun a S => bindX h0 fun t1 et1 h1 => s_callP S _ N87 rfl rfl (ff2_.ok x1 x2 t1 et1 _ _) fun ch1 m le1 a w S => s_move S rfl rfl fun a S => s_extract S rfl rfl rfl rfl fun a S => s_extract S rfl rfl rfl rfl fun a S => s_assign S rfl rfl fun a S => s_assign S rfl rfl fun a S => c_end (c_region (s_move S rfl rfl fun a S => s_move S rfl rfl fun a S => s_assign S rfl rfl fun a S => s_assign S rfl rfl fun a S => c_end (wp_ret ?_))))))))))
 obtain rfl := Option.some.inj h1
 exact b_ret2 (d1 := (.w t1.1)) (d2 := (.w t1.2)) S rfl rfl rfl fun ok1 ok2 => S.retX (Hx := []) hb _ _ (() : Unit) .nil ⟨⟨ok1, trivial⟩, ⟨ok2, trivial⟩, trivial⟩
abbrev fe7_.Ty : Type := (List PT61) → Int → Option ((List PT61))
def fe7_.Ctr (s : fe7_.Ty) : Prop := ∀ (x1 : List PT61) (x2 : Int) (ch_0_0 : Option Addr) (ch_0_1 : Nat) (r : (List PT61)), Ct (C := ((Option Addr) × Nat × Nat)) Tryd.prog 70 (s x1 x2 = some r) [] [(.q PY61 ch_0_0 ch_0_1 x1), (.i x2)] (fun ch => (.s ch.1 ch.2.1 ch.2.2)) fun ch => [Res.row PY61 61 ch.1 ch.2.1 ch.2.2 r]
def fe7_.j2 (y6 : List PT61) : Option ((List PT61)) := some y6
def fe7_.b1 (rec1 : Int → (List PT61) → Option ((List PT61))) (y9 : Int) (y10 : List PT61) : Option ((List PT61)) := if (decide (y9 < ((y10).length : Int))) = true then (if (0 : Int) ≤ y9 ∧ (y9 : Int) ≤ ((y10).length : Int) ∧ ((y10).length : Int) ≤ ((y10).length : Int) then (if (0 : Int) ≤ 0 ∧ (0 : Int) ≤ y9 ∧ y9 ≤ ((y10).length : Int) then (rec1 (wr .i64 (y9 + ((min (((y10).drop (Int.toNat 0)).take (Int.toNat y9 - Int.toNat 0)).length (Int.toNat ((y10).length : Int) - Int.toNat y9) : Nat) : Int))) (cpyG y10 (Int.toNat y9) (((y10).drop (Int.toNat 0)).take (Int.toNat y9 - Int.toNat 0)) (min (((y10).drop (Int.toNat 0)).take (Int.toNat y9 - Int.toNat 0)).length (Int.toNat ((y10).length : Int) - Int.toNat y9)))) else none) else none) else (fe7_.j2 y10)
def fe7_.l1 : Nat → Int → (List PT61) → Option ((List PT61))
  | 0, _, _ => none
  | q + 1, y9, y10 => fe7_.b1 (fe7_.l1 q) y9 y10
def fe7_.j1 (k : Nat) (x1 : List PT61) (t1 : Int × Int) (y1 : Bool) : Option ((List PT61)) := if y1 = true then none else (if (0 : Int) ≤ (wr .i64 t1.2) ∧ 8 * Int.toNat (wr .i64 t1.2) ≤ 281474976710656 then (fe7_.l1 k ((min (x1).length (List.replicate (Int.toNat (wr .i64 t1.2)) (PT61.nil : PT61)).length : Nat) : Int) (cpyG (List.replicate (Int.toNat (wr .i64 t1.2)) (PT61.nil : PT61)) 0 x1 (min (x1).length (List.replicate (Int.toNat (wr .i64 t1.2)) (PT61.nil : PT61)).length))) else none)
def fe7_.f (k : Nat) (x1 : List PT61) (x2 : Int) : Option ((List PT61)) := if (decide (x2 < 0)) = true then none else ((fg1_.f (wr .u64 ((x1).length : Int)) (wr .u64 x2)).bind fun t1 => (if (decide (0 < t1.1)) = true then (fe7_.j1 k x1 t1 true) else (fe7_.j1 k x1 t1 (decide (9223372036854775807 < t1.2)))))
theorem fe7_.ok (k : Nat) : fe7_.Ctr (fe7_.f k) := by
 intro x1 x2 ch_0_0 ch_0_1 r h0 mi w0 ok hm
 delta fe7_.f at h0
 refine c_enterZ (n := 48) ok hm func70 rfl rfl rfl fun b0 hb a S => c_region (s_assign S rfl rfl fun a S => c_end (wp_seq (c_region (s_move S rfl rfl fun a S => s_bin S rfl rfl rfl rfl fun a S => c_end ?_))))
 rcases ite_of h0 with ⟨c1, h1⟩ | ⟨c1, h1⟩
 ·refine c_condT S rfl c1 (c_region' (s_mkI S (s := [.one (.string txt11)]) (v := (.string txt11)) rfl rfl rfl (by kernel_rfl) rfl fun a S => ?_))
  exact (nomatch h1)
 ·refine c_condF S rfl c1 (wp_skip (x_thenN (c_region (s_move S rfl rfl fun a S => s_lenS S rfl underlying65 rfl fun a S => s_conv S rfl rfl underlying118 rfl fun a S => s_move S rfl rfl fun a S => s_conv S rfl rfl underlying118 rfl fun a S => bindX h1 fun t1 et1 h2 => s_callP S _ N82 rfl rfl (fg1_.ok (wr .u64 ((x1).length : Int)) (wr .u64 x2) t1 et1 _ _) fun ch1 m le1 a w S => s_move S rfl rfl fun a S => s_extract S rfl rfl rfl rfl fun a S => s_extract S rfl rfl rfl rfl fun a S => s_assign S rfl rfl fun a S => s_assign S rfl rfl fun a S => c_end (wp_seq (wp_seq_k fun K1 hK1 => ?_))))))
  have j1 : ∀ m y1 a w, St 48 m b0 [(26, (.b y1)), (6, (.w t1.2)), (0, (.q PY61 ch_0_0 ch_0_1 x1))] [] a w → fe7_.j1 k x1 t1 y1 = some r → K1 a w := by
   intro m y1 a w S h0
   delta fe7_.j1 at h0
   refine hK1 a w ?_
   rcases ite_of h0 with ⟨c2, h1⟩ | ⟨c2, h1⟩
   ·refine c_condT S rfl c2 (c_region' (s_mkI S (s := [.one (.string txt12)]) (v := (.string txt12)) rfl rfl rfl (by kernel_rfl) rfl fun a S => ?_))
    exact (nomatch h1)
   ·refine c_condF S rfl c2 (wp_skip (x_thenN (c_region (s_move S rfl rfl fun a S => s_conv S rfl rfl underlying3 rfl fun a S => ?_))))
    obtain ⟨c3, h2⟩ := chk_of h1; clear h1
    refine s_make S (ty' := PY61) (z := PT61.nil) (c0 := none) rfl rfl underlying65 J61 Z61 rfl ⟨(okp_nil PH61 rfl), trivial⟩ c3.1 c3.2 rfl fun g1 a w S => s_assign S rfl rfl fun a S => c_end (c_region (s_move S rfl rfl fun a S => s_move S rfl rfl fun a S => s_copyV S (T := PY61) (N := min (x1).length (List.replicate (Int.toNat (wr .i64 t1.2)) (PT61.nil : PT61)).length) (lo := 0) (ys := x1) rfl .h (.inr ⟨rfl, rfl⟩) (by omega) rfl rfl (RdS.src (S.get 32 (.q PY61 ch_0_0 ch_0_1 x1) rfl).2.2.2.1 (by decide) S.frz) (congrArg (min _) (S.holds _ (Pull.mem .h).1).1.symm) underlying65 T61 rfl fun a w S => s_assign S rfl rfl fun a S => c_end (wp_seq_k fun K2 hK2 => ?_)))
    have j2 : ∀ m y6 a w, St 48 m b0 [(7, (.s (ad g1) (Int.toNat (wr .i64 t1.2)) (Int.toNat (wr .i64 t1.2))))] [Res.row PY61 61 (ad g1) (Int.toNat (wr .i64 t1.2)) (Int.toNat (wr .i64 t1.2)) y6] a w → fe7_.j2 y6 = some r → K2 a w := by
     intro m y6 a w S h0
     delta fe7_.j2 at h0
     refine hK2 a w (c_region (s_move S rfl rfl fun a S => s_assign S rfl rfl fun a S => c_end (wp_ret ?_)))
     obtain rfl := Option.some.inj h0
     exact b_ret1 (d := (.s (ad g1) (Int.toNat (wr .i64 t1.2)) (Int.toNat (wr .i64 t1.2)))) S rfl rfl fun ok => S.retX (Hx := []) hb _ _ (((ad g1), Int.toNat (wr .i64 t1.2), Int.toNat (wr .i64 t1.2)) : (Option Addr) × Nat × Nat) (.c0 .n) ok
    refine wp_block ?_
    refine c_loop (fun q1 a w => ∃ m y9 y10, St 48 m b0 [(8, (.i y9)), (7, (.s (ad g1) (Int.toNat (wr .i64 t1.2)) (Int.toNat (wr .i64 t1.2))))] [Res.row PY61 61 (ad g1) (Int.toNat (wr .i64 t1.2)) (Int.toNat (wr .i64 t1.2)) y10] a w ∧ fe7_.l1 q1 y9 y10 = some r) ?_ ?_ (k := k) ⟨_, ((min (x1).length (List.replicate (Int.toNat (wr .i64 t1.2)) (PT61.nil : PT61)).length : Nat) : Int), (cpyG (List.replicate (Int.toNat (wr .i64 t1.2)) (PT61.nil : PT61)) 0 x1 (min (x1).length (List.replicate (Int.toNat (wr .i64 t1.2)) (PT61.nil : PT61)).length)), (S.sb rfl (.c0 .n)), h2⟩
    ·rintro a w ⟨m, y9, y10, S, h0⟩
     exact (nomatch (show (none : Option ((List PT61))) = some r from h0))
    ·clear S h2
     rintro q1 a w ⟨m, y9, y10, S, h0⟩
     replace h0 : fe7_.b1 (fe7_.l1 q1) y9 y10 = some r := h0
     delta fe7_.b1 at h0
     refine wp_seq (c_region (s_move S rfl rfl fun a S => s_move S rfl rfl fun a S => s_lenO S rfl .h underlying65 rfl fun a S => s_bin S rfl rfl rfl rfl fun a S => c_end ?_))
     rcases ite_of h0 with ⟨c4, h1⟩ | ⟨c4, h1⟩
     ·refine c_condT S rfl c4 (wp_skip (x_thenN (wp_block (c_heldS S (.take 1 (.take 2 (.take 4 (.take 5 (.alts (.run 0 true (.alts (.run 3 true (.alts (.run 6 true (.alts (.run 7 false (.alts (.run 8 false (.alts (.run 9 false .done .nil)) .nil)) .nil)) .nil)) (.run 6 true (.alts (.run 3 true (.alts (.run 7 false (.alts (.run 8 false (.alts (.run 9 false .done .nil)) .nil)) .nil)) .nil)) .nil))) (.run 3 true (.alts (.run 0 true (.alts (.run 6 true (.alts (.run 7 false (.alts (.run 8 false (.alts (.run 9 false .done .nil)) .nil)) .nil)) .nil)) (.run 6 true (.alts (.run 0 true (.alts (.run 7 false (.alts (.run 8 false (.alts (.run 9 false .done .nil)) .nil)) .nil)) (.run 7 false (.alts (.run 0 false (.alts (.run 8 false (.alts (.run 9 false .done .nil)) .nil)) .nil)) .nil))) .nil))) (.run 6 true (.alts (.run 0 true (.alts (.run 3 true (.alts (.run 7 false (.alts (.run 8 false (.alts (.run 9 false .done .nil)) .nil)) .nil)) .nil)) (.run 3 true (.alts (.run 0 true (.alts (.run 7 false (.alts (.run 8 false (.alts (.run 9 false .done .nil)) .nil)) .nil)) (.run 7 false (.alts (.run 0 false (.alts (.run 8 false (.alts (.run 9 false .done .nil)) .nil)) .nil)) .nil))) .nil))) .nil)))))))) 7 [] .nil trivial [(8, (.i y9)), (7, (.s (ad g1) (Int.toNat (wr .i64 t1.2)) (Int.toNat (wr .i64 t1.2))))] (subR rfl) (by kernel_rfl) (by kernel_rfl) fun w S CL hw le => ?_))))
      refine h_move S CL hw le (subR rfl) rfl rfl rfl trivial fun a S CL => h_move S CL hw le (subR rfl) rfl rfl rfl trivial fun a S CL => h_move S CL hw le (subR rfl) rfl rfl rfl trivial fun a S CL => h_move S CL hw le (subR rfl) rfl rfl rfl trivial fun a S CL => ?_
      obtain ⟨c5, h2⟩ := chk_of h1; clear h1
      obtain ⟨c6, h3⟩ := chk_of h2; clear h2
      refine h_alts ?_
      refine h_runO S rfl trivial ?_ ?_
      ·refine s_move S rfl rfl fun a S => CL.bk hw S .nil le fun hw => h_alts ?_
       refine h_runO S rfl trivial ?_ ?_
       ·refine s_cutR S (ty' := PY61) (i := y9) (j := ((y10).length : Int)) rfl .h underlying65 T61 (.inr ⟨_, _, rfl, rfl⟩) (.inl ⟨rfl, congrArg (Nat.cast : Nat → Int) (S.holds _ (Pull.mem .h).1).1⟩) (by have h0 := (S.holds _ (Pull.mem .h).1).1; have h1 := c5; omega) rfl fun a S => CL.br hw S .nil le rfl trivial fun hw => (s_cutR S (ty' := PY61) (i := 0) (j := y9) rfl .h underlying65 T61 (.inl ⟨rfl, rfl⟩) (.inr ⟨_, _, rfl, rfl⟩) (by have h0 := (S.holds _ (Pull.mem .h).1).1; have h1 := c6; omega) rfl fun a S => CL.br hw S .nil le rfl trivial fun hw => (s_copyV S (T := PY61) (N := min (((y10).drop (Int.toNat 0)).take (Int.toNat y9 - Int.toNat 0)).length (Int.toNat ((y10).length : Int) - Int.toNat y9)) (lo := Int.toNat y9) (ys := ((y10).drop (Int.toNat 0)).take (Int.toNat y9 - Int.toNat 0)) rfl .h (.inl rfl) (by have h0 := (S.holds _ (Pull.mem .h).1).1; have h1 := c5; omega) rfl (congrArg (fun z => Value.slice _ z _) (show (((y10).drop (Int.toNat 0)).take (Int.toNat y9 - Int.toNat 0)).length = Int.toNat y9 - Int.toNat 0 by have h0 := (S.holds _ (Pull.mem .h).1).1; have h1 := c6; rw [List.length_take, List.length_drop]; omega).symm) (Res.row.srcV (S.holds _ (Pull.mem .h).1) (by have h0 := (S.holds _ (Pull.mem .h).1).1; have h1 := c6; omega)) rfl underlying65 T61 rfl fun a w S => ?_))
        refine h_back ⟨fun h => (nomatch h), ?_⟩
        refine h_run' S rfl trivial (s_bin S rfl rfl rfl rfl fun a S => ?_)
        refine h_back ⟨fun h => (nomatch h), ?_⟩
        refine h_run' S rfl trivial (s_assign S rfl rfl fun a S => ?_)
        refine h_back ⟨fun h => (nomatch h), ?_⟩
        replace CL := CL.drop (lq' := [(43, (.i y9)), (42, (.s (ad g1) (Int.toNat (wr .i64 t1.2)) (Int.toNat (wr .i64 t1.2)))), (40, (.i y9)), (39, (.s (ad g1) (Int.toNat (wr .i64 t1.2)) (Int.toNat (wr .i64 t1.2)))), (7, (.s (ad g1) (Int.toNat (wr .i64 t1.2)) (Int.toNat (wr .i64 t1.2))))]) (subR rfl)
        refine h_done ?_; clear CL hw le
        refine x_blockN (x_thenN ?_)
        exact ⟨_, (wr .i64 (y9 + ((min (((y10).drop (Int.toNat 0)).take (Int.toNat y9 - Int.toNat 0)).length (Int.toNat ((y10).length : Int) - Int.toNat y9) : Nat) : Int))), (cpyG y10 (Int.toNat y9) (((y10).drop (Int.toNat 0)).take (Int.toNat y9 - Int.toNat 0)) (min (((y10).drop (Int.toNat 0)).take (Int.toNat y9 - Int.toNat 0)).length (Int.toNat ((y10).length : Int) - Int.toNat y9))), (S.sb rfl (.c0 .n)), h3⟩
       refine h_runO S rfl trivial ?_ ?_
       ·refine s_cutR S (ty' := PY61) (i := 0) (j := y9) rfl .h underlying65 T61 (.inl ⟨rfl, rfl⟩) (.inr ⟨_, _, rfl, rfl⟩) (by have h0 := (S.holds _ (Pull.mem .h).1).1; have h1 := c6; omega) rfl fun a S => CL.br hw S .nil le rfl trivial fun hw => (s_cutR S (ty' := PY61) (i := y9) (j := ((y10).length : Int)) rfl .h underlying65 T61 (.inr ⟨_, _, rfl, rfl⟩) (.inl ⟨rfl, congrArg (Nat.cast : Nat → Int) (S.holds _ (Pull.mem .h).1).1⟩) (by have h0 := (S.holds _ (Pull.mem .h).1).1; have h1 := c5; omega) rfl fun a S => CL.br hw S .nil le rfl trivial fun hw => (s_copyV S (T := PY61) (N := min (((y10).drop (Int.toNat 0)).take (Int.toNat y9 - Int.toNat 0)).length (Int.toNat ((y10).length : Int) - Int.toNat y9)) (lo := Int.toNat y9) (ys := ((y10).drop (Int.toNat 0)).take (Int.toNat y9 - Int.toNat 0)) rfl .h (.inl rfl) (by have h0 := (S.holds _ (Pull.mem .h).1).1; have h1 := c5; omega) rfl (congrArg (fun z => Value.slice _ z _) (show (((y10).drop (Int.toNat 0)).take (Int.toNat y9 - Int.toNat 0)).length = Int.toNat y9 - Int.toNat 0 by have h0 := (S.holds _ (Pull.mem .h).1).1; have h1 := c6; rw [List.length_take, List.length_drop]; omega).symm) (Res.row.srcV (S.holds _ (Pull.mem .h).1) (by have h0 := (S.holds _ (Pull.mem .h).1).1; have h1 := c6; omega)) rfl underlying65 T61 rfl fun a w S => ?_))
        refine h_back ⟨fun h => (nomatch h), ?_⟩
        refine h_run' S rfl trivial (s_bin S rfl rfl rfl rfl fun a S => ?_)
        refine h_back ⟨fun h => (nomatch h), ?_⟩
        refine h_run' S rfl trivial (s_assign S rfl rfl fun a S => ?_)
        refine h_back ⟨fun h => (nomatch h), ?_⟩
        replace CL := CL.drop (lq' := [(43, (.i y9)), (42, (.s (ad g1) (Int.toNat (wr .i64 t1.2)) (Int.toNat (wr .i64 t1.2)))), (40, (.i y9)), (39, (.s (ad g1) (Int.toNat (wr .i64 t1.2)) (Int.toNat (wr .i64 t1.2)))), (7, (.s (ad g1) (Int.toNat (wr .i64 t1.2)) (Int.toNat (wr .i64 t1.2))))]) (subR rfl)
        refine h_done ?_; clear CL hw le
        refine x_blockN (x_thenN ?_)
        exact ⟨_, (wr .i64 (y9 + ((min (((y10).drop (Int.toNat 0)).take (Int.toNat y9 - Int.toNat 0)).length (Int.toNat ((y10).length : Int) - Int.toNat y9) : Nat) : Int))), (cpyG y10 (Int.toNat y9) (((y10).drop (Int.toNat 0)).take (Int.toNat y9 - Int.toNat 0)) (min (((y10).drop (Int.toNat 0)).take (Int.toNat y9 - Int.toNat 0)).length (Int.toNat ((y10).length : Int) - Int.toNat y9))), (S.sb rfl (.c0 .n)), h3⟩
       exact h_nil
      refine h_runO S rfl trivial ?_ ?_
      ·refine s_cutR S (ty' := PY61) (i := y9) (j := ((y10).length : Int)) rfl .h underlying65 T61 (.inr ⟨_, _, rfl, rfl⟩) (.inl ⟨rfl, congrArg (Nat.cast : Nat → Int) (S.holds _ (Pull.mem .h).1).1⟩) (by have h0 := (S.holds _ (Pull.mem .h).1).1; have h1 := c5; omega) rfl fun a S => CL.bk hw S .nil le fun hw => h_alts ?_
       refine h_runO S rfl trivial ?_ ?_
       ·refine s_move S rfl rfl fun a S => CL.br hw S .nil le rfl trivial fun hw => (s_cutR S (ty' := PY61) (i := 0) (j := y9) rfl .h underlying65 T61 (.inl ⟨rfl, rfl⟩) (.inr ⟨_, _, rfl, rfl⟩) (by have h0 := (S.holds _ (Pull.mem .h).1).1; have h1 := c6; omega) rfl fun a S => CL.br hw S .nil le rfl trivial fun hw => (s_copyV S (T := PY61) (N := min (((y10).drop (Int.toNat 0)).take (Int.toNat y9 - Int.toNat 0)).length (Int.toNat ((y10).length : Int) - Int.toNat y9)) (lo := Int.toNat y9) (ys := ((y10).drop (Int.toNat 0)).take (Int.toNat y9 - Int.toNat 0)) rfl .h (.inl rfl) (by have h0 := (S.holds _ (Pull.mem .h).1).1; have h1 := c5; omega) rfl (congrArg (fun z => Value.slice _ z _) (show (((y10).drop (Int.toNat 0)).take (Int.toNat y9 - Int.toNat 0)).length = Int.toNat y9 - Int.toNat 0 by have h0 := (S.holds _ (Pull.mem .h).1).1; have h1 := c6; rw [List.length_take, List.length_drop]; omega).symm) (Res.row.srcV (S.holds _ (Pull.mem .h).1) (by have h0 := (S.holds _ (Pull.mem .h).1).1; have h1 := c6; omega)) rfl underlying65 T61 rfl fun a w S => ?_))
        refine h_back ⟨fun h => (nomatch h), ?_⟩
        refine h_run' S rfl trivial (s_bin S rfl rfl rfl rfl fun a S => ?_)
        refine h_back ⟨fun h => (nomatch h), ?_⟩
        refine h_run' S rfl trivial (s_assign S rfl rfl fun a S => ?_)
        refine h_back ⟨fun h => (nomatch h), ?_⟩
        replace CL := CL.drop (lq' := [(43, (.i y9)), (42, (.s (ad g1) (Int.toNat (wr .i64 t1.2)) (Int.toNat (wr .i64 t1.2)))), (40, (.i y9)), (39, (.s (ad g1) (Int.toNat (wr .i64 t1.2)) (Int.toNat (wr .i64 t1.2)))), (7, (.s (ad g1) (Int.toNat (wr .i64 t1.2)) (Int.toNat (wr .i64 t1.2))))]) (subR rfl)
        refine h_done ?_; clear CL hw le
        refine x_blockN (x_thenN ?_)
        exact ⟨_, (wr .i64 (y9 + ((min (((y10).drop (Int.toNat 0)).take (Int.toNat y9 - Int.toNat 0)).length (Int.toNat ((y10).length : Int) - Int.toNat y9) : Nat) : Int))), (cpyG y10 (Int.toNat y9) (((y10).drop (Int.toNat 0)).take (Int.toNat y9 - Int.toNat 0)) (min (((y10).drop (Int.toNat 0)).take (Int.toNat y9 - Int.toNat 0)).length (Int.toNat ((y10).length : Int) - Int.toNat y9))), (S.sb rfl (.c0 .n)), h3⟩
       refine h_runO S rfl trivial ?_ ?_
       ·refine s_cutR S (ty' := PY61) (i := 0) (j := y9) rfl .h underlying65 T61 (.inl ⟨rfl, rfl⟩) (.inr ⟨_, _, rfl, rfl⟩) (by have h0 := (S.holds _ (Pull.mem .h).1).1; have h1 := c6; omega) rfl fun a S => CL.bk hw S .nil le fun hw => h_alts ?_
        refine h_runO S rfl trivial ?_ ?_
        ·refine s_move S rfl rfl fun a S => CL.br hw S .nil le rfl trivial fun hw => (s_copyV S (T := PY61) (N := min (((y10).drop (Int.toNat 0)).take (Int.toNat y9 - Int.toNat 0)).length (Int.toNat ((y10).length : Int) - Int.toNat y9)) (lo := Int.toNat y9) (ys := ((y10).drop (Int.toNat 0)).take (Int.toNat y9 - Int.toNat 0)) rfl .h (.inl rfl) (by have h0 := (S.holds _ (Pull.mem .h).1).1; have h1 := c5; omega) rfl (congrArg (fun z => Value.slice _ z _) (show (((y10).drop (Int.toNat 0)).take (Int.toNat y9 - Int.toNat 0)).length = Int.toNat y9 - Int.toNat 0 by have h0 := (S.holds _ (Pull.mem .h).1).1; have h1 := c6; rw [List.length_take, List.length_drop]; omega).symm) (Res.row.srcV (S.holds _ (Pull.mem .h).1) (by have h0 := (S.holds _ (Pull.mem .h).1).1; have h1 := c6; omega)) rfl underlying65 T61 rfl fun a w S => ?_)
         refine h_back ⟨fun h => (nomatch h), ?_⟩
         refine h_run' S rfl trivial (s_bin S rfl rfl rfl rfl fun a S => ?_)
         refine h_back ⟨fun h => (nomatch h), ?_⟩
         refine h_run' S rfl trivial (s_assign S rfl rfl fun a S => ?_)
         refine h_back ⟨fun h => (nomatch h), ?_⟩
         replace CL := CL.drop (lq' := [(43, (.i y9)), (42, (.s (ad g1) (Int.toNat (wr .i64 t1.2)) (Int.toNat (wr .i64 t1.2)))), (40, (.i y9)), (39, (.s (ad g1) (Int.toNat (wr .i64 t1.2)) (Int.toNat (wr .i64 t1.2)))), (7, (.s (ad g1) (Int.toNat (wr .i64 t1.2)) (Int.toNat (wr .i64 t1.2))))]) (subR rfl)
         refine h_done ?_; clear CL hw le
         refine x_blockN (x_thenN ?_)
         exact ⟨_, (wr .i64 (y9 + ((min (((y10).drop (Int.toNat 0)).take (Int.toNat y9 - Int.toNat 0)).length (Int.toNat ((y10).length : Int) - Int.toNat y9) : Nat) : Int))), (cpyG y10 (Int.toNat y9) (((y10).drop (Int.toNat 0)).take (Int.toNat y9 - Int.toNat 0)) (min (((y10).drop (Int.toNat 0)).take (Int.toNat y9 - Int.toNat 0)).length (Int.toNat ((y10).length : Int) - Int.toNat y9))), (S.sb rfl (.c0 .n)), h3⟩
        refine h_runO S rfl trivial ?_ ?_
        ·refine s_copyV S (T := PY61) (N := min (((y10).drop (Int.toNat 0)).take (Int.toNat y9 - Int.toNat 0)).length (Int.toNat ((y10).length : Int) - Int.toNat y9)) (lo := Int.toNat y9) (ys := ((y10).drop (Int.toNat 0)).take (Int.toNat y9 - Int.toNat 0)) rfl .h (.inl rfl) (by have h0 := (S.holds _ (Pull.mem .h).1).1; have h1 := c5; omega) rfl (congrArg (fun z => Value.slice _ z _) (show (((y10).drop (Int.toNat 0)).take (Int.toNat y9 - Int.toNat 0)).length = Int.toNat y9 - Int.toNat 0 by have h0 := (S.holds _ (Pull.mem .h).1).1; have h1 := c6; rw [List.length_take, List.length_drop]; omega).symm) (Res.row.srcV (S.holds _ (Pull.mem .h).1) (by have h0 := (S.holds _ (Pull.mem .h).1).1; have h1 := c6; omega)) rfl underlying65 T61 rfl fun a w S => ?_
         refine h_back ⟨fun h => (nomatch h), ?_⟩
         refine h_run' S rfl trivial (s_move S rfl rfl fun a S => ?_)
         refine h_back ⟨fun h => (nomatch h), ?_⟩
         refine h_run' S rfl trivial (s_bin S rfl rfl rfl rfl fun a S => ?_)
         refine h_back ⟨fun h => (nomatch h), ?_⟩
         refine h_run' S rfl trivial (s_assign S rfl rfl fun a S => ?_)
         refine h_back ⟨fun h => (nomatch h), ?_⟩
         replace CL := CL.drop (lq' := [(43, (.i y9)), (42, (.s (ad g1) (Int.toNat (wr .i64 t1.2)) (Int.toNat (wr .i64 t1.2)))), (40, (.i y9)), (39, (.s (ad g1) (Int.toNat (wr .i64 t1.2)) (Int.toNat (wr .i64 t1.2)))), (7, (.s (ad g1) (Int.toNat (wr .i64 t1.2)) (Int.toNat (wr .i64 t1.2))))]) (subR rfl)
         refine h_done ?_; clear CL hw le
         refine x_blockN (x_thenN ?_)
         exact ⟨_, (wr .i64 (y9 + ((min (((y10).drop (Int.toNat 0)).take (Int.toNat y9 - Int.toNat 0)).length (Int.toNat ((y10).length : Int) - Int.toNat y9) : Nat) : Int))), (cpyG y10 (Int.toNat y9) (((y10).drop (Int.toNat 0)).take (Int.toNat y9 - Int.toNat 0)) (min (((y10).drop (Int.toNat 0)).take (Int.toNat y9 - Int.toNat 0)).length (Int.toNat ((y10).length : Int) - Int.toNat y9))), (S.sb rfl (.c0 .n)), h3⟩
        exact h_nil
       exact h_nil
      refine h_runO S rfl trivial ?_ ?_
      ·refine s_cutR S (ty' := PY61) (i := 0) (j := y9) rfl .h underlying65 T61 (.inl ⟨rfl, rfl⟩) (.inr ⟨_, _, rfl, rfl⟩) (by have h0 := (S.holds _ (Pull.mem .h).1).1; have h1 := c6; omega) rfl fun a S => CL.bk hw S .nil le fun hw => h_alts ?_
       refine h_runO S rfl trivial ?_ ?_
       ·refine s_move S rfl rfl fun a S => CL.br hw S .nil le rfl trivial fun hw => (s_cutR S (ty' := PY61) (i := y9) (j := ((y10).length : Int)) rfl .h underlying65 T61 (.inr ⟨_, _, rfl, rfl⟩) (.inl ⟨rfl, congrArg (Nat.cast : Nat → Int) (S.holds _ (Pull.mem .h).1).1⟩) (by have h0 := (S.holds _ (Pull.mem .h).1).1; have h1 := c5; omega) rfl fun a S => CL.br hw S .nil le rfl trivial fun hw => (s_copyV S (T := PY61) (N := min (((y10).drop (Int.toNat 0)).take (Int.toNat y9 - Int.toNat 0)).length (Int.toNat ((y10).length : Int) - Int.toNat y9)) (lo := Int.toNat y9) (ys := ((y10).drop (Int.toNat 0)).take (Int.toNat y9 - Int.toNat 0)) rfl .h (.inl rfl) (by have h0 := (S.holds _ (Pull.mem .h).1).1; have h1 := c5; omega) rfl (congrArg (fun z => Value.slice _ z _) (show (((y10).drop (Int.toNat 0)).take (Int.toNat y9 - Int.toNat 0)).length = Int.toNat y9 - Int.toNat 0 by have h0 := (S.holds _ (Pull.mem .h).1).1; have h1 := c6; rw [List.length_take, List.length_drop]; omega).symm) (Res.row.srcV (S.holds _ (Pull.mem .h).1) (by have h0 := (S.holds _ (Pull.mem .h).1).1; have h1 := c6; omega)) rfl underlying65 T61 rfl fun a w S => ?_))
        refine h_back ⟨fun h => (nomatch h), ?_⟩
        refine h_run' S rfl trivial (s_bin S rfl rfl rfl rfl fun a S => ?_)
        refine h_back ⟨fun h => (nomatch h), ?_⟩
        refine h_run' S rfl trivial (s_assign S rfl rfl fun a S => ?_)
        refine h_back ⟨fun h => (nomatch h), ?_⟩
        replace CL := CL.drop (lq' := [(43, (.i y9)), (42, (.s (ad g1) (Int.toNat (wr .i64 t1.2)) (Int.toNat (wr .i64 t1.2)))), (40, (.i y9)), (39, (.s (ad g1) (Int.toNat (wr .i64 t1.2)) (Int.toNat (wr .i64 t1.2)))), (7, (.s (ad g1) (Int.toNat (wr .i64 t1.2)) (Int.toNat (wr .i64 t1.2))))]) (subR rfl)
        refine h_done ?_; clear CL hw le
        refine x_blockN (x_thenN ?_)
        exact ⟨_, (wr .i64 (y9 + ((min (((y10).drop (Int.toNat 0)).take (Int.toNat y9 - Int.toNat 0)).length (Int.toNat ((y10).length : Int) - Int.toNat y9) : Nat) : Int))), (cpyG y10 (Int.toNat y9) (((y10).drop (Int.toNat 0)).take (Int.toNat y9 - Int.toNat 0)) (min (((y10).drop (Int.toNat 0)).take (Int.toNat y9 - Int.toNat 0)).length (Int.toNat ((y10).length : Int) - Int.toNat y9))), (S.sb rfl (.c0 .n)), h3⟩
       refine h_runO S rfl trivial ?_ ?_
       ·refine s_cutR S (ty' := PY61) (i := y9) (j := ((y10).length : Int)) rfl .h underlying65 T61 (.inr ⟨_, _, rfl, rfl⟩) (.inl ⟨rfl, congrArg (Nat.cast : Nat → Int) (S.holds _ (Pull.mem .h).1).1⟩) (by have h0 := (S.holds _ (Pull.mem .h).1).1; have h1 := c5; omega) rfl fun a S => CL.bk hw S .nil le fun hw => h_alts ?_
        refine h_runO S rfl trivial ?_ ?_
        ·refine s_move S rfl rfl fun a S => CL.br hw S .nil le rfl trivial fun hw => (s_copyV S (T := PY61) (N := min (((y10).drop (Int.toNat 0)).take (Int.toNat y9 - Int.toNat 0)).length (Int.toNat ((y10).length : Int) - Int.toNat y9)) (lo := Int.toNat y9) (ys := ((y10).drop (Int.toNat 0)).take (Int.toNat y9 - Int.toNat 0)) rfl .h (.inl rfl) (by have h0 := (S.holds _ (Pull.mem .h).1).1; have h1 := c5; omega) rfl (congrArg (fun z => Value.slice _ z _) (show (((y10).drop (Int.toNat 0)).take (Int.toNat y9 - Int.toNat 0)).length = Int.toNat y9 - Int.toNat 0 by have h0 := (S.holds _ (Pull.mem .h).1).1; have h1 := c6; rw [List.length_take, List.length_drop]; omega).symm) (Res.row.srcV (S.holds _ (Pull.mem .h).1) (by have h0 := (S.holds _ (Pull.mem .h).1).1; have h1 := c6; omega)) rfl underlying65 T61 rfl fun a w S => ?_)
         refine h_back ⟨fun h => (nomatch h), ?_⟩
         refine h_run' S rfl trivial (s_bin S rfl rfl rfl rfl fun a S => ?_)
         refine h_back ⟨fun h => (nomatch h), ?_⟩
         refine h_run' S rfl trivial (s_assign S rfl rfl fun a S => ?_)
         refine h_back ⟨fun h => (nomatch h), ?_⟩
         replace CL := CL.drop (lq' := [(43, (.i y9)), (42, (.s (ad g1) (Int.toNat (wr .i64 t1.2)) (Int.toNat (wr .i64 t1.2)))), (40, (.i y9)), (39, (.s (ad g1) (Int.toNat (wr .i64 t1.2)) (Int.toNat (wr .i64 t1.2)))), (7, (.s (ad g1) (Int.toNat (wr .i64 t1.2)) (Int.toNat (wr .i64 t1.2))))]) (subR rfl)
         refine h_done ?_; clear CL hw le
         refine x_blockN (x_thenN ?_)
         exact ⟨_, (wr .i64 (y9 + ((min (((y10).drop (Int.toNat 0)).take (Int.toNat y9 - Int.toNat 0)).length (Int.toNat ((y10).length : Int) - Int.toNat y9) : Nat) : Int))), (cpyG y10 (Int.toNat y9) (((y10).drop (Int.toNat 0)).take (Int.toNat y9 - Int.toNat 0)) (min (((y10).drop (Int.toNat 0)).take (Int.toNat y9 - Int.toNat 0)).length (Int.toNat ((y10).length : Int) - Int.toNat y9))), (S.sb rfl (.c0 .n)), h3⟩
        refine h_runO S rfl trivial ?_ ?_
        ·refine s_copyV S (T := PY61) (N := min (((y10).drop (Int.toNat 0)).take (Int.toNat y9 - Int.toNat 0)).length (Int.toNat ((y10).length : Int) - Int.toNat y9)) (lo := Int.toNat y9) (ys := ((y10).drop (Int.toNat 0)).take (Int.toNat y9 - Int.toNat 0)) rfl .h (.inl rfl) (by have h0 := (S.holds _ (Pull.mem .h).1).1; have h1 := c5; omega) rfl (congrArg (fun z => Value.slice _ z _) (show (((y10).drop (Int.toNat 0)).take (Int.toNat y9 - Int.toNat 0)).length = Int.toNat y9 - Int.toNat 0 by have h0 := (S.holds _ (Pull.mem .h).1).1; have h1 := c6; rw [List.length_take, List.length_drop]; omega).symm) (Res.row.srcV (S.holds _ (Pull.mem .h).1) (by have h0 := (S.holds _ (Pull.mem .h).1).1; have h1 := c6; omega)) rfl underlying65 T61 rfl fun a w S => ?_
         refine h_back ⟨fun h => (nomatch h), ?_⟩
         refine h_run' S rfl trivial (s_move S rfl rfl fun a S => ?_)
         refine h_back ⟨fun h => (nomatch h), ?_⟩
         refine h_run' S rfl trivial (s_bin S rfl rfl rfl rfl fun a S => ?_)
         refine h_back ⟨fun h => (nomatch h), ?_⟩
         refine h_run' S rfl trivial (s_assign S rfl rfl fun a S => ?_)
         refine h_back ⟨fun h => (nomatch h), ?_⟩
         replace CL := CL.drop (lq' := [(43, (.i y9)), (42, (.s (ad g1) (Int.toNat (wr .i64 t1.2)) (Int.toNat (wr .i64 t1.2)))), (40, (.i y9)), (39, (.s (ad g1) (Int.toNat (wr .i64 t1.2)) (Int.toNat (wr .i64 t1.2)))), (7, (.s (ad g1) (Int.toNat (wr .i64 t1.2)) (Int.toNat (wr .i64 t1.2))))]) (subR rfl)
         refine h_done ?_; clear CL hw le
         refine x_blockN (x_thenN ?_)
         exact ⟨_, (wr .i64 (y9 + ((min (((y10).drop (Int.toNat 0)).take (Int.toNat y9 - Int.toNat 0)).length (Int.toNat ((y10).length : Int) - Int.toNat y9) : Nat) : Int))), (cpyG y10 (Int.toNat y9) (((y10).drop (Int.toNat 0)).take (Int.toNat y9 - Int.toNat 0)) (min (((y10).drop (Int.toNat 0)).take (Int.toNat y9 - Int.toNat 0)).length (Int.toNat ((y10).length : Int) - Int.toNat y9))), (S.sb rfl (.c0 .n)), h3⟩
        exact h_nil
       exact h_nil
      exact h_nil
     ·refine c_condF S rfl c4 (wp_exit (x_thenX (x_thenX (x_blockX (x_thenN ?_)))))
      exact j2 _ y10 a w (S.sub ⟨rfl, trivial⟩ (.c0 .n)) h1
  refine c_region' (s_move S rfl rfl fun a S => s_bin S rfl rfl rfl rfl fun a S => s_move S rfl rfl fun a S => ?_)
  rcases ite_of h2 with ⟨c7, h3⟩ | ⟨c7, h3⟩
  ·refine s_gF S (b := (decide (0 < t1.1))) rfl rfl c7 rfl fun a S => s_gF S (b := (decide (0 < t1.1))) rfl rfl c7 rfl fun a S => s_pick S (b := true) (hc_of rfl c7) rfl rfl fun a S => c_end' (x_thenN ?_)
   exact j1 _ true a w (S.sb rfl .nil) h3
  ·refine s_gT S (b := (decide (0 < t1.1))) rfl rfl c7 (s_move S rfl rfl fun a S => s_gT S (b := (decide (0 < t1.1))) rfl rfl c7 (s_bin S rfl rfl rfl rfl fun a S => s_pick S (b := false) (hc_of rfl c7) rfl rfl fun a S => c_end' (x_thenN ?_)))
   exact j1 _ (decide (9223372036854775807 < t1.2)) a w (S.sb rfl .nil) h3
abbrev fa8_.Ty : Type := PT61 → Int → Option ((List PT61))
def fa8_.Ctr (s : fa8_.Ty) : Prop := ∀ (x1 : PT61) (x2 : Int) (ch_0_0 : Option Addr) (r : (List PT61)), Ct (C := ((Option Addr) × Nat)) Tryd.prog 44 (s x1 x2 = some r) [] [(.rf (.pointer ch_0_0) (PR61 ch_0_0 x1)), (.i x2)] (fun ch => (.q PY61 ch.1 ch.2 r)) fun _ => []
def fa8_.f (k : Nat) (x1 : PT61) (x2 : Int) : Option ((List PT61)) := if PT61.nn x1 = true then (if (((PT61.to x1).1) == 6) = true then (some ((PT61.to x1).2.2)) else ((fe7_.f k ((PT61.to x1).2.2) x2).bind fun t1 => (some t1))) else none
theorem fa8_.ok (k : Nat) : fa8_.Ctr (fa8_.f k) := by
 intro x1 x2 ch_0_0 r h0 mi w0 ok hm
 delta fa8_.f at h0
 refine c_enterZ (n := 20) ok hm func44 rfl rfl rfl fun b0 hb a S => c_region (s_assign S rfl rfl fun a S => c_end (wp_seq (c_region (s_move S rfl rfl fun a S => ?_))))
 obtain ⟨c1, h1⟩ := chk_of h0; clear h0
 refine s_nilQ S rfl PH61 c1 rfl fun a S => s_faddrP S (tF := yb) (y := (PT61.to x1).1) rfl I67_0 T64 (by decide) (fun m h => (at_fst (at_0 h))) rfl fun a S => s_ld1 S (v := (.int .u8 ((PT61.to x1).1))) rfl T64 (fun _ => rfl) rfl fun a S => s_bin S rfl rfl rfl rfl fun a S => c_end ?_
 rcases ite_of h1 with ⟨c2, h2⟩ | ⟨c2, h2⟩
 ·refine c_condT S rfl c2 (c_region (s_move S rfl rfl fun a S => s_nilQ S rfl PH61 c1 rfl fun a S => s_faddrP S (tF := (Ty.slice PY61)) (y := (PT61.to x1).2.2) rfl I67_2 T65 (by decide) (fun m h => (at_snd (at_snd (at_0 h)))) rfl fun a S => s_ldS S (fun c => c) rfl T65 (fun _ => rfl) rfl fun A1 cp1 a S => s_assign S rfl rfl fun a S => c_end (wp_ret (x_thenR ?_))))
  obtain rfl := Option.some.inj h2
  exact b_ret1 (d := (.q PY61 A1 cp1 ((PT61.to x1).2.2))) S rfl rfl fun ok => S.retX (Hx := []) hb _ _ ((A1, cp1) : (Option Addr) × Nat) .nil ok
 ·refine c_condF S rfl c2 (wp_skip (x_thenN (c_region (s_move S rfl rfl fun a S => s_nilQ S rfl PH61 c1 rfl fun a S => s_faddrP S (tF := (Ty.slice PY61)) (y := (PT61.to x1).2.2) rfl I67_2 T65 (by decide) (fun m h => (at_snd (at_snd (at_0 h)))) rfl fun a S => s_ldS S (fun c => c) rfl T65 (fun _ => rfl) rfl fun A2 cp2 a S => s_move S rfl rfl fun a S => bindX h2 fun t1 et1 h3 => s_callR S (fun (ch : (Option Addr) × Nat × Nat) => ((.s ch.1 ch.2.1 ch.2.2) : D)) (fun (ch : (Option Addr) × Nat × Nat) => Res.row PY61 61 ch.1 ch.2.1 ch.2.2 t1) N70 rfl rfl (fe7_.ok k ((PT61.to x1).2.2) x2 A2 cp2 t1 et1 _ _) fun ch1 m le1 a w S => s_assign S rfl rfl fun a S => c_end (wp_ret ?_)))))
  replace S := S.rowfro .h
  obtain ⟨m, le1, S, hro⟩ := S
  replace S := S.slotro (u := 4) rfl hro
  replace S := S.slotro (u := 19) rfl hro
  obtain rfl := Option.some.inj h3
  exact b_ret1 (d := (.q PY61 ch1.1 ch1.2.2 t1)) S rfl rfl fun ok => S.retX (Hx := []) hb _ _ ((ch1.1, ch1.2.2) : (Option Addr) × Nat) .nil ok
abbrev fg0_.Ty : Type := PT61 → L38 → Option (L38 × Bool)
def fg0_.Ctr (s : fg0_.Ty) : Prop := ∀ (x1 : PT61) (x2 : L38) (ch_0_0 : Option Addr) (ch_1_0 : Option Addr) (ch_1_1 : Nat) (r : L38 × Bool), Ct (C := ((Option Addr) × Nat)) Tryd.prog 29 (s x1 x2 = some r) [] [(.rf (.pointer ch_0_0) (PR61 ch_0_0 x1)), (.q Y56 ch_1_0 ch_1_1 x2)] (fun ch => (.tup [(false, [.q Y56 ch.1 ch.2 r.1]), (false, [.b r.2])])) fun _ => []
def fg0_.j3 (y8 : List ((List Int) × (List Int) × Int)) : Option (L38 × Bool) := some (y8, true)
def fg0_.b1 (self0 : fg0_.Ty) (t1 : (List PT61)) (rec1 : Int → (List ((List Int) × (List Int) × Int)) → Option (L38 × Bool)) (y11 : Int) (y12 : List ((List Int) × (List Int) × Int)) : Option (L38 × Bool) := if (decide (y11 < ((t1).length : Int))) = true then (if (0 : Int) ≤ y11 ∧ y11 < ((t1).length : Int) then ((self0 (gt t1 y11) y12).bind fun t4 => (if (!t4.2) = true then (some (([] : List ((List Int) × (List Int) × Int)), false)) else (rec1 (wr .i64 (y11 + 1)) t4.1))) else none) else (fg0_.j3 y12)
def fg0_.l1 (self0 : fg0_.Ty) (t1 : (List PT61)) : Nat → Int → (List ((List Int) × (List Int) × Int)) → Option (L38 × Bool)
  | 0, _, _ => none
  | q + 1, y11, y12 => fg0_.b1 self0 t1 (fg0_.l1 self0 t1 q) y11 y12
def fg0_.j2 (k : Nat) (self0 : fg0_.Ty) (x1 : PT61) (x2 : L38) (y3 : Bool) : Option (L38 × Bool) := if y3 = true then (some (([] : List ((List Int) × (List Int) × Int)), false)) else ((fa8_.f k x1 ((gt x2 0).2.2)).bind fun t1 => (fg0_.l1 self0 t1 k 0 (x2.drop (Int.toNat 1))))
def fg0_.j4 (k : Nat) (self0 : fg0_.Ty) (x1 : PT61) (x2 : L38) (y13 : Bool) : Option (L38 × Bool) := if y13 = true then (fg0_.j2 k self0 x1 x2 y13) else (if (((PT61.to x1).1) == 6) = true then (fg0_.j2 k self0 x1 x2 (((gt x2 0).2.2) != (((PT61.to x1).2.2).length : Int))) else (fg0_.j2 k self0 x1 x2 false))
def fg0_.j1 (k : Nat) (self0 : fg0_.Ty) (x1 : PT61) (x2 : L38) (y1 : Bool) : Option (L38 × Bool) := if y1 = true then (some (([] : List ((List Int) × (List Int) × Int)), false)) else (if (((PT61.to x1).1) == 5) = true then (fg0_.j4 k self0 x1 x2 (((gt x2 0).2.2) != ((PT61.to x1).2.1))) else (fg0_.j4 k self0 x1 x2 false))
def fg0_.body (self0 : fg0_.Ty) (k : Nat) (x1 : PT61) (x2 : L38) : Option (L38 × Bool) := if (((x2).length : Int) == 0) = true then (some (([] : List ((List Int) × (List Int) × Int)), false)) else (if (0 : Int) ≤ 0 ∧ 0 < ((x2).length : Int) then (if (0 : Int) ≤ 1 ∧ (1 : Int) ≤ ((x2).length : Int) ∧ ((x2).length : Int) ≤ ((x2).length : Int) then (if PT61.nn x1 = true then (if (decide (((PT61.to x1).1) < 3)) = true then (if (((gt x2 0).2.2) == 0) = true then (some (x2.drop (Int.toNat 1), (((gt x2 0).2.1).length : Int) == 0)) else (some (x2.drop (Int.toNat 1), false))) else (if (((PT61.to x1).1) == 3) = true then (if (((gt x2 0).2.2) == 0) = true then (some (x2.drop (Int.toNat 1), decide ((gt x2 0).1 = [0, 0, 0, 0]))) else (some (x2.drop (Int.toNat 1), false))) else (if (decide (0 < (((gt x2 0).2.1).length : Int))) = true then (fg0_.j1 k self0 x1 x2 true) else (if (!(decide ((gt x2 0).1 = [0, 0, 0, 0]))) = true then (fg0_.j1 k self0 x1 x2 true) else (if (decide (((gt x2 0).2.2) < 0)) = true then (fg0_.j1 k self0 x1 x2 true) else (fg0_.j1 k self0 x1 x2 (decide (((x2.drop (Int.toNat 1)).length : Int) < ((gt x2 0).2.2))))))))) else none) else none) else none)
theorem fg0_.okb (self0 : fg0_.Ty) (c_0 : fg0_.Ctr self0) (k : Nat) : fg0_.Ctr (fg0_.body self0 k) := by
 intro x1 x2 ch_0_0 ch_1_0 ch_1_1 r h0 mi w0 ok hm
 delta fg0_.body at h0
 refine c_enterZ (n := 124) ok hm func29 rfl rfl rfl fun b0 hb a S => c_region (s_assign S rfl rfl fun a S => s_assign S rfl rfl fun a S => c_end (wp_seq (c_region (s_move S rfl rfl fun a S => s_lenS S rfl underlying38 rfl fun a S => s_bin S rfl rfl rfl rfl fun a S => c_end ?_))))
 rcases ite_of h0 with ⟨c1, h1⟩ | ⟨c1, h1⟩
 ·refine c_condT S rfl c1 (c_region (s_assign S rfl rfl fun a S => s_assign S rfl rfl fun a S => c_end (wp_ret (x_thenR ?_))))
  replace S := S.slot (u := 4) (d' := (.q Y56 none 0 ([] : List ((List Int) × (List Int) × Int)))) rfl rfl ok_nil
  obtain rfl := Option.some.inj h1
  exact b_ret2 (d1 := (.q Y56 none 0 ([] : List ((List Int) × (List Int) × Int)))) (d2 := (.b false)) S rfl rfl rfl fun ok1 ok2 => S.retX (Hx := []) hb _ _ ((none, 0) : (Option Addr) × Nat) .nil ⟨⟨ok1, trivial⟩, ⟨ok2, trivial⟩, trivial⟩
 ·refine c_condF S rfl c1 (wp_skip (x_thenN (c_region (s_move S rfl rfl fun a S => ?_))))
  obtain ⟨c2, h2⟩ := chk_of h1; clear h1
  refine s_iaddrS S rfl rfl rfl underlying38 T56 c2.1 c2.2 rfl fun p1 a S => s_ldA S (fun (c : Unit × (Option Addr × Nat) × Unit) => (Y56.segs (gt x2 0) c)) rfl T56 (fun _ => rfl) rfl fun ch1 a S => ?_
  refine s_alloc S Z56 rfl ⟨rfl, rfl, rfl, trivial⟩ rfl fun g1 a w S => s_store S rfl rfl rfl (s' := [.w4 ((gt x2 0).1), .q yb ch1.2.1.1 ch1.2.1.2 ((gt x2 0).2.1), .i ((gt x2 0).2.2)]) .h T56 rfl rfl fun w S => c_end (c_region (s_move S rfl rfl fun a S => ?_))
  obtain ⟨c3, h3⟩ := chk_of h2; clear h2
  refine s_cutS S (i := 1) (j := ((x2).length : Int)) (ys := x2.drop (Int.toNat 1)) rfl rfl underlying38 T56 (.inr ⟨_, _, rfl, rfl⟩) (.inl ⟨rfl, rfl⟩) c3 rfl (cut_end rfl) fun A1 cp1 a S => s_assign S rfl rfl fun a S => c_end (wp_seq (wp_block (c_region (s_move S rfl rfl fun a S => ?_))))
  obtain ⟨c4, h4⟩ := chk_of h3; clear h3
  refine s_nilQ S rfl PH61 c4 rfl fun a S => s_faddrP S (tF := yb) (y := (PT61.to x1).1) rfl I67_0 T64 (by decide) (fun m h => (at_fst (at_0 h))) rfl fun a S => s_ld1 S (v := (.int .u8 ((PT61.to x1).1))) rfl T64 (fun _ => rfl) rfl fun a S => s_bin S rfl rfl rfl rfl fun a S => s_assign S rfl rfl fun a S => c_end ?_
  rcases ite_of h4 with ⟨c5, h5⟩ | ⟨c5, h5⟩
  ·refine c_condT S rfl c5 ?_
   refine wp_seq (c_heldS S (.take 0 (.take 1 (.take 2 (.take 3 (.take 4 (.take 5 (.take 6 (.take 7 (.take 8 (.take 9 (.take 10 (.take 11 .done)))))))))))) 12 [Res.cells g1 56 (Y56.segs (gt x2 0) ch1)] (.c0 .n) ⟨Res.stay_cells, trivial⟩ [(1, (.q Y56 A1 cp1 (x2.drop (Int.toNat 1)))), (6, (.p g1))] (subR rfl) (by kernel_rfl) (by kernel_rfl) ?_); clear S; intro w S CL hw le
   refine h_move S CL hw le (subR rfl) rfl rfl rfl trivial fun a S CL => h_fieldAddr S CL hw le (subR rfl) rfl I56_2 T3 (by decide) rfl rfl rfl trivial fun a S CL => h_load1 S CL hw le (subR rfl) rfl .h T3 (v := (.int .i64 ((gt x2 0).2.2))) rfl rfl rfl trivial fun a S CL => h_bin S CL hw le (subR rfl) rfl rfl rfl rfl rfl trivial fun a S CL => h_move S CL hw le (subR rfl) rfl rfl rfl trivial fun a S CL => ?_
   rcases ite_of h5 with ⟨c6, h6⟩ | ⟨c6, h6⟩
   ·refine h_fieldAddr S CL hw le (subR rfl) rfl I56_1 T26 (by decide) rfl rfl rfl ⟨_, _, rfl, rfl, c6⟩ fun a S CL => h_loadSl S CL hw le (subR rfl) rfl .h T26 (A := ch1.2.1.1) (len := ((gt x2 0).2.1).length) (cap := ch1.2.1.2) rfl rfl rfl ⟨_, _, rfl, rfl, c6⟩ fun a S CL => h_lenS S CL hw le (subR rfl) rfl underlying26 rfl rfl ⟨_, _, rfl, rfl, c6⟩ fun a S CL => h_bin S CL hw le (subR rfl) rfl rfl rfl rfl rfl ⟨_, _, rfl, rfl, c6⟩ fun a S CL => h_pick S CL hw le (subR rfl) (b := true) (hc_of rfl c6) rfl rfl rfl trivial fun a S CL => h_assign S CL hw le (subR rfl) rfl rfl rfl trivial fun a S CL => h_assign S CL hw le (subR rfl) rfl rfl rfl trivial fun a S CL => ?_
    refine h_done ?_; clear CL hw le
    refine x_thenN (wp_ret (x_blockR (x_thenR ?_)))
    obtain rfl := Option.some.inj h6
    exact b_ret2 (d1 := (.q Y56 A1 cp1 (x2.drop (Int.toNat 1)))) (d2 := (.b ((((gt x2 0).2.1).length : Int) == 0))) S rfl rfl rfl fun ok1 ok2 => S.retX (Hx := []) hb _ _ ((A1, cp1) : (Option Addr) × Nat) .nil ⟨⟨ok1, trivial⟩, ⟨ok2, trivial⟩, trivial⟩
   ·refine h_skip S CL rfl rfl rfl (ne_bool c6) rfl fun a S CL => h_skip S CL rfl rfl rfl (ne_bool c6) rfl fun a S CL => h_skip S CL rfl rfl rfl (ne_bool c6) rfl fun a S CL => h_skip S CL rfl rfl rfl (ne_bool c6) rfl fun a S CL => h_pick S CL hw le (subR rfl) (b := false) (hc_of rfl c6) rfl rfl rfl trivial fun a S CL => h_assign S CL hw le (subR rfl) rfl rfl rfl trivial fun a S CL => h_assign S CL hw le (subR rfl) rfl rfl rfl trivial fun a S CL => ?_
    refine h_done ?_; clear CL hw le
    refine x_thenN (wp_ret (x_blockR (x_thenR ?_)))
    obtain rfl := Option.some.inj h6
    exact b_ret2 (d1 := (.q Y56 A1 cp1 (x2.drop (Int.toNat 1)))) (d2 := (.b false)) S rfl rfl rfl fun ok1 ok2 => S.retX (Hx := []) hb _ _ ((A1, cp1) : (Option Addr) × Nat) .nil ⟨⟨ok1, trivial⟩, ⟨ok2, trivial⟩, trivial⟩
  ·refine c_condF S rfl c5 (c_region (s_move S rfl rfl fun a S => s_nilQ S rfl PH61 c4 rfl fun a S => s_faddrP S (tF := yb) (y := (PT61.to x1).1) rfl I67_0 T64 (by decide) (fun m h => (at_fst (at_0 h))) rfl fun a S => s_ld1 S (v := (.int .u8 ((PT61.to x1).1))) rfl T64 (fun _ => rfl) rfl fun a S => s_bin S rfl rfl rfl rfl fun a S => s_assign S rfl rfl fun a S => c_end ?_))
   rcases ite_of h5 with ⟨c7, h6⟩ | ⟨c7, h6⟩
   ·refine c_condT S rfl c7 ?_
    refine wp_seq (c_heldS S (.take 0 (.take 1 (.take 2 (.take 3 (.take 4 (.take 5 (.take 6 (.take 7 (.take 8 (.take 9 (.take 10 (.take 11 .done)))))))))))) 12 [Res.cells g1 56 (Y56.segs (gt x2 0) ch1)] (.c0 .n) ⟨Res.stay_cells, trivial⟩ [(1, (.q Y56 A1 cp1 (x2.drop (Int.toNat 1)))), (6, (.p g1))] (subR rfl) (by kernel_rfl) (by kernel_rfl) ?_); clear S; intro w S CL hw le
    refine h_move S CL hw le (subR rfl) rfl rfl rfl trivial fun a S CL => h_fieldAddr S CL hw le (subR rfl) rfl I56_2 T3 (by decide) rfl rfl rfl trivial fun a S CL => h_load1 S CL hw le (subR rfl) rfl .h T3 (v := (.int .i64 ((gt x2 0).2.2))) rfl rfl rfl trivial fun a S CL => h_bin S CL hw le (subR rfl) rfl rfl rfl rfl rfl trivial fun a S CL => h_move S CL hw le (subR rfl) rfl rfl rfl trivial fun a S CL => ?_
    rcases ite_of h6 with ⟨c8, h7⟩ | ⟨c8, h7⟩
    ·refine h_fieldAddr S CL hw le (subR rfl) rfl I56_0 T54 (by decide) rfl rfl rfl ⟨_, _, rfl, rfl, c8⟩ fun a S CL => h_loada S CL hw le (subR rfl) rfl .h T54 (s' := [.w4 ((gt x2 0).1)]) rfl rfl rfl ⟨_, _, rfl, rfl, c8⟩ fun a S CL => h_build S CL hw le (subR rfl) (ds := []) (dv := (.a4 [0, 0, 0, 0])) rfl (fun _ => by kernel_rfl) ⟨rfl, trivial⟩ rfl rfl ⟨_, _, rfl, rfl, c8⟩ fun a S CL => h_eqa S CL hw le (subR rfl) rfl rfl underlying54 underlying52 T52 Q54 rfl rfl ⟨_, _, rfl, rfl, c8⟩ fun a S CL => h_pick S CL hw le (subR rfl) (b := true) (hc_of rfl c8) rfl rfl rfl trivial fun a S CL => h_assign S CL hw le (subR rfl) rfl rfl rfl trivial fun a S CL => h_assign S CL hw le (subR rfl) rfl rfl rfl trivial fun a S CL => ?_
     refine h_done ?_; clear CL hw le
     refine x_thenN (wp_ret (x_blockR (x_thenR ?_)))
     obtain rfl := Option.some.inj h7
     exact b_ret2 (d1 := (.q Y56 A1 cp1 (x2.drop (Int.toNat 1)))) (d2 := (.b (decide ((gt x2 0).1 = [0, 0, 0, 0])))) S rfl rfl rfl fun ok1 ok2 => S.retX (Hx := []) hb _ _ ((A1, cp1) : (Option Addr) × Nat) .nil ⟨⟨ok1, trivial⟩, ⟨ok2, trivial⟩, trivial⟩
    ·refine h_skip S CL rfl rfl rfl (ne_bool c8) rfl fun a S CL => h_skip S CL rfl rfl rfl (ne_bool c8) rfl fun a S CL => h_skip S CL rfl rfl rfl (ne_bool c8) rfl fun a S CL => h_skip S CL rfl rfl rfl (ne_bool c8) rfl fun a S CL => h_pick S CL hw le (subR rfl) (b := false) (hc_of rfl c8) rfl rfl rfl trivial fun a S CL => h_assign S CL hw le (subR rfl) rfl rfl rfl trivial fun a S CL => h_assign S CL hw le (subR rfl) rfl rfl rfl trivial fun a S CL => ?_
     refine h_done ?_; clear CL hw le
     refine x_thenN (wp_ret (x_blockR (x_thenR ?_)))
     obtain rfl := Option.some.inj h7
     exact b_ret2 (d1 := (.q Y56 A1 cp1 (x2.drop (Int.toNat 1)))) (d2 := (.b false)) S rfl rfl rfl fun ok1 ok2 => S.retX (Hx := []) hb _ _ ((A1, cp1) : (Option Addr) × Nat) .nil ⟨⟨ok1, trivial⟩, ⟨ok2, trivial⟩, trivial⟩
   ·refine c_condF S rfl c7 (wp_seq_k fun K1 hK1 => ?_)
    have j1 : ∀ m y1 A2 cp2 g2 A3 cp3 a w, St 124 m b0 [(51, (.b y1)), (1, (.q Y56 A2 cp2 (x2.drop (Int.toNat 1)))), (6, (.p g2)), (0, (.rf (.pointer ch_0_0) (PR61 ch_0_0 x1)))] [Res.cells g2 56 (Y56.segs (gt x2 0) ((), (A3, cp3), ()))] a w → fg0_.j1 k self0 x1 x2 y1 = some r → K1 a w := by
     intro m y1 A2 cp2 g2 A3 cp3 a w S h0
     delta fg0_.j1 at h0
     refine hK1 a w ?_
     rcases ite_of h0 with ⟨c9, h1⟩ | ⟨c9, h1⟩
     ·refine c_condT S rfl c9 (c_region (s_assign S rfl rfl fun a S => s_assign S rfl rfl fun a S => c_end (wp_ret (x_blockR (x_thenR ?_)))))
      replace S := S.slot (u := 4) (d' := (.q Y56 none 0 ([] : List ((List Int) × (List Int) × Int)))) rfl rfl ok_nil
      obtain rfl := Option.some.inj h1
      exact b_ret2 (d1 := (.q Y56 none 0 ([] : List ((List Int) × (List Int) × Int)))) (d2 := (.b false)) S rfl rfl rfl fun ok1 ok2 => S.retX (Hx := []) hb _ _ ((none, 0) : (Option Addr) × Nat) .nil ⟨⟨ok1, trivial⟩, ⟨ok2, trivial⟩, trivial⟩
     ·refine c_condF S rfl c9 (wp_seq_k fun K2 hK2 => ?_)
      have j2 : ∀ m y3 g4 a w, St 124 m b0 [(74, (.b y3)), (1, (.q Y56 A2 cp2 (x2.drop (Int.toNat 1)))), (6, (.p g4)), (0, (.rf (.pointer ch_0_0) (PR61 ch_0_0 x1)))] [Res.cells g4 56 (Y56.segs (gt x2 0) ((), (A3, cp3), ()))] a w → fg0_.j2 k self0 x1 x2 y3 = some r → K2 a w := by
       intro m y3 g4 a w S h0
       delta fg0_.j2 at h0
       refine hK2 a w ?_
       rcases ite_of h0 with ⟨c10, h1⟩ | ⟨c10, h1⟩
       ·refine c_condT S rfl c10 (c_region (s_assign S rfl rfl fun a S => s_assign S rfl rfl fun a S => c_end (wp_ret (x_blockR (x_thenR ?_)))))
        replace S := S.slot (u := 4) (d' := (.q Y56 none 0 ([] : List ((List Int) × (List Int) × Int)))) rfl rfl ok_nil
        obtain rfl := Option.some.inj h1
        exact b_ret2 (d1 := (.q Y56 none 0 ([] : List ((List Int) × (List Int) × Int)))) (d2 := (.b false)) S rfl rfl rfl fun ok1 ok2 => S.retX (Hx := []) hb _ _ ((none, 0) : (Option Addr) × Nat) .nil ⟨⟨ok1, trivial⟩, ⟨ok2, trivial⟩, trivial⟩
       ·refine c_condF S rfl c10 (wp_skip (x_blockN (x_thenN (wp_seq_k fun K3 hK3 => ?_))))
        have j3 : ∀ m A4 cp10 y8 a w, St 124 m b0 [(1, (.q Y56 A4 cp10 y8))] [] a w → fg0_.j3 y8 = some r → K3 a w := by
         intro m A4 cp10 y8 a w S h0
         delta fg0_.j3 at h0
         refine hK3 a w (c_region (s_move S rfl rfl fun a S => s_assign S rfl rfl fun a S => s_assign S rfl rfl fun a S => c_end (wp_ret ?_)))
         obtain rfl := Option.some.inj h0
         exact b_ret2 (d1 := (.q Y56 A4 cp10 y8)) (d2 := (.b true)) S rfl rfl rfl fun ok1 ok2 => S.retX (Hx := []) hb _ _ ((A4, cp10) : (Option Addr) × Nat) .nil ⟨⟨ok1, trivial⟩, ⟨ok2, trivial⟩, trivial⟩
        refine c_region (s_move S rfl rfl fun a S => s_fieldAddr S rfl I56_2 T3 (by decide) rfl rfl fun a S => s_load1 S rfl .h T3 (v := (.int .i64 ((gt x2 0).2.2))) rfl rfl fun a S => bindX h1 fun t1 et1 h2 => s_callP S _ N44 rfl rfl (fa8_.ok k x1 ((gt x2 0).2.2) ch_0_0 t1 et1 _ _) fun ch2 m le1 a w S => s_lenS S rfl underlying65 rfl fun a S => s_move S rfl rfl fun a S => c_end (wp_block ?_))
        refine c_loop (fun q1 a w => ∃ m y11 A5 cp14 A6 cp15 y12, St 124 m b0 [(109, (.i y11)), (108, (.i ((t1).length : Int))), (107, (.q PY61 A5 cp14 t1)), (1, (.q Y56 A6 cp15 y12))] [] a w ∧ fg0_.l1 self0 t1 q1 y11 y12 = some r) ?_ ?_ (k := k) ⟨_, 0, ch2.1, ch2.2, A2, cp2, (x2.drop (Int.toNat 1)), (S.sb rfl .nil), h2⟩
        ·rintro a w ⟨m, y11, A5, cp14, A6, cp15, y12, S, h0⟩
         exact (nomatch (show (none : Option (L38 × Bool)) = some r from h0))
        ·clear S h2
         rintro q1 a w ⟨m, y11, A5, cp14, A6, cp15, y12, S, h0⟩
         replace h0 : fg0_.b1 self0 t1 (fg0_.l1 self0 t1 q1) y11 y12 = some r := h0
         delta fg0_.b1 at h0
         refine c_region (s_bin S rfl rfl rfl rfl fun a S => c_end (wp_seq ?_))
         rcases ite_of h0 with ⟨c11, h1⟩ | ⟨c11, h1⟩
         ·refine c_condT S rfl c11 (wp_skip (x_thenN (wp_seq (wp_block (c_region ?_)))))
          obtain ⟨c12, h2⟩ := chk_of h1; clear h1
          refine s_iaddrS S rfl rfl rfl underlying65 T61 c12.1 c12.2 rfl fun p4 a S => s_ldF S (fun c => .pointer c) (fun c => PR61 c (gt t1 y11)) rfl T61 (fun _ => rfl) rfl fun ch7 a S => s_assign S rfl rfl fun a S => c_end (c_region (s_move S rfl rfl fun a S => s_move S rfl rfl fun a S => bindX h2 fun t4 et4 h3 => s_callP S _ N29 rfl rfl (c_0 (gt t1 y11) y12 ch7 A6 cp15 t4 et4 _ _) fun ch8 m le1 a w S => s_move S rfl rfl fun a S => s_extract S rfl rfl rfl rfl fun a S => s_extract S rfl rfl rfl rfl fun a S => s_assign S rfl rfl fun a S => s_assign S rfl rfl fun a S => c_end (wp_seq (c_region (s_move S rfl rfl fun a S => s_not S rfl rfl fun a S => c_end ?_)))))
          rcases ite_of h3 with ⟨c13, h4⟩ | ⟨c13, h4⟩
          ·refine c_condT S rfl c13 (c_region (s_assign S rfl rfl fun a S => s_assign S rfl rfl fun a S => c_end (wp_ret (x_thenR (x_blockR (x_thenR (x_thenR (x_blockR (x_thenR ?_)))))))))
           replace S := S.slot (u := 4) (d' := (.q Y56 none 0 ([] : List ((List Int) × (List Int) × Int)))) rfl rfl ok_nil
           obtain rfl := Option.some.inj h4
           exact b_ret2 (d1 := (.q Y56 none 0 ([] : List ((List Int) × (List Int) × Int)))) (d2 := (.b false)) S rfl rfl rfl fun ok1 ok2 => S.retX (Hx := []) hb _ _ ((none, 0) : (Option Addr) × Nat) .nil ⟨⟨ok1, trivial⟩, ⟨ok2, trivial⟩, trivial⟩
          ·refine c_condF S rfl c13 (wp_skip (x_thenN (c_region' (s_move S rfl rfl fun a S => s_assign S rfl rfl fun a S => c_end' (x_blockN (x_thenN (c_region' (s_bin S rfl rfl rfl rfl fun a S => s_move S rfl rfl fun a S => c_end' (x_thenN ?_)))))))))
           exact ⟨_, (wr .i64 (y11 + 1)), A5, cp14, ch8.1, ch8.2, t4.1, (S.sb rfl .nil), h4⟩
         ·refine c_condF S rfl c11 (wp_exit (x_thenX (x_thenX (x_blockX (x_thenN ?_)))))
          exact j3 _ A6 cp15 y12 a w (S.sub ⟨rfl, trivial⟩ .nil) h1
      refine wp_seq_k fun K4 hK4 => ?_
      have j4 : ∀ m y13 g5 a w, St 124 m b0 [(74, (.b y13)), (1, (.q Y56 A2 cp2 (x2.drop (Int.toNat 1)))), (6, (.p g5)), (0, (.rf (.pointer ch_0_0) (PR61 ch_0_0 x1)))] [Res.cells g5 56 (Y56.segs (gt x2 0) ((), (A3, cp3), ()))] a w → fg0_.j4 k self0 x1 x2 y13 = some r → K4 a w := by
       intro m y13 g5 a w S h0
       delta fg0_.j4 at h0
       refine hK4 a w ?_
       rcases ite_of h0 with ⟨c14, h1⟩ | ⟨c14, h1⟩
       ·refine c_condT S rfl c14 (wp_skip (x_thenN ?_))
        exact j2 _ y13 g5 a w (S.sb rfl (.c0 .n)) h1
       ·refine c_condF S rfl c14 (c_heldS S (.take 0 (.take 1 (.take 2 (.take 3 (.take 4 (.take 5 (.take 6 (.take 7 (.take 8 (.take 9 (.take 10 (.take 11 (.take 12 (.take 13 (.take 14 (.take 15 .done)))))))))))))))) 16 [Res.cells g5 56 (Y56.segs (gt x2 0) ((), (A3, cp3), ()))] (.c0 .n) ⟨Res.stay_cells, trivial⟩ [(6, (.p g5)), (0, (.rf (.pointer ch_0_0) (PR61 ch_0_0 x1)))] (subR rfl) (by kernel_rfl) (by kernel_rfl) fun w S CL hw le => ?_)
        refine h_move S CL hw le (subR rfl) rfl rfl rfl trivial fun a S CL => h_nilQ S CL hw le (subR rfl) rfl PH61 c4 rfl rfl trivial fun a S CL => h_faddrP S CL hw le (subR rfl) (tF := yb) (y := (PT61.to x1).1) rfl I67_0 T64 (by decide) (fun m h => (at_fst (at_0 h))) rfl rfl trivial fun a S CL => h_ld1 S CL hw le (subR rfl) (v := (.int .u8 ((PT61.to x1).1))) rfl T64 (fun _ => rfl) rfl rfl trivial fun a S CL => h_bin S CL hw le (subR rfl) rfl rfl rfl rfl rfl trivial fun a S CL => h_move S CL hw le (subR rfl) rfl rfl rfl trivial fun a S CL => ?_
        rcases ite_of h1 with ⟨c15, h2⟩ | ⟨c15, h2⟩
        ·refine h_fieldAddr S CL hw le (subR rfl) rfl I56_2 T3 (by decide) rfl rfl rfl ⟨_, _, rfl, rfl, c15⟩ fun a S CL => h_load1 S CL hw le (subR rfl) rfl .h T3 (v := (.int .i64 ((gt x2 0).2.2))) rfl rfl rfl ⟨_, _, rfl, rfl, c15⟩ fun a S CL => h_move S CL hw le (subR rfl) rfl rfl rfl ⟨_, _, rfl, rfl, c15⟩ fun a S CL => h_nilQ S CL hw le (subR rfl) rfl PH61 c4 rfl rfl ⟨_, _, rfl, rfl, c15⟩ fun a S CL => h_faddrP S CL hw le (subR rfl) (tF := (Ty.slice PY61)) (y := (PT61.to x1).2.2) rfl I67_2 T65 (by decide) (fun m h => (at_snd (at_snd (at_0 h)))) rfl rfl ⟨_, _, rfl, rfl, c15⟩ fun a S CL => h_ldS S CL hw le (subR rfl) (fun c => c) rfl T65 (fun _ => rfl) rfl rfl ⟨_, _, rfl, rfl, c15⟩ fun A7 cp16 a S CL => h_lenS S CL hw le (subR rfl) rfl underlying65 rfl rfl ⟨_, _, rfl, rfl, c15⟩ fun a S CL => h_bin S CL hw le (subR rfl) rfl rfl rfl rfl rfl ⟨_, _, rfl, rfl, c15⟩ fun a S CL => h_pick S CL hw le (subR rfl) (b := true) (hc_of rfl c15) rfl rfl rfl trivial fun a S CL => h_assign S CL hw le (subR rfl) rfl rfl rfl trivial fun a S CL => ?_
         refine h_done ?_; clear CL hw le
         refine x_thenN ?_
         exact j2 _ (((gt x2 0).2.2) != (((PT61.to x1).2.2).length : Int)) g5 a w (S.sb rfl (.c0 .n)) h2
        ·refine h_skip S CL rfl rfl rfl (ne_bool c15) rfl fun a S CL => h_skip S CL rfl rfl rfl (ne_bool c15) rfl fun a S CL => h_skip S CL rfl rfl rfl (ne_bool c15) rfl fun a S CL => h_skip S CL rfl rfl rfl (ne_bool c15) rfl fun a S CL => h_skip S CL rfl rfl rfl (ne_bool c15) rfl fun a S CL => h_skip S CL rfl rfl rfl (ne_bool c15) rfl fun a S CL => h_skip S CL rfl rfl rfl (ne_bool c15) rfl fun a S CL => h_skip S CL rfl rfl rfl (ne_bool c15) rfl fun a S CL => h_pick S CL hw le (subR rfl) (b := false) (hc_of rfl c15) rfl rfl rfl trivial fun a S CL => h_assign S CL hw le (subR rfl) rfl rfl rfl trivial fun a S CL => ?_
         refine h_done ?_; clear CL hw le
         refine x_thenN ?_
         exact j2 _ false g5 a w (S.sb rfl (.c0 .n)) h2
      refine c_heldS S (.take 0 (.take 1 (.take 2 (.take 3 (.take 4 (.take 5 (.take 6 (.take 7 (.take 8 (.take 9 (.take 10 (.take 11 (.take 12 (.take 13 (.take 14 .done))))))))))))))) 15 [Res.cells g2 56 (Y56.segs (gt x2 0) ((), (A3, cp3), ()))] (.c0 .n) ⟨Res.stay_cells, trivial⟩ [(6, (.p g2)), (0, (.rf (.pointer ch_0_0) (PR61 ch_0_0 x1)))] (subR rfl) (by kernel_rfl) (by kernel_rfl) fun w S CL hw le => ?_
      refine h_move S CL hw le (subR rfl) rfl rfl rfl trivial fun a S CL => h_nilQ S CL hw le (subR rfl) rfl PH61 c4 rfl rfl trivial fun a S CL => h_faddrP S CL hw le (subR rfl) (tF := yb) (y := (PT61.to x1).1) rfl I67_0 T64 (by decide) (fun m h => (at_fst (at_0 h))) rfl rfl trivial fun a S CL => h_ld1 S CL hw le (subR rfl) (v := (.int .u8 ((PT61.to x1).1))) rfl T64 (fun _ => rfl) rfl rfl trivial fun a S CL => h_bin S CL hw le (subR rfl) rfl rfl rfl rfl rfl trivial fun a S CL => h_move S CL hw le (subR rfl) rfl rfl rfl trivial fun a S CL => ?_
      rcases ite_of h1 with ⟨c16, h2⟩ | ⟨c16, h2⟩
      ·refine h_fieldAddr S CL hw le (subR rfl) rfl I56_2 T3 (by decide) rfl rfl rfl ⟨_, _, rfl, rfl, c16⟩ fun a S CL => h_load1 S CL hw le (subR rfl) rfl .h T3 (v := (.int .i64 ((gt x2 0).2.2))) rfl rfl rfl ⟨_, _, rfl, rfl, c16⟩ fun a S CL => h_move S CL hw le (subR rfl) rfl rfl rfl ⟨_, _, rfl, rfl, c16⟩ fun a S CL => h_nilQ S CL hw le (subR rfl) rfl PH61 c4 rfl rfl ⟨_, _, rfl, rfl, c16⟩ fun a S CL => h_faddrP S CL hw le (subR rfl) (tF := yi) (y := (PT61.to x1).2.1) rfl I67_1 T3 (by decide) (fun m h => (at_fst (at_snd (at_0 h)))) rfl rfl ⟨_, _, rfl, rfl, c16⟩ fun a S CL => h_ld1 S CL hw le (subR rfl) (v := (.int .i64 ((PT61.to x1).2.1))) rfl T3 (fun _ => rfl) rfl rfl ⟨_, _, rfl, rfl, c16⟩ fun a S CL => h_bin S CL hw le (subR rfl) rfl rfl rfl rfl rfl ⟨_, _, rfl, rfl, c16⟩ fun a S CL => h_pick S CL hw le (subR rfl) (b := true) (hc_of rfl c16) rfl rfl rfl trivial fun a S CL => h_assign S CL hw le (subR rfl) rfl rfl rfl trivial fun a S CL => ?_
       refine h_done ?_; clear CL hw le
       refine x_thenN ?_
       exact j4 _ (((gt x2 0).2.2) != ((PT61.to x1).2.1)) g2 a w (S.sb rfl (.c0 .n)) h2
      ·refine h_skip S CL rfl rfl rfl (ne_bool c16) rfl fun a S CL => h_skip S CL rfl rfl rfl (ne_bool c16) rfl fun a S CL => h_skip S CL rfl rfl rfl (ne_bool c16) rfl fun a S CL => h_skip S CL rfl rfl rfl (ne_bool c16) rfl fun a S CL => h_skip S CL rfl rfl rfl (ne_bool c16) rfl fun a S CL => h_skip S CL rfl rfl rfl (ne_bool c16) rfl fun a S CL => h_skip S CL rfl rfl rfl (ne_bool c16) rfl fun a S CL => h_pick S CL hw le (subR rfl) (b := false) (hc_of rfl c16) rfl rfl rfl trivial fun a S CL => h_assign S CL hw le (subR rfl) rfl rfl rfl trivial fun a S CL => ?_
       refine h_done ?_; clear CL hw le
       refine x_thenN ?_
       exact j4 _ false g2 a w (S.sb rfl (.c0 .n)) h2
    refine c_region' (s_fieldAddr S rfl I56_1 T26 (by decide) rfl rfl fun a S => s_loadSl S rfl .h T26 (A := ch1.2.1.1) (len := ((gt x2 0).2.1).length) (cap := ch1.2.1.2) rfl rfl fun a S => s_lenS S rfl underlying26 rfl fun a S => s_bin S rfl rfl rfl rfl fun a S => s_move S rfl rfl fun a S => ?_)
    rcases ite_of h6 with ⟨c17, h7⟩ | ⟨c17, h7⟩
    ·refine s_gF S (b := (decide (0 < (((gt x2 0).2.1).length : Int)))) rfl rfl c17 rfl fun a S => s_gF S (b := (decide (0 < (((gt x2 0).2.1).length : Int)))) rfl rfl c17 rfl fun a S => s_gF S (b := (decide (0 < (((gt x2 0).2.1).length : Int)))) rfl rfl c17 rfl fun a S => s_gF S (b := (decide (0 < (((gt x2 0).2.1).length : Int)))) rfl rfl c17 rfl fun a S => s_pick S (b := true) (hc_of rfl c17) rfl rfl fun a S => s_move S rfl rfl fun a S => s_gF S (b := true) rfl rfl rfl rfl fun a S => s_gF S (b := true) rfl rfl rfl rfl fun a S => s_gF S (b := true) rfl rfl rfl rfl fun a S => s_pick S (b := true) (hc_of rfl rfl) rfl rfl fun a S => s_move S rfl rfl fun a S => s_gF S (b := true) rfl rfl rfl rfl fun a S => s_gF S (b := true) rfl rfl rfl rfl fun a S => s_gF S (b := true) rfl rfl rfl rfl fun a S => s_gF S (b := true) rfl rfl rfl rfl fun a S => s_gF S (b := true) rfl rfl rfl rfl fun a S => s_pick S (b := true) (hc_of rfl rfl) rfl rfl fun a S => s_assign S rfl rfl fun a S => c_end' (x_thenN ?_)
     exact j1 _ true A1 cp1 g1 ch1.2.1.1 ch1.2.1.2 a w (S.sb rfl (.c0 .n)) h7
    ·refine s_gT S (b := (decide (0 < (((gt x2 0).2.1).length : Int)))) rfl rfl c17 (s_fieldAddr S rfl I56_0 T54 (by decide) rfl rfl fun a S => s_gT S (b := (decide (0 < (((gt x2 0).2.1).length : Int)))) rfl rfl c17 (s_loada S rfl .h T54 (s' := [.w4 ((gt x2 0).1)]) rfl rfl fun a S => s_gT S (b := (decide (0 < (((gt x2 0).2.1).length : Int)))) rfl rfl c17 (s_build S (ds := []) (dv := (.a4 [0, 0, 0, 0])) rfl (fun _ => by kernel_rfl) ⟨rfl, trivial⟩ rfl fun a S => s_gT S (b := (decide (0 < (((gt x2 0).2.1).length : Int)))) rfl rfl c17 (s_nea S rfl rfl underlying54 underlying52 T52 Q54 rfl fun a S => s_pick S (b := false) (hc_of rfl c17) rfl rfl fun a S => s_move S rfl rfl fun a S => ?_))))
     rcases ite_of h7 with ⟨c18, h8⟩ | ⟨c18, h8⟩
     ·refine s_gF S (b := (!(decide ((gt x2 0).1 = [0, 0, 0, 0])))) rfl rfl c18 rfl fun a S => s_gF S (b := (!(decide ((gt x2 0).1 = [0, 0, 0, 0])))) rfl rfl c18 rfl fun a S => s_gF S (b := (!(decide ((gt x2 0).1 = [0, 0, 0, 0])))) rfl rfl c18 rfl fun a S => s_pick S (b := true) (hc_of rfl c18) rfl rfl fun a S => s_move S rfl rfl fun a S => s_gF S (b := true) rfl rfl rfl rfl fun a S => s_gF S (b := true) rfl rfl rfl rfl fun a S => s_gF S (b := true) rfl rfl rfl rfl fun a S => s_gF S (b := true) rfl rfl rfl rfl fun a S => s_gF S (b := true) rfl rfl rfl rfl fun a S => s_pick S (b := true) (hc_of rfl rfl) rfl rfl fun a S => s_assign S rfl rfl fun a S => c_end' (x_thenN ?_)
      exact j1 _ true A1 cp1 g1 ch1.2.1.1 ch1.2.1.2 a w (S.sb rfl (.c0 .n)) h8
     ·refine s_gT S (b := (!(decide ((gt x2 0).1 = [0, 0, 0, 0])))) rfl rfl c18 (s_fieldAddr S rfl I56_2 T3 (by decide) rfl rfl fun a S => s_gT S (b := (!(decide ((gt x2 0).1 = [0, 0, 0, 0])))) rfl rfl c18 (s_load1 S rfl .h T3 (v := (.int .i64 ((gt x2 0).2.2))) rfl rfl fun a S => s_gT S (b := (!(decide ((gt x2 0).1 = [0, 0, 0, 0])))) rfl rfl c18 (s_bin S rfl rfl rfl rfl fun a S => s_pick S (b := false) (hc_of rfl c18) rfl rfl fun a S => s_move S rfl rfl fun a S => ?_)))
      rcases ite_of h8 with ⟨c19, h9⟩ | ⟨c19, h9⟩
      ·refine s_gF S (b := (decide (((gt x2 0).2.2) < 0))) rfl rfl c19 rfl fun a S => s_gF S (b := (decide (((gt x2 0).2.2) < 0))) rfl rfl c19 rfl fun a S => s_gF S (b := (decide (((gt x2 0).2.2) < 0))) rfl rfl c19 rfl fun a S => s_gF S (b := (decide (((gt x2 0).2.2) < 0))) rfl rfl c19 rfl fun a S => s_gF S (b := (decide (((gt x2 0).2.2) < 0))) rfl rfl c19 rfl fun a S => s_pick S (b := true) (hc_of rfl c19) rfl rfl fun a S => s_assign S rfl rfl fun a S => c_end' (x_thenN ?_)
       exact j1 _ true A1 cp1 g1 ch1.2.1.1 ch1.2.1.2 a w (S.sb rfl (.c0 .n)) h9
      ·refine s_gT S (b := (decide (((gt x2 0).2.2) < 0))) rfl rfl c19 (s_fieldAddr S rfl I56_2 T3 (by decide) rfl rfl fun a S => s_gT S (b := (decide (((gt x2 0).2.2) < 0))) rfl rfl c19 (s_load1 S rfl .h T3 (v := (.int .i64 ((gt x2 0).2.2))) rfl rfl fun a S => s_gT S (b := (decide (((gt x2 0).2.2) < 0))) rfl rfl c19 (s_move S rfl rfl fun a S => s_gT S (b := (decide (((gt x2 0).2.2) < 0))) rfl rfl c19 (s_lenS S rfl underlying38 rfl fun a S => s_gT S (b := (decide (((gt x2 0).2.2) < 0))) rfl rfl c19 (s_bin S rfl rfl rfl rfl fun a S => s_pick S (b := false) (hc_of rfl c19) rfl rfl fun a S => s_assign S rfl rfl fun a S => c_end' (x_thenN ?_))))))
       exact j1 _ (decide (((x2.drop (Int.toNat 1)).length : Int) < ((gt x2 0).2.2))) A1 cp1 g1 ch1.2.1.1 ch1.2.1.2 a w (S.sb rfl (.c0 .n)) h9
def fg0_.f : Nat → fg0_.Ty
  | 0 => fun _ _ => none
  | k + 1 => fg0_.body (fg0_.f k) k
theorem fg0_.oks : ∀ k : Nat, fg0_.Ctr (fg0_.f k)
  | 0 => fun _ _ _ _ _ r h0 => (nomatch (show (none : Option (L38 × Bool)) = some r from h0))
  | k + 1 => by
    have ih := fg0_.oks k
    exact fg0_.okb (fg0_.f k) ih k
theorem fg0_.ok (k : Nat) : fg0_.Ctr (fg0_.f k) := (fg0_.oks k)
end
end GW
