import Derived.Test.YtkohappfcfimmaaDoorProg
import Derived.Test.YtkohappfcfimmaaDoorGWBrev
set_option linter.unusedVariables false
set_option linter.unusedSimpArgs false
set_option maxRecDepth 10000
set_option maxHeartbeats 4000000
namespace GW
open Go Go.RowKit Go.Proofs Go.Proofs.Tryd
noncomputable section
def tbl_keccak_constants : List Int := [1, 32898, 9223372036854808714, 9223372039002292224, 32907, 2147483649, 9223372039002292353, 9223372036854808585, 138, 136, 2147516425, 2147483658, 2147516555, 9223372036854775947, 9223372036854808713, 9223372036854808579, 9223372036854808578, 9223372036854775936, 32778, 9223372039002259466, 9223372039002292353, 9223372036854808704, 2147483649, 9223372039002292232]
def tbl_keccak_places : List Int := [10, 7, 11, 17, 18, 3, 5, 16, 8, 21, 24, 4, 15, 23, 19, 13, 12, 2, 20, 14, 22, 9, 6, 1]
def tbl_keccak_turns : List Int := [1, 3, 6, 10, 15, 21, 28, 36, 45, 55, 2, 14, 27, 41, 56, 8, 25, 43, 62, 18, 39, 61, 20, 44]
def Glob (m : Mem) : Prop := FroAt m 0 [.ints .u64 tbl_keccak_constants 24] ∧ FroAt m 1 [.ints .i64 tbl_keccak_places 24] ∧ FroAt m 2 [.ints .i64 tbl_keccak_turns 24]
theorem Glob.mono {m m' : Mem} (h : Glob m) (hm : LeM m m') : Glob m' := ⟨(FroAt.mono hm h.1), (FroAt.mono hm h.2.1), (FroAt.mono hm h.2.2)⟩
abbrev L55 : Type := (List Int) × Int × Int × Int × Int × (List Int) × (List Int) × (List Int) × (List Int) × (List Int)
abbrev L38 : Type := (List Int) × (List (List Int)) × (List Int)
abbrev L61 : Type := (List Int) × Int × Bool × Int × (List Int) × (List Int) × (List L38) × (List Int)
abbrev L59 : Type := L55 × (List Int) × (List (List Int)) × (List L61)
abbrev Y55 : Ty L55 := (Ty.prod (Ty.arr .u8 32) (Ty.prod (Ty.int .u64) (Ty.prod (Ty.int .u64) (Ty.prod (Ty.int .u64) (Ty.prod (Ty.int .u64) (Ty.prod (Ty.arr .u64 4) (Ty.prod (Ty.arr .u8 20) (Ty.prod (Ty.arr .u64 4) (Ty.prod (Ty.arr .u8 32) (Ty.arr .u8 32))))))))))
abbrev Y38 : Ty L38 := (Ty.prod (Ty.arr .u8 20) (Ty.prod (Ty.slice (Ty.arr .u64 4)) (Ty.slice (Ty.int .u8))))
abbrev Y61 : Ty L61 := (Ty.prod (Ty.arr .u8 20) (Ty.prod (Ty.int .u64) (Ty.prod Ty.bool (Ty.prod (Ty.int .u64) (Ty.prod (Ty.arr .u64 4) (Ty.prod (Ty.arr .u8 20) (Ty.prod (Ty.slice Y38) (Ty.slice (Ty.int .u8)))))))))
abbrev Y59 : Ty L59 := (Ty.prod Y55 (Ty.prod (Ty.arr .u8 32) (Ty.prod (Ty.slice (Ty.arr .u8 32)) (Ty.slice Y61))))
theorem P38 : ∀ w : World, ((match Tryd.prog.underlying 38 with | some (.struct fs) => fs | _ => (#[] : Array Field)).mapM fun (f : Field) => (do pure (f.offset, ← Go.sizeOf f.type) : Sem (Nat × Nat))).run Tryd.prog w = .ok #[(0, 20), (20, 1), (21, 1)] w := fun _ => by kernel_rfl
theorem Z38 : zeroI Tryd.prog 38 = some (D.val (.agg [.b20 z20, .s none 0 0, .s none 0 0])) := by kernel_rfl
theorem J38 : appI Tryd.prog 38 = some (22, 72) := by kernel_rfl
theorem Z24 : zeroI Tryd.prog 24 = some (D.val (.agg [.ints .u8 (List.replicate 256 0) 256])) := by kernel_rfl
theorem T38 : tyI Tryd.prog 38 = some (true, 22) := by kernel_rfl
theorem T24 : tyI Tryd.prog 24 = some (true, 256) := by kernel_rfl
theorem I38_0 : fieldI Tryd.prog 38 0 = some (0, 34) := by kernel_rfl
theorem T34 : tyI Tryd.prog 34 = some (true, 20) := by kernel_rfl
theorem T5 : tyI Tryd.prog 5 = some (false, 1) := by kernel_rfl
theorem Z71 : zeroI Tryd.prog 71 = some (D.val (.agg [.ints .i64 [0, 0, 0] 3])) := by kernel_rfl
theorem Z50 : zeroI Tryd.prog 50 = some (D.val (.a32 z32)) := by kernel_rfl
theorem Z80 : zeroI Tryd.prog 80 = some (D.val (.agg [.ints .u64 z25 25])) := by kernel_rfl
theorem T80 : tyI Tryd.prog 80 = some (true, 25) := by kernel_rfl
theorem T51 : tyI Tryd.prog 51 = some (false, 1) := by kernel_rfl
theorem T85 : tyI Tryd.prog 85 = some (true, 24) := by kernel_rfl
theorem Z89 : zeroI Tryd.prog 89 = some (D.val (.agg [.ints .u64 [0, 0, 0, 0, 0] 5])) := by kernel_rfl
theorem N44 : Fn_ Tryd.prog 44 := ⟨_, func44, rfl, by decide⟩
theorem T91 : tyI Tryd.prog 91 = some (true, 24) := by kernel_rfl
theorem T3 : tyI Tryd.prog 3 = some (false, 1) := by kernel_rfl
theorem T89 : tyI Tryd.prog 89 = some (true, 5) := by kernel_rfl
theorem N43 : Fn_ Tryd.prog 43 := ⟨_, func43, rfl, by decide⟩
theorem N41 : Fn_ Tryd.prog 41 := ⟨_, func41, rfl, by decide⟩
theorem N37 : Fn_ Tryd.prog 37 := ⟨_, func37, rfl, by decide⟩
theorem Z84 : zeroI Tryd.prog 84 = some (D.val (.agg [.ints .u8 (List.replicate 136 0) 136])) := by kernel_rfl
theorem T50 : tyI Tryd.prog 50 = some (true, 32) := by kernel_rfl
theorem N34 : Fn_ Tryd.prog 34 := ⟨_, func34, rfl, by decide⟩
theorem T71 : tyI Tryd.prog 71 = some (true, 3) := by kernel_rfl
theorem N27 : Fn_ Tryd.prog 27 := ⟨_, func27, rfl, by decide⟩
theorem N18 : Fn_ Tryd.prog 18 := ⟨_, func18, rfl, by decide⟩
theorem I38_1 : fieldI Tryd.prog 38 1 = some (20, 35) := by kernel_rfl
theorem T35 : tyI Tryd.prog 35 = some (false, 1) := by kernel_rfl
theorem T53 : tyI Tryd.prog 53 = some (true, 4) := by kernel_rfl
theorem Z53 : zeroI Tryd.prog 53 = some (D.val (.a4 [0, 0, 0, 0])) := by kernel_rfl
theorem Z49 : zeroI Tryd.prog 49 = some (D.val (.a32 z32)) := by kernel_rfl
theorem T49 : tyI Tryd.prog 49 = some (true, 32) := by kernel_rfl
theorem N24 : Fn_ Tryd.prog 24 := ⟨_, func24, rfl, by decide⟩
theorem N11 : Fn_ Tryd.prog 11 := ⟨_, func11, rfl, by decide⟩
def txt0 : ByteArray := ByteArray.mk #[0, 1, 1, 2, 1, 2, 2, 3, 1, 2, 2, 3, 2, 3, 3, 4, 1, 2, 2, 3, 2, 3, 3, 4, 2, 3, 3, 4, 3, 4, 4, 5, 1, 2, 2, 3, 2, 3, 3, 4, 2, 3, 3, 4, 3, 4, 4, 5, 2, 3, 3, 4, 3, 4, 4, 5, 3, 4, 4, 5, 4, 5, 5, 6, 1, 2, 2, 3, 2, 3, 3, 4, 2, 3, 3, 4, 3, 4, 4, 5, 2, 3, 3, 4, 3, 4, 4, 5, 3, 4, 4, 5, 4, 5, 5, 6, 2, 3, 3, 4, 3, 4, 4, 5, 3, 4, 4, 5, 4, 5, 5, 6, 3, 4, 4, 5, 4, 5, 5, 6, 4, 5, 5, 6, 5, 6, 6, 7, 1, 2, 2, 3, 2, 3, 3, 4, 2, 3, 3, 4, 3, 4, 4, 5, 2, 3, 3, 4, 3, 4, 4, 5, 3, 4, 4, 5, 4, 5, 5, 6, 2, 3, 3, 4, 3, 4, 4, 5, 3, 4, 4, 5, 4, 5, 5, 6, 3, 4, 4, 5, 4, 5, 5, 6, 4, 5, 5, 6, 5, 6, 6, 7, 2, 3, 3, 4, 3, 4, 4, 5, 3, 4, 4, 5, 4, 5, 5, 6, 3, 4, 4, 5, 4, 5, 5, 6, 4, 5, 5, 6, 5, 6, 6, 7, 3, 4, 4, 5, 4, 5, 5, 6, 4, 5, 5, 6, 5, 6, 6, 7, 4, 5, 5, 6, 5, 6, 6, 7, 5, 6, 6, 7, 6, 7, 7, 8]
theorem N28 : Fn_ Tryd.prog 28 := ⟨_, func28, rfl, by decide⟩
theorem N16 : Fn_ Tryd.prog 16 := ⟨_, func16, rfl, by decide⟩
theorem Q24 : Tryd.prog.eqGuardType Tryd.prog.depth 24 = false := by kernel_rfl
theorem N8 : Fn_ Tryd.prog 8 := ⟨_, func8, rfl, by decide⟩
theorem T59 : tyI Tryd.prog 59 = some (true, 162) := by kernel_rfl
theorem Z59 : zeroI Tryd.prog 59 = some (D.val (.agg [.b32 z32, .w 0, .w 0, .w 0, .w 0, .w4 [0, 0, 0, 0], .b20 z20, .w4 [0, 0, 0, 0], .b32 z32, .b32 z32, .b32 z32, .s none 0 0, .s none 0 0])) := by kernel_rfl
theorem I59_3 : fieldI Tryd.prog 59 3 = some (161, 57) := by kernel_rfl
theorem T57 : tyI Tryd.prog 57 = some (false, 1) := by kernel_rfl
theorem T61 : tyI Tryd.prog 61 = some (true, 49) := by kernel_rfl
theorem Z61 : zeroI Tryd.prog 61 = some (D.val (.agg [.b20 z20, .w 0, .b false, .w 0, .w4 [0, 0, 0, 0], .b20 z20, .s none 0 0, .s none 0 0])) := by kernel_rfl
theorem I61_6 : fieldI Tryd.prog 61 6 = some (47, 22) := by kernel_rfl
theorem T22 : tyI Tryd.prog 22 = some (false, 1) := by kernel_rfl
theorem P61 : ∀ w : World, ((match Tryd.prog.underlying 61 with | some (.struct fs) => fs | _ => (#[] : Array Field)).mapM fun (f : Field) => (do pure (f.offset, ← Go.sizeOf f.type) : Sem (Nat × Nat))).run Tryd.prog w = .ok #[(0, 20), (20, 1), (21, 1), (22, 1), (23, 4), (27, 20), (47, 1), (48, 1)] w := fun _ => by kernel_rfl
theorem I61_7 : fieldI Tryd.prog 61 7 = some (48, 36) := by kernel_rfl
theorem T36 : tyI Tryd.prog 36 = some (false, 1) := by kernel_rfl
theorem I38_2 : fieldI Tryd.prog 38 2 = some (21, 36) := by kernel_rfl
theorem N23 : Fn_ Tryd.prog 23 := ⟨_, func23, rfl, by decide⟩
theorem N7 : Fn_ Tryd.prog 7 := ⟨_, func7, rfl, by decide⟩
theorem Q34 : Tryd.prog.eqGuardType Tryd.prog.depth 34 = false := by kernel_rfl
theorem Q53 : Tryd.prog.eqGuardType Tryd.prog.depth 53 = false := by kernel_rfl
theorem N20 : Fn_ Tryd.prog 20 := ⟨_, func20, rfl, by decide⟩
theorem N14 : Fn_ Tryd.prog 14 := ⟨_, func14, rfl, by decide⟩
theorem N30 : Fn_ Tryd.prog 30 := ⟨_, func30, rfl, by decide⟩
theorem N40 : Fn_ Tryd.prog 40 := ⟨_, func40, rfl, by decide⟩
theorem N36 : Fn_ Tryd.prog 36 := ⟨_, func36, rfl, by decide⟩
theorem N31 : Fn_ Tryd.prog 31 := ⟨_, func31, rfl, by decide⟩
theorem J53 : appI Tryd.prog 53 = some (4, 32) := by kernel_rfl
theorem N32 : Fn_ Tryd.prog 32 := ⟨_, func32, rfl, by decide⟩
theorem J5 : appI Tryd.prog 5 = some (1, 1) := by kernel_rfl
theorem Z5 : zeroI Tryd.prog 5 = some (D.val (.v (.int .u8 0))) := by kernel_rfl
theorem N33 : Fn_ Tryd.prog 33 := ⟨_, func33, rfl, by decide⟩
theorem N21 : Fn_ Tryd.prog 21 := ⟨_, func21, rfl, by decide⟩
theorem N22 : Fn_ Tryd.prog 22 := ⟨_, func22, rfl, by decide⟩
theorem Z4 : zeroI Tryd.prog 4 = some (D.val (.b false)) := by kernel_rfl
theorem Z85 : zeroI Tryd.prog 85 = some (D.val (.agg [.ints .u64 z24 24])) := by kernel_rfl
theorem N38 : Fn_ Tryd.prog 38 := ⟨_, func38, rfl, by decide⟩
theorem N42 : Fn_ Tryd.prog 42 := ⟨_, func42, rfl, by decide⟩
theorem N39 : Fn_ Tryd.prog 39 := ⟨_, func39, rfl, by decide⟩
theorem N35 : Fn_ Tryd.prog 35 := ⟨_, func35, rfl, by decide⟩
theorem N29 : Fn_ Tryd.prog 29 := ⟨_, func29, rfl, by decide⟩
theorem J3 : appI Tryd.prog 3 = some (1, 8) := by kernel_rfl
theorem Z3 : zeroI Tryd.prog 3 = some (D.val (.i 0)) := by kernel_rfl
theorem T4 : tyI Tryd.prog 4 = some (false, 1) := by kernel_rfl
def Gd50 : (List Int) → Prop := fun xs => xs.length = 32 ∧ ∀ y ∈ xs, inK .u8 y
def Gd51 : Int → Prop := fun x => inK .u64 x
def Gd53 : (List Int) → Prop := fun xs => xs.length = 4 ∧ ∀ y ∈ xs, inK .u64 y
def Gd34 : (List Int) → Prop := fun xs => xs.length = 20 ∧ ∀ y ∈ xs, inK .u8 y
def Gd55 : L55 → Prop := fun y => Gd50 y.1 ∧ (Gd51 y.2.1 ∧ (Gd51 y.2.2.1 ∧ (Gd51 y.2.2.2.1 ∧ (Gd51 y.2.2.2.2.1 ∧ (Gd53 y.2.2.2.2.2.1 ∧ (Gd34 y.2.2.2.2.2.2.1 ∧ (Gd53 y.2.2.2.2.2.2.2.1 ∧ (Gd50 y.2.2.2.2.2.2.2.2.1 ∧ (Gd50 y.2.2.2.2.2.2.2.2.2)))))))))
def Gd56 : (List (List Int)) → Prop := fun xs => (∀ y ∈ xs, Gd50 y) ∧ xs.length ≤ maxLen
def Gd4 : Bool → Prop := fun _ => True
def Gd35 : (List (List Int)) → Prop := fun xs => (∀ y ∈ xs, Gd53 y) ∧ xs.length ≤ maxLen
def Gd5 : Int → Prop := fun x => inK .u8 x
def Gd36 : (List Int) → Prop := fun xs => (∀ y ∈ xs, Gd5 y) ∧ xs.length ≤ maxLen
def Gd38 : L38 → Prop := fun y => Gd34 y.1 ∧ (Gd35 y.2.1 ∧ (Gd36 y.2.2))
def Gd22 : (List L38) → Prop := fun xs => (∀ y ∈ xs, Gd38 y) ∧ xs.length ≤ maxLen
def Gd61 : L61 → Prop := fun y => Gd34 y.1 ∧ (Gd51 y.2.1 ∧ (Gd4 y.2.2.1 ∧ (Gd51 y.2.2.2.1 ∧ (Gd53 y.2.2.2.2.1 ∧ (Gd34 y.2.2.2.2.2.1 ∧ (Gd22 y.2.2.2.2.2.2.1 ∧ (Gd36 y.2.2.2.2.2.2.2)))))))
def Gd57 : (List L61) → Prop := fun xs => (∀ y ∈ xs, Gd61 y) ∧ xs.length ≤ maxLen
def Gd59 : L59 → Prop := fun y => Gd55 y.1 ∧ (Gd50 y.2.1 ∧ (Gd56 y.2.2.1 ∧ (Gd57 y.2.2.2)))
def Gd48 : (List L59) → Prop := fun xs => (∀ y ∈ xs, Gd59 y) ∧ xs.length ≤ maxLen
theorem T55 : tyI Tryd.prog 55 = some (true, 128) := by kernel_rfl
theorem T56 : tyI Tryd.prog 56 = some (false, 1) := by kernel_rfl
abbrev bits_RotateLeft64.Ty : Type := Int → Int → Option Int
def bits_RotateLeft64.Ctr (s : bits_RotateLeft64.Ty) : Prop := ∀ (x1 : Int) (x2 : Int) (r : Int), Ct (C := Unit) Tryd.prog 44 (s x1 x2 = some r) [] [(.w x1), (.i x2)] (fun _ => (.w r)) fun _ => []
def bits_RotateLeft64.f (x1 : Int) (x2 : Int) : Option Int := if (0 : Int) ≤ (bits .and .u64 (wr .u64 x2) 63) then (if (0 : Int) ≤ (wr .u64 (64 - (bits .and .u64 (wr .u64 x2) 63))) then (some (bits .or .u64 (shl .u64 x1 (min (Int.toNat (bits .and .u64 (wr .u64 x2) 63)) 64)) (shr x1 (min (Int.toNat (wr .u64 (64 - (bits .and .u64 (wr .u64 x2) 63)))) 64)))) else none) else none
theorem bits_RotateLeft64.ok : bits_RotateLeft64.Ctr (bits_RotateLeft64.f) := by
 intro x1 x2 r h0 mi w0 ok hm
 delta bits_RotateLeft64.f at h0
 refine c_enterZ (n := 17) ok hm func44 rfl rfl rfl fun b0 hb a S => c_region (s_assign S rfl rfl fun a S => c_end (c_region (s_move S rfl rfl fun a S => s_conv S rfl rfl underlying79 rfl fun a S => s_bin S rfl rfl rfl rfl fun a S => s_assign S rfl rfl fun a S => c_end (c_region (s_move S rfl rfl fun a S => s_move S rfl rfl fun a S => ?_)))))
 obtain ⟨c1, h1⟩ := chk_of h0; clear h0
 refine s_shl S (e := (min (Int.toNat (bits .and .u64 (wr .u64 x2) 63)) 64)) rfl rfl c1 rfl rfl fun a S => s_move S rfl rfl fun a S => s_move S rfl rfl fun a S => s_bin S rfl rfl rfl rfl fun a S => ?_
 obtain ⟨c2, h2⟩ := chk_of h1; clear h1
 refine s_shr S (e := (min (Int.toNat (wr .u64 (64 - (bits .and .u64 (wr .u64 x2) 63)))) 64)) rfl rfl c2 rfl rfl fun a S => s_bin S rfl rfl rfl rfl fun a S => s_assign S rfl rfl fun a S => c_end (wp_ret ?_)
 obtain rfl := Option.some.inj h2
 exact b_ret1 (d := (.w (bits .or .u64 (shl .u64 x1 (min (Int.toNat (bits .and .u64 (wr .u64 x2) 63)) 64)) (shr x1 (min (Int.toNat (wr .u64 (64 - (bits .and .u64 (wr .u64 x2) 63)))) 64))))) S rfl rfl (S.rt hb)
abbrev keccak_round.Ty : Type := (List Int) → Option ((List Int))
def keccak_round.Ctr (s : keccak_round.Ty) : Prop := ∀ (x1 : List Int) (r : (List Int)), CtG (C := Unit) Tryd.prog Glob 43 (s x1 = some r) [] [(.agg [.ints .u64 x1 25])] (fun _ => (.agg [.ints .u64 r 25])) fun _ => []
def keccak_round.j4 (y38 : List Int) : Option ((List Int)) := some y38
def keccak_round.j5 (y51 : Int) (rec1 : Int → (List Int) → Option ((List Int))) (y57 : List Int) : Option ((List Int)) := rec1 (wr .i64 (y51 + 5)) y57
def keccak_round.b2 (y51 : Int) (y52 : List Int) (rec1 : Int → (List Int) → Option ((List Int))) (rec2 : Int → (List Int) → Option ((List Int))) (y60 : Int) (y61 : List Int) : Option ((List Int)) := if (decide (y60 < 5)) = true then (if (0 : Int) ≤ y60 ∧ y60 < 5 then (if (0 : Int) ≤ (Int.tmod (wr .i64 (y60 + 1)) 5) ∧ (Int.tmod (wr .i64 (y60 + 1)) 5) < 5 then (if (0 : Int) ≤ (Int.tmod (wr .i64 (y60 + 2)) 5) ∧ (Int.tmod (wr .i64 (y60 + 2)) 5) < 5 then (if (0 : Int) ≤ (wr .i64 (y60 + y51)) ∧ (wr .i64 (y60 + y51)) < 25 then (rec2 (wr .i64 (y60 + 1)) (y61.set (Int.toNat (wr .i64 (y60 + y51))) (bits .xor .u64 (rd (((y52).drop (Int.toNat y51)).take 5) y60) (bits .and .u64 (bnot .u64 (rd (((y52).drop (Int.toNat y51)).take 5) (Int.tmod (wr .i64 (y60 + 1)) 5))) (rd (((y52).drop (Int.toNat y51)).take 5) (Int.tmod (wr .i64 (y60 + 2)) 5)))))) else none) else none) else none) else none) else (keccak_round.j5 y51 rec1 y61)
def keccak_round.l2 (y51 : Int) (y52 : List Int) (rec1 : Int → (List Int) → Option ((List Int))) : Nat → Int → (List Int) → Option ((List Int))
  | 0, _, _ => none
  | q + 1, y60, y61 => keccak_round.b2 y51 y52 rec1 (keccak_round.l2 y51 y52 rec1 q) y60 y61
def keccak_round.b1 (k : Nat) (rec1 : Int → (List Int) → Option ((List Int))) (y51 : Int) (y52 : List Int) : Option ((List Int)) := if (decide (y51 < 25)) = true then (if (0 : Int) ≤ y51 ∧ (y51 : Int) ≤ (wr .i64 (y51 + 5)) ∧ (wr .i64 (y51 + 5)) ≤ ((25 : Nat) : Int) then (if 5 ≤ (Int.toNat (wr .i64 (y51 + 5)) - Int.toNat y51) then (keccak_round.l2 y51 y52 rec1 k 0 y52) else none) else none) else (keccak_round.j4 y52)
def keccak_round.l1 (k : Nat) : Nat → Int → (List Int) → Option ((List Int))
  | 0, _, _ => none
  | q + 1, y51, y52 => keccak_round.b1 k (keccak_round.l1 k q) y51 y52
def keccak_round.j3 (k : Nat) (y23 : List Int) : Option ((List Int)) := keccak_round.l1 k k 0 y23
def keccak_round.b3 (k : Nat) (rec3 : Int → Int → (List Int) → Option ((List Int))) (y65 : Int) (y66 : Int) (y67 : List Int) : Option ((List Int)) := if (decide (y65 < 24)) = true then (if (0 : Int) ≤ y65 ∧ y65 < 24 then (if (0 : Int) ≤ (rd tbl_keccak_places y65) ∧ (rd tbl_keccak_places y65) < 25 then ((bits_RotateLeft64.f y66 (rd tbl_keccak_turns y65)).bind fun t1 => (rec3 (wr .i64 (y65 + 1)) (rd y67 (rd tbl_keccak_places y65)) (y67.set (Int.toNat (rd tbl_keccak_places y65)) t1))) else none) else none) else (keccak_round.j3 k y67)
def keccak_round.l3 (k : Nat) : Nat → Int → Int → (List Int) → Option ((List Int))
  | 0, _, _, _ => none
  | q + 1, y65, y66, y67 => keccak_round.b3 k (keccak_round.l3 k q) y65 y66 y67
def keccak_round.j2 (k : Nat) (y16 : List Int) : Option ((List Int)) := keccak_round.l3 k k 0 (rd y16 1) y16
def keccak_round.j6 (y80 : Int) (rec4 : Int → (List Int) → Option ((List Int))) (y86 : List Int) : Option ((List Int)) := rec4 (wr .i64 (y80 + 1)) y86
def keccak_round.b5 (y1 : List Int) (y80 : Int) (rec4 : Int → (List Int) → Option ((List Int))) (t3 : Int) (rec5 : Int → (List Int) → Option ((List Int))) (y89 : Int) (y90 : List Int) : Option ((List Int)) := if (decide (y89 < 25)) = true then (if (0 : Int) ≤ (wr .i64 (y80 + y89)) ∧ (wr .i64 (y80 + y89)) < 25 then (rec5 (wr .i64 (y89 + 5)) (y90.set (Int.toNat (wr .i64 (y80 + y89))) (bits .xor .u64 (rd y90 (wr .i64 (y80 + y89))) (bits .xor .u64 (rd y1 (Int.tmod (wr .i64 (y80 + 4)) 5)) t3)))) else none) else (keccak_round.j6 y80 rec4 y90)
def keccak_round.l5 (y1 : List Int) (y80 : Int) (rec4 : Int → (List Int) → Option ((List Int))) (t3 : Int) : Nat → Int → (List Int) → Option ((List Int))
  | 0, _, _ => none
  | q + 1, y89, y90 => keccak_round.b5 y1 y80 rec4 t3 (keccak_round.l5 y1 y80 rec4 t3 q) y89 y90
def keccak_round.b4 (k : Nat) (y1 : List Int) (rec4 : Int → (List Int) → Option ((List Int))) (y80 : Int) (y81 : List Int) : Option ((List Int)) := if (decide (y80 < 5)) = true then (if (0 : Int) ≤ (Int.tmod (wr .i64 (y80 + 4)) 5) ∧ (Int.tmod (wr .i64 (y80 + 4)) 5) < 5 then (if (0 : Int) ≤ (Int.tmod (wr .i64 (y80 + 1)) 5) ∧ (Int.tmod (wr .i64 (y80 + 1)) 5) < 5 then ((bits_RotateLeft64.f (rd y1 (Int.tmod (wr .i64 (y80 + 1)) 5)) 1).bind fun t3 => (keccak_round.l5 y1 y80 rec4 t3 k 0 y81)) else none) else none) else (keccak_round.j2 k y81)
def keccak_round.l4 (k : Nat) (y1 : List Int) : Nat → Int → (List Int) → Option ((List Int))
  | 0, _, _ => none
  | q + 1, y80, y81 => keccak_round.b4 k y1 (keccak_round.l4 k y1 q) y80 y81
def keccak_round.j1 (k : Nat) (x1 : List Int) (y1 : List Int) : Option ((List Int)) := keccak_round.l4 k y1 k 0 x1
def keccak_round.b6 (k : Nat) (x1 : List Int) (rec6 : Int → (List Int) → Option ((List Int))) (y93 : Int) (y94 : List Int) : Option ((List Int)) := if (decide (y93 < 5)) = true then (if (0 : Int) ≤ y93 ∧ y93 < 25 then (if (0 : Int) ≤ (wr .i64 (y93 + 5)) ∧ (wr .i64 (y93 + 5)) < 25 then (if (0 : Int) ≤ (wr .i64 (y93 + 10)) ∧ (wr .i64 (y93 + 10)) < 25 then (if (0 : Int) ≤ (wr .i64 (y93 + 15)) ∧ (wr .i64 (y93 + 15)) < 25 then (if (0 : Int) ≤ (wr .i64 (y93 + 20)) ∧ (wr .i64 (y93 + 20)) < 25 then (if (0 : Int) ≤ y93 ∧ y93 < 5 then (rec6 (wr .i64 (y93 + 1)) (y94.set (Int.toNat y93) (bits .xor .u64 (bits .xor .u64 (bits .xor .u64 (bits .xor .u64 (rd x1 y93) (rd x1 (wr .i64 (y93 + 5)))) (rd x1 (wr .i64 (y93 + 10)))) (rd x1 (wr .i64 (y93 + 15)))) (rd x1 (wr .i64 (y93 + 20)))))) else none) else none) else none) else none) else none) else none) else (keccak_round.j1 k x1 y94)
def keccak_round.l6 (k : Nat) (x1 : List Int) : Nat → Int → (List Int) → Option ((List Int))
  | 0, _, _ => none
  | q + 1, y93, y94 => keccak_round.b6 k x1 (keccak_round.l6 k x1 q) y93 y94
def keccak_round.f (k : Nat) (x1 : List Int) : Option ((List Int)) := keccak_round.l6 k x1 k 0 [0, 0, 0, 0, 0]
theorem keccak_round.ok (k : Nat) : keccak_round.Ctr (keccak_round.f k) := by
 intro x1 r h0 mi w0 G ok hm
 delta keccak_round.f at h0
 refine c_enterZ (n := 126) ok hm func43 rfl rfl rfl fun b0 hb a S => ?_
 replace S := S.addfro (g := 2) 91 G.2.2
 replace S := S.addfro (g := 1) 91 G.2.1
 replace S := S.addfro (g := 0) 85 G.1
 refine c_region (s_box S rfl rfl rfl fun g1 a w S => s_alloc S Z80 rfl ⟨rfl, trivial⟩ rfl fun g2 a w S => c_end (c_region (s_alloc S Z89 rfl ⟨rfl, trivial⟩ rfl fun g3 a w S => c_end (wp_seq_k fun K1 hK1 => ?_))))
 have j1 : ∀ m g13 g14 g15 y1 a w, St 126 m b0 [(3, (.p g13)), (2, (.p g14)), (1, (.p g15))] [Res.cells g13 89 [.ints .u64 y1 5], Res.cells g14 80 [.ints .u64 z25 25], Res.cells g15 80 [.ints .u64 x1 25], Res.fro 0 85 [.ints .u64 tbl_keccak_constants 24], Res.fro 1 91 [.ints .i64 tbl_keccak_places 24], Res.fro 2 91 [.ints .i64 tbl_keccak_turns 24]] a w → keccak_round.j1 k x1 y1 = some r → K1 a w := by
  intro m g13 g14 g15 y1 a w S h0
  delta keccak_round.j1 at h0
  refine hK1 a w (wp_seq_k fun K2 hK2 => ?_)
  have j2 : ∀ m g49 g50 y16 a w, St 126 m b0 [(2, (.p g49)), (1, (.p g50))] [Res.cells g49 80 [.ints .u64 z25 25], Res.cells g50 80 [.ints .u64 y16 25], Res.fro 0 85 [.ints .u64 tbl_keccak_constants 24], Res.fro 1 91 [.ints .i64 tbl_keccak_places 24], Res.fro 2 91 [.ints .i64 tbl_keccak_turns 24]] a w → keccak_round.j2 k y16 = some r → K2 a w := by
   intro m g49 g50 y16 a w S h0
   delta keccak_round.j2 at h0
   refine hK2 a w (c_region (s_iaddr S (o' := 1) rfl rfl underlying80 T51 (by decide) (by decide) rfl rfl fun a S => s_loadi S (i := 1) rfl .h1 T51 .h rfl (by decide) (by decide) rfl fun a S => s_assign S rfl rfl fun a S => c_end (wp_seq_k fun K3 hK3 => ?_)))
   have j3 : ∀ m g57 g58 y23 a w, St 126 m b0 [(2, (.p g57)), (1, (.p g58))] [Res.cells g57 80 [.ints .u64 z25 25], Res.cells g58 80 [.ints .u64 y23 25], Res.fro 0 85 [.ints .u64 tbl_keccak_constants 24], Res.fro 1 91 [.ints .i64 tbl_keccak_places 24], Res.fro 2 91 [.ints .i64 tbl_keccak_turns 24]] a w → keccak_round.j3 k y23 = some r → K3 a w := by
    intro m g57 g58 y23 a w S h0
    delta keccak_round.j3 at h0
    refine hK3 a w (wp_seq_k fun K4 hK4 => ?_)
    have j4 : ∀ m g89 g90 y38 a w, St 126 m b0 [(2, (.p g89)), (1, (.p g90))] [Res.cells g89 80 [.ints .u64 z25 25], Res.cells g90 80 [.ints .u64 y38 25], Res.fro 0 85 [.ints .u64 tbl_keccak_constants 24], Res.fro 1 91 [.ints .i64 tbl_keccak_places 24], Res.fro 2 91 [.ints .i64 tbl_keccak_turns 24]] a w → keccak_round.j4 y38 = some r → K4 a w := by
     intro m g89 g90 y38 a w S h0
     delta keccak_round.j4 at h0
     refine hK4 a w (c_region (s_loada S rfl .h1 T80 (s' := [.ints .u64 y38 25]) rfl rfl fun a S => s_store S rfl rfl rfl (s' := [.ints .u64 y38 25]) .h T80 rfl rfl fun w S => c_end (wp_ret ?_)))
     obtain rfl := Option.some.inj h0
     exact b_ret1 (d := (.agg [.ints .u64 y38 25])) S rfl (resD_cell rfl .h T80 rfl rfl) (S.rt hb)
    refine c_region (s_assign S rfl rfl fun a S => c_end (wp_block ?_))
    refine c_loop (fun q1 a w => ∃ m y51 g119 g120 y52, St 126 m b0 [(12, (.i y51)), (2, (.p g119)), (1, (.p g120))] [Res.cells g119 80 [.ints .u64 z25 25], Res.cells g120 80 [.ints .u64 y52 25], Res.fro 0 85 [.ints .u64 tbl_keccak_constants 24], Res.fro 1 91 [.ints .i64 tbl_keccak_places 24], Res.fro 2 91 [.ints .i64 tbl_keccak_turns 24]] a w ∧ keccak_round.l1 k q1 y51 y52 = some r) ?_ ?_ (k := k) ⟨_, 0, g57, g58, y23, (S.sb rfl (.c0 (.c0 (.c0 (.c0 (.c0 .n)))))), h0⟩
    ·rintro a w ⟨m, y51, g119, g120, y52, S, h0⟩
     exact (nomatch (show (none : Option ((List Int))) = some r from h0))
    ·clear S h0
     rintro q1 a w ⟨m, y51, g119, g120, y52, S, h0⟩
     replace h0 : keccak_round.b1 k (keccak_round.l1 k q1) y51 y52 = some r := h0
     delta keccak_round.b1 at h0
     refine wp_seq (c_region (s_move S rfl rfl fun a S => s_bin S rfl rfl rfl rfl fun a S => c_end ?_))
     rcases ite_of h0 with ⟨c1, h1⟩ | ⟨c1, h1⟩
     ·refine c_condT S rfl c1 (wp_skip (x_thenN (wp_seq_k fun K5 hK5 => ?_)))
      have j5 : ∀ m g131 g132 y57 a w, St 126 m b0 [(12, (.i y51)), (2, (.p g131)), (1, (.p g132))] [Res.cells g131 80 [.ints .u64 z25 25], Res.cells g132 80 [.ints .u64 y57 25], Res.fro 0 85 [.ints .u64 tbl_keccak_constants 24], Res.fro 1 91 [.ints .i64 tbl_keccak_places 24], Res.fro 2 91 [.ints .i64 tbl_keccak_turns 24]] a w → keccak_round.j5 y51 (keccak_round.l1 k q1) y57 = some r → K5 a w := by
       intro m g131 g132 y57 a w S h0
       delta keccak_round.j5 at h0
       refine hK5 a w (c_region' (s_move S rfl rfl fun a S => s_bin S rfl rfl rfl rfl fun a S => s_assign S rfl rfl fun a S => c_end' (x_thenN ?_)))
       exact ⟨_, (wr .i64 (y51 + 5)), g131, g132, y57, (S.sb rfl (.c0 (.c0 (.c0 (.c0 (.c0 .n)))))), h0⟩
      refine wp_block (c_region (s_move S rfl rfl fun a S => s_move S rfl rfl fun a S => s_bin S rfl rfl rfl rfl fun a S => ?_))
      obtain ⟨c2, h2⟩ := chk_of h1; clear h1
      refine s_sliceA S (i := y51) (j := (wr .i64 (y51 + 5))) (o' := if 25 = Int.toNat y51 then 0 else 0 + Int.toNat y51 * 1) (len := Int.toNat (wr .i64 (y51 + 5)) - Int.toNat y51) (cap := 25 - Int.toNat y51) rfl underlying80 T51 (.inr ⟨_, _, rfl, rfl⟩) (.inr ⟨_, _, rfl, rfl⟩) c2 rfl rfl rfl rfl fun a S => ?_
      obtain ⟨c3, h3⟩ := chk_of h2; clear h2
      refine s_arrp S rfl underlying89 c3 rfl fun a S => s_ldInts S (lo := (Int.toNat y51)) (ys := ((y52).drop (Int.toNat y51)).take 5) rfl .h1 T89 .h (ho_rng c2 c3) (by have h := c2; have h' := c3; omega) rfl rfl fun a S => s_alloc S Z89 rfl ⟨rfl, trivial⟩ rfl fun g133 a w S => s_store S rfl rfl rfl (s' := [.ints .u64 (((y52).drop (Int.toNat y51)).take 5) 5]) .h T89 rfl rfl fun w S => c_end (c_region (s_move S rfl rfl fun a S => c_end (wp_block ?_)))
      refine c_loop (fun q2 a w => ∃ m y60 g140 g141 g142 y61, St 126 m b0 [(101, (.i y60)), (13, (.p g140)), (12, (.i y51)), (2, (.p g141)), (1, (.p g142))] [Res.cells g140 89 [.ints .u64 (((y52).drop (Int.toNat y51)).take 5) 5], Res.cells g141 80 [.ints .u64 z25 25], Res.cells g142 80 [.ints .u64 y61 25], Res.fro 0 85 [.ints .u64 tbl_keccak_constants 24], Res.fro 1 91 [.ints .i64 tbl_keccak_places 24], Res.fro 2 91 [.ints .i64 tbl_keccak_turns 24]] a w ∧ keccak_round.l2 y51 y52 (keccak_round.l1 k q1) q2 y60 y61 = some r) ?_ ?_ (k := k) ⟨_, 0, g133, g119, g120, y52, (S.sb rfl (.c0 (.c0 (.c0 (.c0 (.c0 (.c0 .n))))))), h3⟩
      ·rintro a w ⟨m, y60, g140, g141, g142, y61, S, h0⟩
       exact (nomatch (show (none : Option ((List Int))) = some r from h0))
      ·clear S h3
       rintro q2 a w ⟨m, y60, g140, g141, g142, y61, S, h0⟩
       replace h0 : keccak_round.b2 y51 y52 (keccak_round.l1 k q1) (keccak_round.l2 y51 y52 (keccak_round.l1 k q1) q2) y60 y61 = some r := h0
       delta keccak_round.b2 at h0
       refine c_region (s_bin S rfl rfl rfl rfl fun a S => c_end (wp_seq ?_))
       rcases ite_of h0 with ⟨c4, h1⟩ | ⟨c4, h1⟩
       ·refine c_condT S rfl c4 (wp_skip (x_thenN (wp_seq (wp_block (c_region (s_move S rfl rfl fun a S => s_assign S rfl rfl fun a S => c_end (c_heldS S (.take 0 (.take 1 (.take 2 (.take 3 (.take 4 (.take 5 (.take 6 (.take 7 (.take 8 (.take 9 (.take 10 (.take 11 (.take 12 (.take 13 (.take 14 (.take 15 (.take 16 (.take 17 (.take 18 (.take 19 (.alts (.run 20 false .done .nil)))))))))))))))))))))) 20 [Res.cells g140 89 [.ints .u64 (((y52).drop (Int.toNat y51)).take 5) 5], Res.cells g141 80 [.ints .u64 z25 25], Res.cells g142 80 [.ints .u64 y61 25], Res.fro 0 85 [.ints .u64 tbl_keccak_constants 24], Res.fro 1 91 [.ints .i64 tbl_keccak_places 24], Res.fro 2 91 [.ints .i64 tbl_keccak_turns 24]] (.c0 (.c0 (.c0 (.c0 (.c0 (.c0 .n)))))) ⟨Res.stay_cells, Res.stay_cells, Res.stay_cells, Res.stay_fro, Res.stay_fro, Res.stay_fro, trivial⟩ [(14, (.i y60)), (13, (.p g140)), (12, (.i y51)), (1, (.p g142))] (subR rfl) (by kernel_rfl) (by kernel_rfl) fun w S CL hw le => ?_)))))))
        refine h_move S CL hw le (subR rfl) rfl rfl rfl trivial fun a S CL => h_move S CL hw le (subR rfl) rfl rfl rfl trivial fun a S CL => h_bin S CL hw le (subR rfl) rfl rfl rfl rfl rfl trivial fun a S CL => h_move S CL hw le (subR rfl) rfl rfl rfl trivial fun a S CL => ?_
        obtain ⟨c5, h2⟩ := chk_of h1; clear h1
        refine h_iaddr S CL hw le (subR rfl) rfl rfl underlying89 T51 c5.1 c5.2 (mul1 _ _) rfl rfl trivial fun a S CL => h_loadi S CL hw le (subR rfl) (i := y60) rfl .h T51 .h rfl c5.1 c5.2 rfl rfl trivial fun a S CL => h_move S CL hw le (subR rfl) rfl rfl rfl trivial fun a S CL => h_bin S CL hw le (subR rfl) rfl rfl rfl rfl rfl trivial fun a S CL => h_rem S CL hw le (subR rfl) rfl rfl (by decide) rfl rfl trivial fun a S CL => ?_
        obtain ⟨c6, h3⟩ := chk_of h2; clear h2
        refine h_iaddr S CL hw le (subR rfl) rfl rfl underlying89 T51 c6.1 c6.2 (mul1 _ _) rfl rfl trivial fun a S CL => h_loadi S CL hw le (subR rfl) (i := (Int.tmod (wr .i64 (y60 + 1)) 5)) rfl .h T51 .h rfl c6.1 c6.2 rfl rfl trivial fun a S CL => h_un S CL hw le (subR rfl) rfl rfl rfl rfl trivial fun a S CL => h_move S CL hw le (subR rfl) rfl rfl rfl trivial fun a S CL => h_bin S CL hw le (subR rfl) rfl rfl rfl rfl rfl trivial fun a S CL => h_rem S CL hw le (subR rfl) rfl rfl (by decide) rfl rfl trivial fun a S CL => ?_
        obtain ⟨c7, h4⟩ := chk_of h3; clear h3
        refine h_iaddr S CL hw le (subR rfl) rfl rfl underlying89 T51 c7.1 c7.2 (mul1 _ _) rfl rfl trivial fun a S CL => h_loadi S CL hw le (subR rfl) (i := (Int.tmod (wr .i64 (y60 + 2)) 5)) rfl .h T51 .h rfl c7.1 c7.2 rfl rfl trivial fun a S CL => h_bin S CL hw le (subR rfl) rfl rfl rfl rfl rfl trivial fun a S CL => h_bin S CL hw le (subR rfl) rfl rfl rfl rfl rfl trivial fun a S CL => ?_
        obtain ⟨c8, h5⟩ := chk_of h4; clear h4
        refine h_iaddr S CL hw le (subR rfl) rfl rfl underlying80 T51 c8.1 c8.2 (mul1 _ _) rfl rfl trivial fun a S CL => h_run' S rfl trivial (s_storei S (i := (wr .i64 (y60 + y51))) rfl rfl .h2 T51 .h rfl c8.1 c8.2 fun w S => ?_)
        refine h_back ⟨fun h => (nomatch h), ?_⟩
        refine h_done ?_; clear CL hw le
        refine x_blockN (x_thenN (c_region' (s_bin S rfl rfl rfl rfl fun a S => s_move S rfl rfl fun a S => c_end' (x_thenN ?_))))
        exact ⟨_, (wr .i64 (y60 + 1)), g140, g141, g142, (y61.set (Int.toNat (wr .i64 (y60 + y51))) (bits .xor .u64 (rd (((y52).drop (Int.toNat y51)).take 5) y60) (bits .and .u64 (bnot .u64 (rd (((y52).drop (Int.toNat y51)).take 5) (Int.tmod (wr .i64 (y60 + 1)) 5))) (rd (((y52).drop (Int.toNat y51)).take 5) (Int.tmod (wr .i64 (y60 + 2)) 5))))), (S.sb rfl (.c0 (.c0 (.c0 (.c0 (.c0 (.c0 .n))))))), h5⟩
       ·refine c_condF S rfl c4 (wp_exit (x_thenX (x_thenX (x_blockX (x_blockN (x_thenN ?_))))))
        exact j5 _ g141 g142 y61 a w (S.sb rfl (.c1 (.c1 (.c1 (.c1 (.c1 .n)))))) h1
     ·refine c_condF S rfl c1 (wp_exit (x_thenX (x_thenX (x_blockX (x_thenN ?_)))))
      exact j4 _ g119 g120 y52 a w (S.sb rfl (.c0 (.c0 (.c0 (.c0 (.c0 .n)))))) h1
   refine c_region (s_loadaF S rfl .h3 T91 (s' := [.ints .i64 tbl_keccak_places 24]) rfl rfl fun a S => s_move S rfl rfl fun a S => c_end (wp_block ?_))
   refine c_loop (fun q3 a w => ∃ m y65 y66 g147 g148 y67, St 126 m b0 [(75, (.i y65)), (74, (.agg [.ints .i64 tbl_keccak_places 24])), (8, (.w y66)), (2, (.p g147)), (1, (.p g148))] [Res.cells g147 80 [.ints .u64 z25 25], Res.cells g148 80 [.ints .u64 y67 25], Res.fro 0 85 [.ints .u64 tbl_keccak_constants 24], Res.fro 1 91 [.ints .i64 tbl_keccak_places 24], Res.fro 2 91 [.ints .i64 tbl_keccak_turns 24]] a w ∧ keccak_round.l3 k q3 y65 y66 y67 = some r) ?_ ?_ (k := k) ⟨_, 0, (rd y16 1), g49, g50, y16, (S.sb rfl (.c0 (.c0 (.c0 (.c0 (.c0 .n)))))), h0⟩
   ·rintro a w ⟨m, y65, y66, g147, g148, y67, S, h0⟩
    exact (nomatch (show (none : Option ((List Int))) = some r from h0))
   ·clear S h0
    rintro q3 a w ⟨m, y65, y66, g147, g148, y67, S, h0⟩
    replace h0 : keccak_round.b3 k (keccak_round.l3 k q3) y65 y66 y67 = some r := h0
    delta keccak_round.b3 at h0
    refine c_region (s_bin S rfl rfl rfl rfl fun a S => c_end (wp_seq ?_))
    rcases ite_of h0 with ⟨c9, h1⟩ | ⟨c9, h1⟩
    ·refine c_condT S rfl c9 (wp_skip (x_thenN (wp_seq (wp_block (c_region (s_move S rfl rfl fun a S => ?_))))))
     obtain ⟨c10, h2⟩ := chk_of h1; clear h1
     refine s_index S rfl rfl underlying91 T3 c10.1 c10.2 rfl fun a S => s_assign S rfl rfl fun a S => s_assign S rfl rfl fun a S => c_end (c_region (s_move S rfl rfl fun a S => ?_))
     obtain ⟨c11, h3⟩ := chk_of h2; clear h2
     refine s_iaddr S rfl rfl underlying80 T51 c11.1 c11.2 (mul1 _ _) rfl fun a S => s_loadi S (i := (rd tbl_keccak_places y65)) rfl .h1 T51 .h rfl c11.1 c11.2 rfl fun a S => s_assign S rfl rfl fun a S => c_end (c_region (s_move S rfl rfl fun a S => s_move S rfl rfl fun a S => s_move S rfl rfl fun a S => s_iaddr S rfl rfl underlying91 T3 c10.1 c10.2 (mul1 _ _) rfl fun a S => s_loadiF S (i := y65) rfl .h4 T3 .h rfl c10.1 c10.2 rfl fun a S => bindX h3 fun t1 et1 h4 => s_callP S _ N44 rfl rfl (bits_RotateLeft64.ok y66 (rd tbl_keccak_turns y65) t1 et1 _ _) fun ch1 m le1 a w S => s_iaddr S rfl rfl underlying80 T51 c11.1 c11.2 (mul1 _ _) rfl fun a S => s_storei S (i := (rd tbl_keccak_places y65)) rfl rfl .h1 T51 .h rfl c11.1 c11.2 fun w S => c_end (c_region' (s_move S rfl rfl fun a S => s_assign S rfl rfl fun a S => c_end' (x_blockN (x_thenN (c_region' (s_bin S rfl rfl rfl rfl fun a S => s_move S rfl rfl fun a S => c_end' (x_thenN ?_)))))))))
     exact ⟨_, (wr .i64 (y65 + 1)), (rd y67 (rd tbl_keccak_places y65)), g147, g148, (y67.set (Int.toNat (rd tbl_keccak_places y65)) t1), (S.sb rfl (.c0 (.c0 (.c0 (.c0 (.c0 .n)))))), h4⟩
    ·refine c_condF S rfl c9 (wp_exit (x_thenX (x_thenX (x_blockX (x_thenN ?_)))))
     exact j3 _ g147 g148 y67 a w (S.sb rfl (.c0 (.c0 (.c0 (.c0 (.c0 .n)))))) h1
  refine c_region (s_move S rfl rfl fun a S => c_end (wp_block ?_))
  refine c_loop (fun q4 a w => ∃ m y80 g179 g180 g181 y81, St 126 m b0 [(44, (.i y80)), (3, (.p g179)), (2, (.p g180)), (1, (.p g181))] [Res.cells g179 89 [.ints .u64 y1 5], Res.cells g180 80 [.ints .u64 z25 25], Res.cells g181 80 [.ints .u64 y81 25], Res.fro 0 85 [.ints .u64 tbl_keccak_constants 24], Res.fro 1 91 [.ints .i64 tbl_keccak_places 24], Res.fro 2 91 [.ints .i64 tbl_keccak_turns 24]] a w ∧ keccak_round.l4 k y1 q4 y80 y81 = some r) ?_ ?_ (k := k) ⟨_, 0, g13, g14, g15, x1, (S.sb rfl (.c0 (.c0 (.c0 (.c0 (.c0 (.c0 .n))))))), h0⟩
  ·rintro a w ⟨m, y80, g179, g180, g181, y81, S, h0⟩
   exact (nomatch (show (none : Option ((List Int))) = some r from h0))
  ·clear S h0
   rintro q4 a w ⟨m, y80, g179, g180, g181, y81, S, h0⟩
   replace h0 : keccak_round.b4 k y1 (keccak_round.l4 k y1 q4) y80 y81 = some r := h0
   delta keccak_round.b4 at h0
   refine c_region (s_bin S rfl rfl rfl rfl fun a S => c_end (wp_seq ?_))
   rcases ite_of h0 with ⟨c12, h1⟩ | ⟨c12, h1⟩
   ·refine c_condT S rfl c12 (wp_skip (x_thenN (wp_seq_k fun K6 hK6 => ?_)))
    have j6 : ∀ m g191 g192 g193 y86 a w, St 126 m b0 [(44, (.i y80)), (3, (.p g191)), (2, (.p g192)), (1, (.p g193))] [Res.cells g191 89 [.ints .u64 y1 5], Res.cells g192 80 [.ints .u64 z25 25], Res.cells g193 80 [.ints .u64 y86 25], Res.fro 0 85 [.ints .u64 tbl_keccak_constants 24], Res.fro 1 91 [.ints .i64 tbl_keccak_places 24], Res.fro 2 91 [.ints .i64 tbl_keccak_turns 24]] a w → keccak_round.j6 y80 (keccak_round.l4 k y1 q4) y86 = some r → K6 a w := by
     intro m g191 g192 g193 y86 a w S h0
     delta keccak_round.j6 at h0
     refine hK6 a w (c_region' (s_bin S rfl rfl rfl rfl fun a S => s_move S rfl rfl fun a S => c_end' (x_thenN ?_)))
     exact ⟨_, (wr .i64 (y80 + 1)), g191, g192, g193, y86, (S.sb rfl (.c0 (.c0 (.c0 (.c0 (.c0 (.c0 .n))))))), h0⟩
    refine wp_block (c_region (s_move S rfl rfl fun a S => s_assign S rfl rfl fun a S => c_end ?_))
    refine wp_seq (c_heldS S (.take 0 (.take 1 (.take 2 (.take 3 (.take 4 (.take 5 (.take 6 (.take 7 (.take 8 (.take 9 (.alts (.run 10 true (.take 11 (.take 12 .done)) .nil)))))))))))) 13 [Res.cells g179 89 [.ints .u64 y1 5], Res.cells g180 80 [.ints .u64 z25 25], Res.cells g181 80 [.ints .u64 y81 25], Res.fro 0 85 [.ints .u64 tbl_keccak_constants 24], Res.fro 1 91 [.ints .i64 tbl_keccak_places 24], Res.fro 2 91 [.ints .i64 tbl_keccak_turns 24]] (.c0 (.c0 (.c0 (.c0 (.c0 (.c0 .n)))))) ⟨Res.stay_cells, Res.stay_cells, Res.stay_cells, Res.stay_fro, Res.stay_fro, Res.stay_fro, trivial⟩ [(5, (.i y80)), (3, (.p g179))] (subR rfl) (by kernel_rfl) (by kernel_rfl) ?_); clear S; intro w S CL hw le
    refine h_move S CL hw le (subR rfl) rfl rfl rfl trivial fun a S CL => h_bin S CL hw le (subR rfl) rfl rfl rfl rfl rfl trivial fun a S CL => h_rem S CL hw le (subR rfl) rfl rfl (by decide) rfl rfl trivial fun a S CL => ?_
    obtain ⟨c13, h2⟩ := chk_of h1; clear h1
    refine h_iaddr S CL hw le (subR rfl) rfl rfl underlying89 T51 c13.1 c13.2 (mul1 _ _) rfl rfl trivial fun a S CL => h_loadi S CL hw le (subR rfl) (i := (Int.tmod (wr .i64 (y80 + 4)) 5)) rfl .h T51 .h rfl c13.1 c13.2 rfl rfl trivial fun a S CL => h_move S CL hw le (subR rfl) rfl rfl rfl trivial fun a S CL => h_bin S CL hw le (subR rfl) rfl rfl rfl rfl rfl trivial fun a S CL => h_rem S CL hw le (subR rfl) rfl rfl (by decide) rfl rfl trivial fun a S CL => ?_
    obtain ⟨c14, h3⟩ := chk_of h2; clear h2
    refine h_iaddr S CL hw le (subR rfl) rfl rfl underlying89 T51 c14.1 c14.2 (mul1 _ _) rfl rfl trivial fun a S CL => h_loadi S CL hw le (subR rfl) (i := (Int.tmod (wr .i64 (y80 + 1)) 5)) rfl .h T51 .h rfl c14.1 c14.2 rfl rfl trivial fun a S CL => h_run' S rfl trivial (bindX h3 fun t3 et3 h4 => s_callP S _ N44 rfl rfl (bits_RotateLeft64.ok (rd y1 (Int.tmod (wr .i64 (y80 + 1)) 5)) 1 t3 et3 _ _) fun ch2 m le1 a w S => ?_)
    replace le := le.trans le1
    refine CL.bk hw S (.c0 (.c0 (.c0 (.c0 (.c0 (.c0 .n)))))) le fun hw => ?_
    replace CL := CL.add (t := 57) (d := (.w t3)) S rfl rfl
    refine h_bin S CL hw le (subR rfl) rfl rfl rfl rfl rfl trivial fun a S CL => h_assign S CL hw le (subR rfl) rfl rfl rfl trivial fun a S CL => ?_
    refine h_done ?_; clear CL hw le
    refine x_thenN (c_region (s_assign S rfl rfl fun a S => c_end (wp_block ?_)))
    refine c_loop (fun q5 a w => ∃ m y89 g200 g201 g202 y90, St 126 m b0 [(7, (.i y89)), (6, (.w (bits .xor .u64 (rd y1 (Int.tmod (wr .i64 (y80 + 4)) 5)) t3))), (5, (.i y80)), (44, (.i y80)), (3, (.p g200)), (2, (.p g201)), (1, (.p g202))] [Res.cells g200 89 [.ints .u64 y1 5], Res.cells g201 80 [.ints .u64 z25 25], Res.cells g202 80 [.ints .u64 y90 25], Res.fro 0 85 [.ints .u64 tbl_keccak_constants 24], Res.fro 1 91 [.ints .i64 tbl_keccak_places 24], Res.fro 2 91 [.ints .i64 tbl_keccak_turns 24]] a w ∧ keccak_round.l5 y1 y80 (keccak_round.l4 k y1 q4) t3 q5 y89 y90 = some r) ?_ ?_ (k := k) ⟨_, 0, g179, g180, g181, y81, (S.sb rfl (.c0 (.c0 (.c0 (.c0 (.c0 (.c0 .n))))))), h4⟩
    ·rintro a w ⟨m, y89, g200, g201, g202, y90, S, h0⟩
     exact (nomatch (show (none : Option ((List Int))) = some r from h0))
    ·clear S h4
     rintro q5 a w ⟨m, y89, g200, g201, g202, y90, S, h0⟩
     replace h0 : keccak_round.b5 y1 y80 (keccak_round.l4 k y1 q4) t3 (keccak_round.l5 y1 y80 (keccak_round.l4 k y1 q4) t3 q5) y89 y90 = some r := h0
     delta keccak_round.b5 at h0
     refine wp_seq (c_region (s_move S rfl rfl fun a S => s_bin S rfl rfl rfl rfl fun a S => c_end ?_))
     rcases ite_of h0 with ⟨c15, h1⟩ | ⟨c15, h1⟩
     ·refine c_condT S rfl c15 (wp_skip (x_thenN (wp_seq (wp_block (c_region' (s_move S rfl rfl fun a S => s_move S rfl rfl fun a S => s_bin S rfl rfl rfl rfl fun a S => ?_))))))
      obtain ⟨c16, h2⟩ := chk_of h1; clear h1
      refine s_iaddr S rfl rfl underlying80 T51 c16.1 c16.2 (mul1 _ _) rfl fun a S => s_loadi S (i := (wr .i64 (y80 + y89))) rfl .h2 T51 .h rfl c16.1 c16.2 rfl fun a S => s_move S rfl rfl fun a S => s_bin S rfl rfl rfl rfl fun a S => s_iaddr S rfl rfl underlying80 T51 c16.1 c16.2 (mul1 _ _) rfl fun a S => s_storei S (i := (wr .i64 (y80 + y89))) rfl rfl .h2 T51 .h rfl c16.1 c16.2 fun w S => c_end' (x_blockN (x_thenN (c_region' (s_move S rfl rfl fun a S => s_bin S rfl rfl rfl rfl fun a S => s_assign S rfl rfl fun a S => c_end' (x_thenN ?_)))))
      exact ⟨_, (wr .i64 (y89 + 5)), g200, g201, g202, (y90.set (Int.toNat (wr .i64 (y80 + y89))) (bits .xor .u64 (rd y90 (wr .i64 (y80 + y89))) (bits .xor .u64 (rd y1 (Int.tmod (wr .i64 (y80 + 4)) 5)) t3))), (S.sb rfl (.c0 (.c0 (.c0 (.c0 (.c0 (.c0 .n))))))), h2⟩
     ·refine c_condF S rfl c15 (wp_exit (x_thenX (x_thenX (x_blockX (x_blockN (x_thenN ?_))))))
      exact j6 _ g200 g201 g202 y90 a w (S.sb rfl (.c0 (.c0 (.c0 (.c0 (.c0 (.c0 .n))))))) h1
   ·refine c_condF S rfl c12 (wp_exit (x_thenX (x_thenX (x_blockX (x_thenN ?_)))))
    exact j2 _ g180 g181 y81 a w (S.sb rfl (.c1 (.c1 (.c1 (.c1 (.c1 .n)))))) h1
 refine c_region (s_move S rfl rfl fun a S => c_end (wp_block ?_))
 refine c_loop (fun q6 a w => ∃ m y93 g209 g210 g211 y94, St 126 m b0 [(15, (.i y93)), (3, (.p g209)), (2, (.p g210)), (1, (.p g211))] [Res.cells g209 89 [.ints .u64 y94 5], Res.cells g210 80 [.ints .u64 z25 25], Res.cells g211 80 [.ints .u64 x1 25], Res.fro 0 85 [.ints .u64 tbl_keccak_constants 24], Res.fro 1 91 [.ints .i64 tbl_keccak_places 24], Res.fro 2 91 [.ints .i64 tbl_keccak_turns 24]] a w ∧ keccak_round.l6 k x1 q6 y93 y94 = some r) ?_ ?_ (k := k) ⟨_, 0, g3, g2, g1, [0, 0, 0, 0, 0], (S.sb rfl (.c0 (.c0 (.c0 (.c0 (.c0 (.c0 .n))))))), h0⟩
 ·rintro a w ⟨m, y93, g209, g210, g211, y94, S, h0⟩
  exact (nomatch (show (none : Option ((List Int))) = some r from h0))
 ·clear S h0
  rintro q6 a w ⟨m, y93, g209, g210, g211, y94, S, h0⟩
  replace h0 : keccak_round.b6 k x1 (keccak_round.l6 k x1 q6) y93 y94 = some r := h0
  delta keccak_round.b6 at h0
  refine c_region (s_bin S rfl rfl rfl rfl fun a S => c_end (wp_seq ?_))
  rcases ite_of h0 with ⟨c17, h1⟩ | ⟨c17, h1⟩
  ·refine c_condT S rfl c17 (wp_skip (x_thenN (wp_seq (wp_block (c_region (s_move S rfl rfl fun a S => s_assign S rfl rfl fun a S => c_end (c_heldS S (.take 0 (.take 1 (.take 2 (.take 3 (.take 4 (.take 5 (.take 6 (.take 7 (.take 8 (.take 9 (.take 10 (.take 11 (.take 12 (.take 13 (.take 14 (.take 15 (.take 16 (.take 17 (.take 18 (.take 19 (.take 20 (.take 21 (.take 22 (.take 23 (.take 24 (.alts (.run 25 false .done .nil))))))))))))))))))))))))))) 25 [Res.cells g209 89 [.ints .u64 y94 5], Res.cells g210 80 [.ints .u64 z25 25], Res.cells g211 80 [.ints .u64 x1 25], Res.fro 0 85 [.ints .u64 tbl_keccak_constants 24], Res.fro 1 91 [.ints .i64 tbl_keccak_places 24], Res.fro 2 91 [.ints .i64 tbl_keccak_turns 24]] (.c0 (.c0 (.c0 (.c0 (.c0 (.c0 .n)))))) ⟨Res.stay_cells, Res.stay_cells, Res.stay_cells, Res.stay_fro, Res.stay_fro, Res.stay_fro, trivial⟩ [(4, (.i y93)), (3, (.p g209)), (1, (.p g211))] (subR rfl) (by kernel_rfl) (by kernel_rfl) fun w S CL hw le => ?_)))))))
   refine h_move S CL hw le (subR rfl) rfl rfl rfl trivial fun a S CL => h_move S CL hw le (subR rfl) rfl rfl rfl trivial fun a S CL => ?_
   obtain ⟨c18, h2⟩ := chk_of h1; clear h1
   refine h_iaddr S CL hw le (subR rfl) rfl rfl underlying80 T51 c18.1 c18.2 (mul1 _ _) rfl rfl trivial fun a S CL => h_loadi S CL hw le (subR rfl) (i := y93) rfl .h2 T51 .h rfl c18.1 c18.2 rfl rfl trivial fun a S CL => h_move S CL hw le (subR rfl) rfl rfl rfl trivial fun a S CL => h_bin S CL hw le (subR rfl) rfl rfl rfl rfl rfl trivial fun a S CL => ?_
   obtain ⟨c19, h3⟩ := chk_of h2; clear h2
   refine h_iaddr S CL hw le (subR rfl) rfl rfl underlying80 T51 c19.1 c19.2 (mul1 _ _) rfl rfl trivial fun a S CL => h_loadi S CL hw le (subR rfl) (i := (wr .i64 (y93 + 5))) rfl .h2 T51 .h rfl c19.1 c19.2 rfl rfl trivial fun a S CL => h_bin S CL hw le (subR rfl) rfl rfl rfl rfl rfl trivial fun a S CL => h_move S CL hw le (subR rfl) rfl rfl rfl trivial fun a S CL => h_bin S CL hw le (subR rfl) rfl rfl rfl rfl rfl trivial fun a S CL => ?_
   obtain ⟨c20, h4⟩ := chk_of h3; clear h3
   refine h_iaddr S CL hw le (subR rfl) rfl rfl underlying80 T51 c20.1 c20.2 (mul1 _ _) rfl rfl trivial fun a S CL => h_loadi S CL hw le (subR rfl) (i := (wr .i64 (y93 + 10))) rfl .h2 T51 .h rfl c20.1 c20.2 rfl rfl trivial fun a S CL => h_bin S CL hw le (subR rfl) rfl rfl rfl rfl rfl trivial fun a S CL => h_move S CL hw le (subR rfl) rfl rfl rfl trivial fun a S CL => h_bin S CL hw le (subR rfl) rfl rfl rfl rfl rfl trivial fun a S CL => ?_
   obtain ⟨c21, h5⟩ := chk_of h4; clear h4
   refine h_iaddr S CL hw le (subR rfl) rfl rfl underlying80 T51 c21.1 c21.2 (mul1 _ _) rfl rfl trivial fun a S CL => h_loadi S CL hw le (subR rfl) (i := (wr .i64 (y93 + 15))) rfl .h2 T51 .h rfl c21.1 c21.2 rfl rfl trivial fun a S CL => h_bin S CL hw le (subR rfl) rfl rfl rfl rfl rfl trivial fun a S CL => h_move S CL hw le (subR rfl) rfl rfl rfl trivial fun a S CL => h_bin S CL hw le (subR rfl) rfl rfl rfl rfl rfl trivial fun a S CL => ?_
   obtain ⟨c22, h6⟩ := chk_of h5; clear h5
   refine h_iaddr S CL hw le (subR rfl) rfl rfl underlying80 T51 c22.1 c22.2 (mul1 _ _) rfl rfl trivial fun a S CL => h_loadi S CL hw le (subR rfl) (i := (wr .i64 (y93 + 20))) rfl .h2 T51 .h rfl c22.1 c22.2 rfl rfl trivial fun a S CL => h_bin S CL hw le (subR rfl) rfl rfl rfl rfl rfl trivial fun a S CL => ?_
   obtain ⟨c23, h7⟩ := chk_of h6; clear h6
   refine h_iaddr S CL hw le (subR rfl) rfl rfl underlying89 T51 c23.1 c23.2 (mul1 _ _) rfl rfl trivial fun a S CL => h_run' S rfl trivial (s_storei S (i := y93) rfl rfl .h T51 .h rfl c23.1 c23.2 fun w S => ?_)
   refine h_back ⟨fun h => (nomatch h), ?_⟩
   refine h_done ?_; clear CL hw le
   refine x_blockN (x_thenN (c_region' (s_bin S rfl rfl rfl rfl fun a S => s_move S rfl rfl fun a S => c_end' (x_thenN ?_))))
   exact ⟨_, (wr .i64 (y93 + 1)), g209, g210, g211, (y94.set (Int.toNat y93) (bits .xor .u64 (bits .xor .u64 (bits .xor .u64 (bits .xor .u64 (rd x1 y93) (rd x1 (wr .i64 (y93 + 5)))) (rd x1 (wr .i64 (y93 + 10)))) (rd x1 (wr .i64 (y93 + 15)))) (rd x1 (wr .i64 (y93 + 20))))), (S.sb rfl (.c0 (.c0 (.c0 (.c0 (.c0 (.c0 .n))))))), h7⟩
  ·refine c_condF S rfl c17 (wp_exit (x_thenX (x_thenX (x_blockX (x_thenN ?_)))))
   exact j1 _ g209 g210 g211 y94 a w (S.sb rfl (.c0 (.c0 (.c0 (.c0 (.c0 (.c0 .n))))))) h1
abbrev keccak_Turn.Ty : Type := (List Int) → Option ((List Int))
def keccak_Turn.Ctr (s : keccak_Turn.Ty) : Prop := ∀ (x1 : List Int) (r : (List Int)), CtG (C := Unit) Tryd.prog Glob 41 (s x1 = some r) [] [(.agg [.ints .u64 x1 25])] (fun _ => (.agg [.ints .u64 r 25])) fun _ => []
def keccak_Turn.j1 (y1 : List Int) : Option ((List Int)) := some y1
def keccak_Turn.b1 (k : Nat) (rec1 : Int → (List Int) → Option ((List Int))) (y4 : Int) (y5 : List Int) : Option ((List Int)) := if (decide (y4 < 24)) = true then (if (0 : Int) ≤ y4 ∧ y4 < 24 then ((keccak_round.f k y5).bind fun t1 => (rec1 (wr .i64 (y4 + 1)) (t1.set (Int.toNat 0) (bits .xor .u64 (rd t1 0) (rd tbl_keccak_constants y4))))) else none) else (keccak_Turn.j1 y5)
def keccak_Turn.l1 (k : Nat) : Nat → Int → (List Int) → Option ((List Int))
  | 0, _, _ => none
  | q + 1, y4, y5 => keccak_Turn.b1 k (keccak_Turn.l1 k q) y4 y5
def keccak_Turn.f (k : Nat) (x1 : List Int) : Option ((List Int)) := keccak_Turn.l1 k k 0 x1
theorem keccak_Turn.ok (k : Nat) : keccak_Turn.Ctr (keccak_Turn.f k) := by
 intro x1 r h0 mi w0 G ok hm
 delta keccak_Turn.f at h0
 refine c_enterZ (n := 18) ok hm func41 rfl rfl rfl fun b0 hb a S => ?_
 replace S := S.addfro (g := 2) 91 G.2.2
 replace S := S.addfro (g := 1) 91 G.2.1
 replace S := S.addfro (g := 0) 85 G.1
 refine c_region (s_box S rfl rfl rfl fun g1 a w S => s_alloc S Z80 rfl ⟨rfl, trivial⟩ rfl fun g2 a w S => c_end (wp_seq_k fun K1 hK1 => ?_))
 have j1 : ∀ m g9 g10 y1 a w, St 18 m b0 [(2, (.p g9)), (1, (.p g10))] [Res.cells g9 80 [.ints .u64 z25 25], Res.cells g10 80 [.ints .u64 y1 25], Res.fro 0 85 [.ints .u64 tbl_keccak_constants 24], Res.fro 1 91 [.ints .i64 tbl_keccak_places 24], Res.fro 2 91 [.ints .i64 tbl_keccak_turns 24]] a w → keccak_Turn.j1 y1 = some r → K1 a w := by
  intro m g9 g10 y1 a w S h0
  delta keccak_Turn.j1 at h0
  refine hK1 a w (c_region (s_loada S rfl .h1 T80 (s' := [.ints .u64 y1 25]) rfl rfl fun a S => s_store S rfl rfl rfl (s' := [.ints .u64 y1 25]) .h T80 rfl rfl fun w S => c_end (wp_ret ?_)))
  obtain rfl := Option.some.inj h0
  exact b_ret1 (d := (.agg [.ints .u64 y1 25])) S rfl (resD_cell rfl .h T80 rfl rfl) (S.rt hb)
 refine c_region (s_loadaF S rfl .h2 T85 (s' := [.ints .u64 tbl_keccak_constants 24]) rfl rfl fun a S => s_move S rfl rfl fun a S => c_end (wp_block ?_))
 refine c_loop (fun q1 a w => ∃ m y4 g15 g16 y5, St 18 m b0 [(6, (.i y4)), (5, (.agg [.ints .u64 tbl_keccak_constants 24])), (2, (.p g15)), (1, (.p g16))] [Res.cells g15 80 [.ints .u64 z25 25], Res.cells g16 80 [.ints .u64 y5 25], Res.fro 0 85 [.ints .u64 tbl_keccak_constants 24], Res.fro 1 91 [.ints .i64 tbl_keccak_places 24], Res.fro 2 91 [.ints .i64 tbl_keccak_turns 24]] a w ∧ keccak_Turn.l1 k q1 y4 y5 = some r) ?_ ?_ (k := k) ⟨_, 0, g2, g1, x1, (S.sb rfl (.c0 (.c0 (.c0 (.c0 (.c0 .n)))))), h0⟩
 ·rintro a w ⟨m, y4, g15, g16, y5, S, h0⟩
  exact (nomatch (show (none : Option ((List Int))) = some r from h0))
 ·clear S h0
  rintro q1 a w ⟨m, y4, g15, g16, y5, S, h0⟩
  replace h0 : keccak_Turn.b1 k (keccak_Turn.l1 k q1) y4 y5 = some r := h0
  delta keccak_Turn.b1 at h0
  refine c_region (s_bin S rfl rfl rfl rfl fun a S => c_end (wp_seq ?_))
  rcases ite_of h0 with ⟨c1, h1⟩ | ⟨c1, h1⟩
  ·refine c_condT S rfl c1 (wp_skip (x_thenN (wp_seq (wp_block (c_region ?_)))))
   obtain ⟨c2, h2⟩ := chk_of h1; clear h1
   refine s_index S rfl rfl underlying85 T51 c2.1 c2.2 rfl fun a S => s_assign S rfl rfl fun a S => c_end (c_region (s_loada S rfl .h1 T80 (s' := [.ints .u64 y5 25]) rfl rfl fun a S => bindX h2 fun t1 et1 h3 => s_callP S _ N43 rfl rfl (keccak_round.ok k y5 t1 et1 _ _ (G.mono (S.leB hb))) fun ch1 m le1 a w S => s_store S rfl rfl rfl (s' := [.ints .u64 t1 25]) .h1 T80 rfl rfl fun w S => c_end (c_region' (s_iaddr S (o' := 0) rfl rfl underlying80 T51 (by decide) (by decide) rfl rfl fun a S => s_loadi S (i := 0) rfl .h1 T51 .h rfl (by decide) (by decide) rfl fun a S => s_move S rfl rfl fun a S => s_bin S rfl rfl rfl rfl fun a S => s_iaddr S (o' := 0) rfl rfl underlying80 T51 (by decide) (by decide) rfl rfl fun a S => s_storei S (i := 0) rfl rfl .h1 T51 .h rfl (by decide) (by decide) fun w S => c_end' (x_blockN (x_thenN (c_region' (s_bin S rfl rfl rfl rfl fun a S => s_move S rfl rfl fun a S => c_end' (x_thenN ?_)))))))))
   exact ⟨_, (wr .i64 (y4 + 1)), g15, g16, (t1.set (Int.toNat 0) (bits .xor .u64 (rd t1 0) (rd tbl_keccak_constants y4))), (S.sb rfl (.c0 (.c0 (.c0 (.c0 (.c0 .n)))))), h3⟩
  ·refine c_condF S rfl c1 (wp_exit (x_thenX (x_thenX (x_blockX (x_thenN ?_)))))
   exact j1 _ g15 g16 y5 a w (S.sb rfl (.c0 (.c0 (.c0 (.c0 (.c0 .n)))))) h1
abbrev keccak_absorb.Ty : Type := (List Int) → (List Int) → Option ((List Int))
def keccak_absorb.Ctr (s : keccak_absorb.Ty) : Prop := ∀ (x1 : List Int) (x2 : List Int) (ch_1_0 : Option Addr) (ch_1_1 : Nat) (r : (List Int)), CtG (C := Unit) Tryd.prog Glob 37 (s x1 x2 = some r) [] [(.agg [.ints .u64 x1 25]), (.q yb ch_1_0 ch_1_1 x2)] (fun _ => (.agg [.ints .u64 r 25])) fun _ => []
def keccak_absorb.j1 (k : Nat) (y1 : List Int) : Option ((List Int)) := (keccak_Turn.f k y1).bind fun t1 => (some t1)
def keccak_absorb.b1 (k : Nat) (x2 : List Int) (rec1 : Int → (List Int) → Option ((List Int))) (y4 : Int) (y5 : List Int) : Option ((List Int)) := if (decide (y4 < ((x2).length : Int))) = true then (if (0 : Int) ≤ y4 ∧ y4 < ((x2).length : Int) then (if (0 : Int) ≤ (wr .i64 (Int.tdiv y4 8)) ∧ (wr .i64 (Int.tdiv y4 8)) < 25 then (if (0 : Int) ≤ (wr .i64 ((Int.tmod y4 8) * 8)) then (rec1 (wr .i64 (y4 + 1)) (y5.set (Int.toNat (wr .i64 (Int.tdiv y4 8))) (bits .xor .u64 (rd y5 (wr .i64 (Int.tdiv y4 8))) (shl .u64 (wr .u64 (rd x2 y4)) (min (Int.toNat (wr .i64 ((Int.tmod y4 8) * 8))) 64))))) else none) else none) else none) else (keccak_absorb.j1 k y5)
def keccak_absorb.l1 (k : Nat) (x2 : List Int) : Nat → Int → (List Int) → Option ((List Int))
  | 0, _, _ => none
  | q + 1, y4, y5 => keccak_absorb.b1 k x2 (keccak_absorb.l1 k x2 q) y4 y5
def keccak_absorb.f (k : Nat) (x1 : List Int) (x2 : List Int) : Option ((List Int)) := keccak_absorb.l1 k x2 k 0 x1
theorem keccak_absorb.ok (k : Nat) : keccak_absorb.Ctr (keccak_absorb.f k) := by
 intro x1 x2 ch_1_0 ch_1_1 r h0 mi w0 G ok hm
 delta keccak_absorb.f at h0
 refine c_enterZ (n := 29) ok hm func37 rfl rfl rfl fun b0 hb a S => c_region (s_box S rfl rfl rfl fun g1 a w S => s_alloc S Z80 rfl ⟨rfl, trivial⟩ rfl fun g2 a w S => c_end (wp_seq_k fun K1 hK1 => ?_))
 have j1 : ∀ m g9 g10 y1 a w, St 29 m b0 [(4, (.p g9)), (2, (.p g10))] [Res.cells g9 80 [.ints .u64 z25 25], Res.cells g10 80 [.ints .u64 y1 25]] a w → keccak_absorb.j1 k y1 = some r → K1 a w := by
  intro m g9 g10 y1 a w S h0
  delta keccak_absorb.j1 at h0
  refine hK1 a w (c_region (s_loada S rfl .h1 T80 (s' := [.ints .u64 y1 25]) rfl rfl fun a S => bindX h0 fun t1 et1 h1 => s_callP S _ N41 rfl rfl (keccak_Turn.ok k y1 t1 et1 _ _ (G.mono (S.leB hb))) fun ch1 m le1 a w S => s_store S rfl rfl rfl (s' := [.ints .u64 t1 25]) .h T80 rfl rfl fun w S => c_end (wp_ret ?_)))
  obtain rfl := Option.some.inj h1
  exact b_ret1 (d := (.agg [.ints .u64 t1 25])) S rfl (resD_cell rfl .h T80 rfl rfl) (S.rt hb)
 refine c_region (s_move S rfl rfl fun a S => s_lenS S rfl underlying36 rfl fun a S => s_move S rfl rfl fun a S => c_end (wp_block ?_))
 refine c_loop (fun q1 a w => ∃ m y4 g15 g16 y5, St 29 m b0 [(9, (.i y4)), (8, (.i ((x2).length : Int))), (7, (.q yb ch_1_0 ch_1_1 x2)), (4, (.p g15)), (2, (.p g16))] [Res.cells g15 80 [.ints .u64 z25 25], Res.cells g16 80 [.ints .u64 y5 25]] a w ∧ keccak_absorb.l1 k x2 q1 y4 y5 = some r) ?_ ?_ (k := k) ⟨_, 0, g2, g1, x1, (S.sb rfl (.c0 (.c0 .n))), h0⟩
 ·rintro a w ⟨m, y4, g15, g16, y5, S, h0⟩
  exact (nomatch (show (none : Option ((List Int))) = some r from h0))
 ·clear S h0
  rintro q1 a w ⟨m, y4, g15, g16, y5, S, h0⟩
  replace h0 : keccak_absorb.b1 k x2 (keccak_absorb.l1 k x2 q1) y4 y5 = some r := h0
  delta keccak_absorb.b1 at h0
  refine c_region (s_bin S rfl rfl rfl rfl fun a S => c_end (wp_seq ?_))
  rcases ite_of h0 with ⟨c1, h1⟩ | ⟨c1, h1⟩
  ·refine c_condT S rfl c1 (wp_skip (x_thenN (wp_seq (wp_block (c_region (s_move S rfl rfl fun a S => ?_))))))
   obtain ⟨c2, h2⟩ := chk_of h1; clear h1
   refine s_iaddrS S rfl rfl rfl underlying36 T5 c2.1 c2.2 rfl fun p1 a S => s_ld1 S (v := (.int .u8 (rd x2 y4))) rfl T5 (fun _ => rfl) rfl fun a S => s_assign S rfl rfl fun a S => s_assign S rfl rfl fun a S => c_end (c_heldS S (.take 0 (.take 1 (.take 2 (.take 3 (.take 4 (.take 5 (.take 6 (.take 7 (.take 8 (.take 9 (.take 10 (.take 11 (.alts (.run 12 false .done .nil)))))))))))))) 12 [Res.cells g15 80 [.ints .u64 z25 25], Res.cells g16 80 [.ints .u64 y5 25]] (.c0 (.c0 .n)) ⟨Res.stay_cells, Res.stay_cells, trivial⟩ [(6, (.v (.int .u8 (rd x2 y4)))), (5, (.i y4)), (2, (.p g16))] (subR rfl) (by kernel_rfl) (by kernel_rfl) fun w S CL hw le => ?_)
   refine h_move S CL hw le (subR rfl) rfl rfl rfl trivial fun a S CL => h_quo S CL hw le (subR rfl) rfl rfl (by decide) rfl rfl trivial fun a S CL => ?_
   obtain ⟨c3, h3⟩ := chk_of h2; clear h2
   refine h_iaddr S CL hw le (subR rfl) rfl rfl underlying80 T51 c3.1 c3.2 (mul1 _ _) rfl rfl trivial fun a S CL => h_loadi S CL hw le (subR rfl) (i := (wr .i64 (Int.tdiv y4 8))) rfl .h1 T51 .h rfl c3.1 c3.2 rfl rfl trivial fun a S CL => h_move S CL hw le (subR rfl) rfl rfl rfl trivial fun a S CL => h_conv S CL hw le (subR rfl) rfl rfl underlying51 rfl rfl trivial fun a S CL => h_move S CL hw le (subR rfl) rfl rfl rfl trivial fun a S CL => h_rem S CL hw le (subR rfl) rfl rfl (by decide) rfl rfl trivial fun a S CL => h_bin S CL hw le (subR rfl) rfl rfl rfl rfl rfl trivial fun a S CL => ?_
   obtain ⟨c4, h4⟩ := chk_of h3; clear h3
   refine h_shl S CL hw le (subR rfl) (e := (min (Int.toNat (wr .i64 ((Int.tmod y4 8) * 8))) 64)) rfl rfl c4 rfl rfl rfl trivial fun a S CL => h_bin S CL hw le (subR rfl) rfl rfl rfl rfl rfl trivial fun a S CL => h_iaddr S CL hw le (subR rfl) rfl rfl underlying80 T51 c3.1 c3.2 (mul1 _ _) rfl rfl trivial fun a S CL => h_run' S rfl trivial (s_storei S (i := (wr .i64 (Int.tdiv y4 8))) rfl rfl .h1 T51 .h rfl c3.1 c3.2 fun w S => ?_)
   refine h_back ⟨fun h => (nomatch h), ?_⟩
   refine h_done ?_; clear CL hw le
   refine x_blockN (x_thenN (c_region' (s_bin S rfl rfl rfl rfl fun a S => s_move S rfl rfl fun a S => c_end' (x_thenN ?_))))
   exact ⟨_, (wr .i64 (y4 + 1)), g15, g16, (y5.set (Int.toNat (wr .i64 (Int.tdiv y4 8))) (bits .xor .u64 (rd y5 (wr .i64 (Int.tdiv y4 8))) (shl .u64 (wr .u64 (rd x2 y4)) (min (Int.toNat (wr .i64 ((Int.tmod y4 8) * 8))) 64)))), (S.sb rfl (.c0 (.c0 .n))), h4⟩
  ·refine c_condF S rfl c1 (wp_exit (x_thenX (x_thenX (x_blockX (x_thenN ?_)))))
   exact j1 _ g15 g16 y5 a w (S.sb rfl (.c0 (.c0 .n))) h1
abbrev keccak_Sum.Ty : Type := (List Int) → Option ((List Int))
def keccak_Sum.Ctr (s : keccak_Sum.Ty) : Prop := ∀ (x1 : List Int) (ch_0_0 : Option Addr) (ch_0_1 : Nat) (r : (List Int)), CtG (C := Unit) Tryd.prog Glob 34 (s x1 = some r) [] [(.q yb ch_0_0 ch_0_1 x1)] (fun _ => (.a32 r)) fun _ => []
def keccak_Sum.j2 (y7 : List Int) : Option ((List Int)) := some y7
def keccak_Sum.b1 (t1 : (List Int)) (rec1 : Int → (List Int) → Option ((List Int))) (y10 : Int) (y11 : List Int) : Option ((List Int)) := if (decide (y10 < 32)) = true then (if (0 : Int) ≤ (wr .i64 (Int.tdiv y10 8)) ∧ (wr .i64 (Int.tdiv y10 8)) < 25 then (if (0 : Int) ≤ (wr .i64 ((Int.tmod y10 8) * 8)) then (if (0 : Int) ≤ y10 ∧ y10 < 32 then (rec1 (wr .i64 (y10 + 1)) (y11.set (Int.toNat y10) (wr .u8 (shr (rd t1 (wr .i64 (Int.tdiv y10 8))) (min (Int.toNat (wr .i64 ((Int.tmod y10 8) * 8))) 64))))) else none) else none) else none) else (keccak_Sum.j2 y11)
def keccak_Sum.l1 (t1 : (List Int)) : Nat → Int → (List Int) → Option ((List Int))
  | 0, _, _ => none
  | q + 1, y10, y11 => keccak_Sum.b1 t1 (keccak_Sum.l1 t1 q) y10 y11
def keccak_Sum.j1 (k : Nat) (y1 : List Int) (y2 : List Int) : Option ((List Int)) := if (0 : Int) ≤ ((min (y1).length 136 : Nat) : Int) ∧ ((min (y1).length 136 : Nat) : Int) < 136 then ((keccak_absorb.f k y2 (((((cpy (List.replicate 136 0) 0 y1 (min (y1).length 136)).set (Int.toNat ((min (y1).length 136 : Nat) : Int)) 1).set (Int.toNat 135) (bits .or .u8 (rd ((cpy (List.replicate 136 0) 0 y1 (min (y1).length 136)).set (Int.toNat ((min (y1).length 136 : Nat) : Int)) 1) 135) 128)).drop 0).take 136)).bind fun t1 => (keccak_Sum.l1 t1 k 0 [0, 0, 0, 0, 0, 0, 0, 0, 0, 0, 0, 0, 0, 0, 0, 0, 0, 0, 0, 0, 0, 0, 0, 0, 0, 0, 0, 0, 0, 0, 0, 0])) else none
def keccak_Sum.b2 (k : Nat) (rec2 : (List Int) → (List Int) → Option ((List Int))) (y14 : List Int) (y15 : List Int) : Option ((List Int)) := if (decide (136 ≤ ((y14).length : Int))) = true then (if (0 : Int) ≤ 0 ∧ (0 : Int) ≤ 136 ∧ 136 ≤ ((y14).length : Int) then ((keccak_absorb.f k y15 (y14.take (Int.toNat 136))).bind fun t4 => (if (0 : Int) ≤ 136 ∧ (136 : Int) ≤ ((y14).length : Int) ∧ ((y14).length : Int) ≤ ((y14).length : Int) then (rec2 (y14.drop (Int.toNat 136)) t4) else none)) else none) else (keccak_Sum.j1 k y14 y15)
def keccak_Sum.l2 (k : Nat) : Nat → (List Int) → (List Int) → Option ((List Int))
  | 0, _, _ => none
  | q + 1, y14, y15 => keccak_Sum.b2 k (keccak_Sum.l2 k q) y14 y15
def keccak_Sum.f (k : Nat) (x1 : List Int) : Option ((List Int)) := keccak_Sum.l2 k k x1 [0, 0, 0, 0, 0, 0, 0, 0, 0, 0, 0, 0, 0, 0, 0, 0, 0, 0, 0, 0, 0, 0, 0, 0, 0]
theorem keccak_Sum.ok (k : Nat) : keccak_Sum.Ctr (keccak_Sum.f k) := by
 intro x1 ch_0_0 ch_0_1 r h0 mi w0 G ok hm
 delta keccak_Sum.f at h0
 refine c_enterZ (n := 45) ok hm func34 rfl rfl rfl fun b0 hb a S => c_region (s_alloc S Z50 rfl ⟨rfl, trivial⟩ rfl fun g1 a w S => c_end (c_region (s_alloc S Z80 rfl ⟨rfl, trivial⟩ rfl fun g2 a w S => c_end (wp_seq_k fun K1 hK1 => ?_))))
 have j1 : ∀ m g9 g10 A1 cp1 y1 y2 a w, St 45 m b0 [(3, (.p g9)), (2, (.p g10)), (0, (.q yb A1 cp1 y1))] [Res.cells g9 80 [.ints .u64 y2 25], Res.cells g10 50 [.b32 z32]] a w → keccak_Sum.j1 k y1 y2 = some r → K1 a w := by
  intro m g9 g10 A1 cp1 y1 y2 a w S h0
  delta keccak_Sum.j1 at h0
  refine hK1 a w (c_region (s_alloc S Z84 rfl ⟨rfl, trivial⟩ rfl fun g11 a w S => c_end (c_region (s_sliceA S (i := 0) (j := 136) (o' := 0) (len := 136) (cap := 136) rfl underlying84 T5 (.inl ⟨rfl, rfl⟩) (.inl ⟨rfl, rfl⟩) (by decide) rfl rfl rfl rfl fun a S => s_move S rfl rfl fun a S => s_copyA S (N := min (y1).length 136) (lo := 0) rfl .h rfl rfl (RdS.srcI (S.get 18 (.q yb A1 cp1 y1) rfl).2.2.2.1 S.frz) rfl .h (.inl rfl) (by decide) underlying36 T5 rfl fun a w S => s_assign S rfl rfl fun a S => c_end (c_region (s_move S rfl rfl fun a S => ?_))))))
  obtain ⟨c1, h1⟩ := chk_of h0; clear h0
  refine s_iaddr S rfl rfl underlying84 T5 c1.1 c1.2 (mul1 _ _) rfl fun a S => s_storei S (i := ((min (y1).length 136 : Nat) : Int)) rfl rfl .h T5 .h rfl c1.1 c1.2 fun w S => c_end (c_region (s_iaddr S (o' := 135) rfl rfl underlying84 T5 (by decide) (by decide) rfl rfl fun a S => s_loadi S (i := 135) rfl .h T5 .h rfl (by decide) (by decide) rfl fun a S => s_bin S rfl rfl rfl rfl fun a S => s_iaddr S (o' := 135) rfl rfl underlying84 T5 (by decide) (by decide) rfl rfl fun a S => s_storei S (i := 135) rfl rfl .h T5 .h rfl (by decide) (by decide) fun w S => c_end ?_))
  replace S := S.freeze .h
  obtain ⟨m, le1, S⟩ := S
  refine wp_seq (c_heldS S (.take 0 (.take 1 (.alts (.run 2 true (.alts (.run 3 false .done .nil)) .nil)))) 3 [Res.fro g11 84 [.ints .u8 (((cpy (List.replicate 136 0) 0 y1 (min (y1).length 136)).set (Int.toNat ((min (y1).length 136 : Nat) : Int)) 1).set (Int.toNat 135) (bits .or .u8 (rd ((cpy (List.replicate 136 0) 0 y1 (min (y1).length 136)).set (Int.toNat ((min (y1).length 136 : Nat) : Int)) 1) 135) 128)) 136], Res.cells g9 80 [.ints .u64 y2 25], Res.cells g10 50 [.b32 z32]] (.c0 (.c0 (.c0 .n))) ⟨Res.stay_fro, Res.stay_cells, Res.stay_cells, trivial⟩ [(4, (.p g11)), (3, (.p g9))] (subR rfl) (by kernel_rfl) (by kernel_rfl) ?_); clear S; intro w S CL hw le
  refine h_loada S CL hw le (subR rfl) rfl .h1 T80 (s' := [.ints .u64 y2 25]) rfl rfl rfl trivial fun a S CL => h_sliceA S CL hw le (subR rfl) (i := 0) (j := 136) (o' := 0) (len := 136) (cap := 136) rfl underlying84 T5 (.inl ⟨rfl, rfl⟩) (.inl ⟨rfl, rfl⟩) (by decide) rfl rfl rfl rfl rfl trivial fun a S CL => h_run' S rfl trivial ?_
  replace S := (S.slup' (u := 27) (lo := 0) (c := 136) (ys := ((((cpy (List.replicate 136 0) 0 y1 (min (y1).length 136)).set (Int.toNat ((min (y1).length 136 : Nat) : Int)) 1).set (Int.toNat 135) (bits .or .u8 (rd ((cpy (List.replicate 136 0) 0 y1 (min (y1).length 136)).set (Int.toNat ((min (y1).length 136 : Nat) : Int)) 1) 135) 128)).drop 0).take 136) rfl (Pull.mem .h).1 .h (.inl rfl) (by decide) (by decide) rfl).2
  replace CL := CL.drop (lq' := [(26, (.agg [.ints .u64 y2 25])), (4, (.p g11)), (3, (.p g9))]) (subR rfl)
  refine bindX h1 fun t1 et1 h2 => s_callP S _ N37 rfl rfl (keccak_absorb.ok k y2 (((((cpy (List.replicate 136 0) 0 y1 (min (y1).length 136)).set (Int.toNat ((min (y1).length 136 : Nat) : Int)) 1).set (Int.toNat 135) (bits .or .u8 (rd ((cpy (List.replicate 136 0) 0 y1 (min (y1).length 136)).set (Int.toNat ((min (y1).length 136 : Nat) : Int)) 1) 135) 128)).drop 0).take 136) (ad g11) 136 t1 et1 _ _ (G.mono (S.leB hb))) fun ch1 m le1 a w S => ?_
  replace le := le.trans le1
  refine CL.bk hw S (.c0 (.c0 (.c0 .n))) le fun hw => h_run' S rfl trivial (s_store S rfl rfl rfl (s' := [.ints .u64 t1 25]) .h1 T80 rfl rfl fun w S => ?_)
  refine h_back ⟨fun h => (nomatch h), ?_⟩
  refine h_done ?_; clear CL hw le
  refine x_thenN (c_region (s_alloc S Z50 rfl ⟨rfl, trivial⟩ rfl fun g12 a w S => c_end (wp_seq_k fun K2 hK2 => ?_)))
  have j2 : ∀ m g22 g23 y7 a w, St 45 m b0 [(6, (.p g22)), (2, (.p g23))] [Res.cells g22 50 [.b32 y7], Res.cells g23 50 [.b32 z32]] a w → keccak_Sum.j2 y7 = some r → K2 a w := by
   intro m g22 g23 y7 a w S h0
   delta keccak_Sum.j2 at h0
   refine hK2 a w (c_region (s_loada S rfl .h T50 (s' := [.b32 y7]) rfl rfl fun a S => s_store S rfl rfl rfl (s' := [.b32 y7]) .h1 T50 rfl rfl fun w S => c_end (wp_ret ?_)))
   obtain rfl := Option.some.inj h0
   exact b_ret1 (d := (.a32 y7)) S rfl (resD_cell rfl .h1 T50 rfl rfl) (S.rt hb)
  refine c_region (s_move S rfl rfl fun a S => c_end (wp_block ?_))
  refine c_loop (fun q1 a w => ∃ m y10 g30 g31 g32 y11, St 45 m b0 [(29, (.i y10)), (6, (.p g30)), (3, (.p g31)), (2, (.p g32))] [Res.cells g30 50 [.b32 y11], Res.cells g31 80 [.ints .u64 t1 25], Res.cells g32 50 [.b32 z32]] a w ∧ keccak_Sum.l1 t1 q1 y10 y11 = some r) ?_ ?_ (k := k) ⟨_, 0, g12, g9, g10, z32, (S.sb rfl (.c0 (.c1 (.c1 .n)))), h2⟩
  ·rintro a w ⟨m, y10, g30, g31, g32, y11, S, h0⟩
   exact (nomatch (show (none : Option ((List Int))) = some r from h0))
  ·clear S h2
   rintro q1 a w ⟨m, y10, g30, g31, g32, y11, S, h0⟩
   replace h0 : keccak_Sum.b1 t1 (keccak_Sum.l1 t1 q1) y10 y11 = some r := h0
   delta keccak_Sum.b1 at h0
   refine c_region (s_bin S rfl rfl rfl rfl fun a S => c_end (wp_seq ?_))
   rcases ite_of h0 with ⟨c2, h1⟩ | ⟨c2, h1⟩
   ·refine c_condT S rfl c2 (wp_skip (x_thenN (wp_seq (wp_block (c_region (s_move S rfl rfl fun a S => s_assign S rfl rfl fun a S => c_end (c_region' (s_move S rfl rfl fun a S => s_move S rfl rfl fun a S => s_quo S rfl rfl (by decide) rfl fun a S => ?_))))))))
    obtain ⟨c3, h2⟩ := chk_of h1; clear h1
    refine s_iaddr S rfl rfl underlying80 T51 c3.1 c3.2 (mul1 _ _) rfl fun a S => s_loadi S (i := (wr .i64 (Int.tdiv y10 8))) rfl .h1 T51 .h rfl c3.1 c3.2 rfl fun a S => s_move S rfl rfl fun a S => s_rem S rfl rfl (by decide) rfl fun a S => s_bin S rfl rfl rfl rfl fun a S => ?_
    obtain ⟨c4, h3⟩ := chk_of h2; clear h2
    refine s_shr S (e := (min (Int.toNat (wr .i64 ((Int.tmod y10 8) * 8))) 64)) rfl rfl c4 rfl rfl fun a S => s_conv S rfl rfl underlying5 rfl fun a S => ?_
    obtain ⟨c5, h4⟩ := chk_of h3; clear h3
    refine s_iaddr S rfl rfl underlying50 T5 c5.1 c5.2 (mul1 _ _) rfl fun a S => s_storei S (i := y10) rfl rfl .h T5 .h rfl c5.1 c5.2 fun w S => c_end' (x_blockN (x_thenN (c_region' (s_bin S rfl rfl rfl rfl fun a S => s_move S rfl rfl fun a S => c_end' (x_thenN ?_)))))
    exact ⟨_, (wr .i64 (y10 + 1)), g30, g31, g32, (y11.set (Int.toNat y10) (wr .u8 (shr (rd t1 (wr .i64 (Int.tdiv y10 8))) (min (Int.toNat (wr .i64 ((Int.tmod y10 8) * 8))) 64)))), (S.sb rfl (.c0 (.c0 (.c0 .n)))), h4⟩
   ·refine c_condF S rfl c2 (wp_exit (x_thenX (x_thenX (x_blockX (x_thenN ?_)))))
    exact j2 _ g30 g32 y11 a w (S.sb rfl (.c0 (.c1 .n))) h1
 refine wp_block ?_
 refine c_loop (fun q2 a w => ∃ m g37 g38 A2 cp7 y14 y15, St 45 m b0 [(3, (.p g37)), (2, (.p g38)), (0, (.q yb A2 cp7 y14))] [Res.cells g37 80 [.ints .u64 y15 25], Res.cells g38 50 [.b32 z32]] a w ∧ keccak_Sum.l2 k q2 y14 y15 = some r) ?_ ?_ (k := k) ⟨_, g2, g1, ch_0_0, ch_0_1, x1, z25, (S.sb rfl (.c0 (.c0 .n))), h0⟩
 ·rintro a w ⟨m, g37, g38, A2, cp7, y14, y15, S, h0⟩
  exact (nomatch (show (none : Option ((List Int))) = some r from h0))
 ·clear S h0
  rintro q2 a w ⟨m, g37, g38, A2, cp7, y14, y15, S, h0⟩
  replace h0 : keccak_Sum.b2 k (keccak_Sum.l2 k q2) y14 y15 = some r := h0
  delta keccak_Sum.b2 at h0
  refine wp_seq (c_region (s_move S rfl rfl fun a S => s_lenS S rfl underlying36 rfl fun a S => s_bin S rfl rfl rfl rfl fun a S => c_end ?_))
  rcases ite_of h0 with ⟨c6, h1⟩ | ⟨c6, h1⟩
  ·refine c_condT S rfl c6 (wp_skip (x_thenN (wp_block ?_)))
   refine wp_seq (c_heldS S (.take 0 (.take 1 (.take 2 (.alts (.run 3 true (.alts (.run 4 false .done .nil)) .nil))))) 4 [Res.cells g37 80 [.ints .u64 y15 25], Res.cells g38 50 [.b32 z32]] (.c0 (.c0 .n)) ⟨Res.stay_cells, Res.stay_cells, trivial⟩ [(3, (.p g37)), (0, (.q yb A2 cp7 y14))] (subR rfl) (by kernel_rfl) (by kernel_rfl) ?_); clear S; intro w S CL hw le
   refine h_loada S CL hw le (subR rfl) rfl .h T80 (s' := [.ints .u64 y15 25]) rfl rfl rfl trivial fun a S CL => h_move S CL hw le (subR rfl) rfl rfl rfl trivial fun a S CL => ?_
   obtain ⟨c7, h2⟩ := chk_of h1; clear h1
   refine h_cutS S CL hw le (subR rfl) (i := 0) (j := 136) (ys := y14.take (Int.toNat 136)) rfl rfl underlying36 T5 (.inl ⟨rfl, rfl⟩) (.inr ⟨_, _, rfl, rfl⟩) c7 rfl (cut_pre rfl) rfl trivial fun A3 cp8 a S CL => h_run' S rfl trivial (bindX h2 fun t4 et4 h3 => s_callP S _ N37 rfl rfl (keccak_absorb.ok k y15 (y14.take (Int.toNat 136)) A3 cp8 t4 et4 _ _ (G.mono (S.leB hb))) fun ch2 m le1 a w S => ?_)
   replace le := le.trans le1
   refine CL.bk hw S (.c0 (.c0 .n)) le fun hw => h_run' S rfl trivial (s_store S rfl rfl rfl (s' := [.ints .u64 t4 25]) .h T80 rfl rfl fun w S => ?_)
   refine h_back ⟨fun h => (nomatch h), ?_⟩
   refine h_done ?_; clear CL hw le
   refine x_thenN (c_region' (s_move S rfl rfl fun a S => ?_))
   obtain ⟨c8, h4⟩ := chk_of h3; clear h3
   refine s_cutS S (i := 136) (j := ((y14).length : Int)) (ys := y14.drop (Int.toNat 136)) rfl rfl underlying36 T5 (.inr ⟨_, _, rfl, rfl⟩) (.inl ⟨rfl, rfl⟩) c8 rfl (cut_end rfl) fun A4 cp9 a S => s_assign S rfl rfl fun a S => c_end' (x_blockN (x_thenN ?_))
   exact ⟨_, g37, g38, A4, cp9, (y14.drop (Int.toNat 136)), t4, (S.sb rfl (.c0 (.c0 .n))), h4⟩
  ·refine c_condF S rfl c6 (wp_exit (x_thenX (x_thenX (x_blockX (x_thenN ?_)))))
   exact j1 _ g37 g38 A2 cp7 y14 y15 a w (S.sb rfl (.c0 (.c0 .n))) h1
abbrev bloom_places.Ty : Type := (List Int) → Option ((List Int))
def bloom_places.Ctr (s : bloom_places.Ty) : Prop := ∀ (x1 : List Int) (ch_0_0 : Option Addr) (ch_0_1 : Nat) (r : (List Int)), CtG (C := Unit) Tryd.prog Glob 27 (s x1 = some r) [] [(.q yb ch_0_0 ch_0_1 x1)] (fun _ => (.agg [.ints .i64 r 3])) fun _ => []
def bloom_places.j1 (y1 : List Int) : Option ((List Int)) := some y1
def bloom_places.b1 (t1 : (List Int)) (rec1 : Int → (List Int) → Option ((List Int))) (y4 : Int) (y5 : List Int) : Option ((List Int)) := if (decide (y4 < 3)) = true then (if (0 : Int) ≤ (wr .i64 (2 * y4)) ∧ (wr .i64 (2 * y4)) < 32 then (if (0 : Int) ≤ (wr .i64 ((wr .i64 (2 * y4)) + 1)) ∧ (wr .i64 ((wr .i64 (2 * y4)) + 1)) < 32 then (if (0 : Int) ≤ y4 ∧ y4 < 3 then (rec1 (wr .i64 (y4 + 1)) (y5.set (Int.toNat y4) (bits .and .i64 (bits .or .i64 (shl .i64 (wr .i64 (rd t1 (wr .i64 (2 * y4)))) 8) (wr .i64 (rd t1 (wr .i64 ((wr .i64 (2 * y4)) + 1))))) 2047))) else none) else none) else none) else (bloom_places.j1 y5)
def bloom_places.l1 (t1 : (List Int)) : Nat → Int → (List Int) → Option ((List Int))
  | 0, _, _ => none
  | q + 1, y4, y5 => bloom_places.b1 t1 (bloom_places.l1 t1 q) y4 y5
def bloom_places.f (k : Nat) (x1 : List Int) : Option ((List Int)) := (keccak_Sum.f k x1).bind fun t1 => (bloom_places.l1 t1 k 0 [0, 0, 0])
theorem bloom_places.ok (k : Nat) : bloom_places.Ctr (bloom_places.f k) := by
 intro x1 ch_0_0 ch_0_1 r h0 mi w0 G ok hm
 delta bloom_places.f at h0
 refine c_enterZ (n := 29) ok hm func27 rfl rfl rfl fun b0 hb a S => c_region (s_alloc S Z71 rfl ⟨rfl, trivial⟩ rfl fun g1 a w S => c_end (c_region (s_move S rfl rfl fun a S => bindX h0 fun t1 et1 h1 => s_callP S _ N34 rfl rfl (keccak_Sum.ok k x1 ch_0_0 ch_0_1 t1 et1 _ _ (G.mono (S.leB hb))) fun ch1 m le1 a w S => s_alloc S Z50 rfl ⟨rfl, trivial⟩ rfl fun g2 a w S => s_store S rfl rfl rfl (s' := [.b32 t1]) .h T50 rfl rfl fun w S => c_end (c_region (s_alloc S Z71 rfl ⟨rfl, trivial⟩ rfl fun g3 a w S => c_end (wp_seq_k fun K1 hK1 => ?_))))))
 have j1 : ∀ m g13 g14 y1 a w, St 29 m b0 [(4, (.p g13)), (2, (.p g14))] [Res.cells g13 71 [.ints .i64 y1 3], Res.cells g14 71 [.ints .i64 [0, 0, 0] 3]] a w → bloom_places.j1 y1 = some r → K1 a w := by
  intro m g13 g14 y1 a w S h0
  delta bloom_places.j1 at h0
  refine hK1 a w (c_region (s_loada S rfl .h T71 (s' := [.ints .i64 y1 3]) rfl rfl fun a S => s_store S rfl rfl rfl (s' := [.ints .i64 y1 3]) .h1 T71 rfl rfl fun w S => c_end (wp_ret ?_)))
  obtain rfl := Option.some.inj h0
  exact b_ret1 (d := (.agg [.ints .i64 y1 3])) S rfl (resD_cell rfl .h1 T71 rfl rfl) (S.rt hb)
 refine c_region (s_move S rfl rfl fun a S => c_end (wp_block ?_))
 refine c_loop (fun q1 a w => ∃ m y4 g21 g22 g23 y5, St 29 m b0 [(8, (.i y4)), (4, (.p g21)), (3, (.p g22)), (2, (.p g23))] [Res.cells g21 71 [.ints .i64 y5 3], Res.cells g22 50 [.b32 t1], Res.cells g23 71 [.ints .i64 [0, 0, 0] 3]] a w ∧ bloom_places.l1 t1 q1 y4 y5 = some r) ?_ ?_ (k := k) ⟨_, 0, g3, g2, g1, [0, 0, 0], (S.sb rfl (.c0 (.c0 (.c0 .n)))), h1⟩
 ·rintro a w ⟨m, y4, g21, g22, g23, y5, S, h0⟩
  exact (nomatch (show (none : Option ((List Int))) = some r from h0))
 ·clear S h1
  rintro q1 a w ⟨m, y4, g21, g22, g23, y5, S, h0⟩
  replace h0 : bloom_places.b1 t1 (bloom_places.l1 t1 q1) y4 y5 = some r := h0
  delta bloom_places.b1 at h0
  refine c_region (s_bin S rfl rfl rfl rfl fun a S => c_end (wp_seq ?_))
  rcases ite_of h0 with ⟨c1, h1⟩ | ⟨c1, h1⟩
  ·refine c_condT S rfl c1 (wp_skip (x_thenN (wp_seq (wp_block (c_region (s_move S rfl rfl fun a S => s_assign S rfl rfl fun a S => c_end (c_heldS S (.take 0 (.take 1 (.take 2 (.take 3 (.take 4 (.take 5 (.take 6 (.take 7 (.take 8 (.take 9 (.take 10 (.take 11 (.take 12 (.take 13 (.take 14 (.take 15 (.alts (.run 16 false .done .nil)))))))))))))))))) 16 [Res.cells g21 71 [.ints .i64 y5 3], Res.cells g22 50 [.b32 t1], Res.cells g23 71 [.ints .i64 [0, 0, 0] 3]] (.c0 (.c0 (.c0 .n))) ⟨Res.stay_cells, Res.stay_cells, Res.stay_cells, trivial⟩ [(5, (.i y4)), (4, (.p g21)), (3, (.p g22))] (subR rfl) (by kernel_rfl) (by kernel_rfl) fun w S CL hw le => ?_)))))))
   refine h_move S CL hw le (subR rfl) rfl rfl rfl trivial fun a S CL => h_move S CL hw le (subR rfl) rfl rfl rfl trivial fun a S CL => h_bin S CL hw le (subR rfl) rfl rfl rfl rfl rfl trivial fun a S CL => ?_
   obtain ⟨c2, h2⟩ := chk_of h1; clear h1
   refine h_iaddr S CL hw le (subR rfl) rfl rfl underlying50 T5 c2.1 c2.2 (mul1 _ _) rfl rfl trivial fun a S CL => h_loadi S CL hw le (subR rfl) (i := (wr .i64 (2 * y4))) rfl .h1 T5 .h rfl c2.1 c2.2 rfl rfl trivial fun a S CL => h_conv S CL hw le (subR rfl) rfl rfl underlying3 rfl rfl trivial fun a S CL => h_shl S CL hw le (subR rfl) (e := 8) rfl rfl (by decide) rfl rfl rfl trivial fun a S CL => h_move S CL hw le (subR rfl) rfl rfl rfl trivial fun a S CL => h_bin S CL hw le (subR rfl) rfl rfl rfl rfl rfl trivial fun a S CL => h_bin S CL hw le (subR rfl) rfl rfl rfl rfl rfl trivial fun a S CL => ?_
   obtain ⟨c3, h3⟩ := chk_of h2; clear h2
   refine h_iaddr S CL hw le (subR rfl) rfl rfl underlying50 T5 c3.1 c3.2 (mul1 _ _) rfl rfl trivial fun a S CL => h_loadi S CL hw le (subR rfl) (i := (wr .i64 ((wr .i64 (2 * y4)) + 1))) rfl .h1 T5 .h rfl c3.1 c3.2 rfl rfl trivial fun a S CL => h_conv S CL hw le (subR rfl) rfl rfl underlying3 rfl rfl trivial fun a S CL => h_bin S CL hw le (subR rfl) rfl rfl rfl rfl rfl trivial fun a S CL => h_bin S CL hw le (subR rfl) rfl rfl rfl rfl rfl trivial fun a S CL => ?_
   obtain ⟨c4, h4⟩ := chk_of h3; clear h3
   refine h_iaddr S CL hw le (subR rfl) rfl rfl underlying71 T3 c4.1 c4.2 (mul1 _ _) rfl rfl trivial fun a S CL => h_run' S rfl trivial (s_storei S (i := y4) rfl rfl .h T3 .h rfl c4.1 c4.2 fun w S => ?_)
   refine h_back ⟨fun h => (nomatch h), ?_⟩
   refine h_done ?_; clear CL hw le
   refine x_blockN (x_thenN (c_region' (s_bin S rfl rfl rfl rfl fun a S => s_move S rfl rfl fun a S => c_end' (x_thenN ?_))))
   exact ⟨_, (wr .i64 (y4 + 1)), g21, g22, g23, (y5.set (Int.toNat y4) (bits .and .i64 (bits .or .i64 (shl .i64 (wr .i64 (rd t1 (wr .i64 (2 * y4)))) 8) (wr .i64 (rd t1 (wr .i64 ((wr .i64 (2 * y4)) + 1))))) 2047)), (S.sb rfl (.c0 (.c0 (.c0 .n)))), h4⟩
  ·refine c_condF S rfl c1 (wp_exit (x_thenX (x_thenX (x_blockX (x_thenN ?_)))))
   exact j1 _ g21 g23 y5 a w (S.sb rfl (.c0 (.c1 .n))) h1
abbrev bloom_Add.Ty : Type := (List Int) → (List Int) → Option ((List Int))
def bloom_Add.Ctr (s : bloom_Add.Ty) : Prop := ∀ (x1 : List Int) (x2 : List Int) (ch_1_0 : Option Addr) (ch_1_1 : Nat) (r : (List Int)), CtG (C := Unit) Tryd.prog Glob 18 (s x1 x2 = some r) [] [(.agg [.ints .u8 x1 256]), (.q yb ch_1_0 ch_1_1 x2)] (fun _ => (.agg [.ints .u8 r 256])) fun _ => []
def bloom_Add.j1 (y1 : List Int) : Option ((List Int)) := some y1
def bloom_Add.b1 (t1 : (List Int)) (rec1 : Int → (List Int) → Option ((List Int))) (y4 : Int) (y5 : List Int) : Option ((List Int)) := if (decide (y4 < 3)) = true then (if (0 : Int) ≤ y4 ∧ y4 < 3 then (if (0 : Int) ≤ (wr .i64 (255 - (wr .i64 (Int.tdiv (rd t1 y4) 8)))) ∧ (wr .i64 (255 - (wr .i64 (Int.tdiv (rd t1 y4) 8)))) < 256 then (if (0 : Int) ≤ (Int.tmod (rd t1 y4) 8) then (rec1 (wr .i64 (y4 + 1)) (y5.set (Int.toNat (wr .i64 (255 - (wr .i64 (Int.tdiv (rd t1 y4) 8))))) (bits .or .u8 (rd y5 (wr .i64 (255 - (wr .i64 (Int.tdiv (rd t1 y4) 8))))) (shl .u8 1 (min (Int.toNat (Int.tmod (rd t1 y4) 8)) 8))))) else none) else none) else none) else (bloom_Add.j1 y5)
def bloom_Add.l1 (t1 : (List Int)) : Nat → Int → (List Int) → Option ((List Int))
  | 0, _, _ => none
  | q + 1, y4, y5 => bloom_Add.b1 t1 (bloom_Add.l1 t1 q) y4 y5
def bloom_Add.f (k : Nat) (x1 : List Int) (x2 : List Int) : Option ((List Int)) := (bloom_places.f k x2).bind fun t1 => (bloom_Add.l1 t1 k 0 x1)
theorem bloom_Add.ok (k : Nat) : bloom_Add.Ctr (bloom_Add.f k) := by
 intro x1 x2 ch_1_0 ch_1_1 r h0 mi w0 G ok hm
 delta bloom_Add.f at h0
 refine c_enterZ (n := 24) ok hm func18 rfl rfl rfl fun b0 hb a S => c_region (s_box S rfl rfl rfl fun g1 a w S => s_alloc S Z24 rfl ⟨rfl, trivial⟩ rfl fun g2 a w S => c_end (wp_seq_k fun K1 hK1 => ?_))
 have j1 : ∀ m g9 g10 y1 a w, St 24 m b0 [(4, (.p g9)), (2, (.p g10))] [Res.cells g9 24 [.ints .u8 (List.replicate 256 0) 256], Res.cells g10 24 [.ints .u8 y1 256]] a w → bloom_Add.j1 y1 = some r → K1 a w := by
  intro m g9 g10 y1 a w S h0
  delta bloom_Add.j1 at h0
  refine hK1 a w (c_region (s_loada S rfl .h1 T24 (s' := [.ints .u8 y1 256]) rfl rfl fun a S => s_store S rfl rfl rfl (s' := [.ints .u8 y1 256]) .h T24 rfl rfl fun w S => c_end (wp_ret ?_)))
  obtain rfl := Option.some.inj h0
  exact b_ret1 (d := (.agg [.ints .u8 y1 256])) S rfl (resD_cell rfl .h T24 rfl rfl) (S.rt hb)
 refine c_region (s_move S rfl rfl fun a S => bindX h0 fun t1 et1 h1 => s_callP S _ N27 rfl rfl (bloom_places.ok k x2 ch_1_0 ch_1_1 t1 et1 _ _ (G.mono (S.leB hb))) fun ch1 m le1 a w S => s_move S rfl rfl fun a S => c_end (wp_block ?_))
 refine c_loop (fun q1 a w => ∃ m y4 g15 g16 y5, St 24 m b0 [(9, (.i y4)), (8, (.agg [.ints .i64 t1 3])), (4, (.p g15)), (2, (.p g16))] [Res.cells g15 24 [.ints .u8 (List.replicate 256 0) 256], Res.cells g16 24 [.ints .u8 y5 256]] a w ∧ bloom_Add.l1 t1 q1 y4 y5 = some r) ?_ ?_ (k := k) ⟨_, 0, g2, g1, x1, (S.sb rfl (.c0 (.c0 .n))), h1⟩
 ·rintro a w ⟨m, y4, g15, g16, y5, S, h0⟩
  exact (nomatch (show (none : Option ((List Int))) = some r from h0))
 ·clear S h1
  rintro q1 a w ⟨m, y4, g15, g16, y5, S, h0⟩
  replace h0 : bloom_Add.b1 t1 (bloom_Add.l1 t1 q1) y4 y5 = some r := h0
  delta bloom_Add.b1 at h0
  refine c_region (s_bin S rfl rfl rfl rfl fun a S => c_end (wp_seq ?_))
  rcases ite_of h0 with ⟨c1, h1⟩ | ⟨c1, h1⟩
  ·refine c_condT S rfl c1 (wp_skip (x_thenN (wp_seq (wp_block (c_region ?_)))))
   obtain ⟨c2, h2⟩ := chk_of h1; clear h1
   refine s_index S rfl rfl underlying71 T3 c2.1 c2.2 rfl fun a S => s_assign S rfl rfl fun a S => c_end (c_heldS S (.take 0 (.take 1 (.take 2 (.take 3 (.take 4 (.take 5 (.take 6 (.take 7 (.take 8 (.take 9 (.alts (.run 10 false .done .nil)))))))))))) 10 [Res.cells g15 24 [.ints .u8 (List.replicate 256 0) 256], Res.cells g16 24 [.ints .u8 y5 256]] (.c0 (.c0 .n)) ⟨Res.stay_cells, Res.stay_cells, trivial⟩ [(6, (.i (rd t1 y4))), (2, (.p g16))] (subR rfl) (by kernel_rfl) (by kernel_rfl) fun w S CL hw le => ?_)
   refine h_move S CL hw le (subR rfl) rfl rfl rfl trivial fun a S CL => h_quo S CL hw le (subR rfl) rfl rfl (by decide) rfl rfl trivial fun a S CL => h_bin S CL hw le (subR rfl) rfl rfl rfl rfl rfl trivial fun a S CL => ?_
   obtain ⟨c3, h3⟩ := chk_of h2; clear h2
   refine h_iaddr S CL hw le (subR rfl) rfl rfl underlying24 T5 c3.1 c3.2 (mul1 _ _) rfl rfl trivial fun a S CL => h_loadi S CL hw le (subR rfl) (i := (wr .i64 (255 - (wr .i64 (Int.tdiv (rd t1 y4) 8))))) rfl .h1 T5 .h rfl c3.1 c3.2 rfl rfl trivial fun a S CL => h_move S CL hw le (subR rfl) rfl rfl rfl trivial fun a S CL => h_rem S CL hw le (subR rfl) rfl rfl (by decide) rfl rfl trivial fun a S CL => ?_
   obtain ⟨c4, h4⟩ := chk_of h3; clear h3
   refine h_shl S CL hw le (subR rfl) (e := (min (Int.toNat (Int.tmod (rd t1 y4) 8)) 8)) rfl rfl c4 rfl rfl rfl trivial fun a S CL => h_bin S CL hw le (subR rfl) rfl rfl rfl rfl rfl trivial fun a S CL => h_iaddr S CL hw le (subR rfl) rfl rfl underlying24 T5 c3.1 c3.2 (mul1 _ _) rfl rfl trivial fun a S CL => h_run' S rfl trivial (s_storei S (i := (wr .i64 (255 - (wr .i64 (Int.tdiv (rd t1 y4) 8))))) rfl rfl .h1 T5 .h rfl c3.1 c3.2 fun w S => ?_)
   refine h_back ⟨fun h => (nomatch h), ?_⟩
   refine h_done ?_; clear CL hw le
   refine x_blockN (x_thenN (c_region' (s_bin S rfl rfl rfl rfl fun a S => s_move S rfl rfl fun a S => c_end' (x_thenN ?_))))
   exact ⟨_, (wr .i64 (y4 + 1)), g15, g16, (y5.set (Int.toNat (wr .i64 (255 - (wr .i64 (Int.tdiv (rd t1 y4) 8))))) (bits .or .u8 (rd y5 (wr .i64 (255 - (wr .i64 (Int.tdiv (rd t1 y4) 8))))) (shl .u8 1 (min (Int.toNat (Int.tmod (rd t1 y4) 8)) 8)))), (S.sb rfl (.c0 (.c0 .n))), h4⟩
  ·refine c_condF S rfl c1 (wp_exit (x_thenX (x_thenX (x_blockX (x_thenN ?_)))))
   exact j1 _ g15 g16 y5 a w (S.sb rfl (.c0 (.c0 .n))) h1
abbrev word_Bytes.Ty : Type := (List Int) → Option ((List Int))
def word_Bytes.Ctr (s : word_Bytes.Ty) : Prop := ∀ (x1 : List Int) (r : (List Int)), Ct (C := Unit) Tryd.prog 24 (s x1 = some r) [] [(.a4 x1)] (fun _ => (.a32 r)) fun _ => []
def word_Bytes.j1 (y1 : List Int) : Option ((List Int)) := some y1
def word_Bytes.j2 (y14 : Int) (rec1 : Int → (List Int) → Option ((List Int))) (y20 : List Int) : Option ((List Int)) := rec1 (wr .i64 (y14 + 1)) y20
def word_Bytes.b2 (x1 : List Int) (y14 : Int) (rec1 : Int → (List Int) → Option ((List Int))) (rec2 : Int → (List Int) → Option ((List Int))) (y23 : Int) (y24 : List Int) : Option ((List Int)) := if (decide (y23 < 8)) = true then (if (0 : Int) ≤ (wr .i64 (8 * y23)) then (if (0 : Int) ≤ (wr .i64 ((wr .i64 (31 - (wr .i64 (8 * y14)))) - y23)) ∧ (wr .i64 ((wr .i64 (31 - (wr .i64 (8 * y14)))) - y23)) < 32 then (rec2 (wr .i64 (y23 + 1)) (y24.set (Int.toNat (wr .i64 ((wr .i64 (31 - (wr .i64 (8 * y14)))) - y23))) (wr .u8 (shr (rd x1 y14) (min (Int.toNat (wr .i64 (8 * y23))) 64))))) else none) else none) else (word_Bytes.j2 y14 rec1 y24)
def word_Bytes.l2 (x1 : List Int) (y14 : Int) (rec1 : Int → (List Int) → Option ((List Int))) : Nat → Int → (List Int) → Option ((List Int))
  | 0, _, _ => none
  | q + 1, y23, y24 => word_Bytes.b2 x1 y14 rec1 (word_Bytes.l2 x1 y14 rec1 q) y23 y24
def word_Bytes.b1 (k : Nat) (x1 : List Int) (rec1 : Int → (List Int) → Option ((List Int))) (y14 : Int) (y15 : List Int) : Option ((List Int)) := if (decide (y14 < 4)) = true then (if (0 : Int) ≤ y14 ∧ y14 < 4 then (word_Bytes.l2 x1 y14 rec1 k 0 y15) else none) else (word_Bytes.j1 y15)
def word_Bytes.l1 (k : Nat) (x1 : List Int) : Nat → Int → (List Int) → Option ((List Int))
  | 0, _, _ => none
  | q + 1, y14, y15 => word_Bytes.b1 k x1 (word_Bytes.l1 k x1 q) y14 y15
def word_Bytes.f (k : Nat) (x1 : List Int) : Option ((List Int)) := word_Bytes.l1 k x1 k 0 [0, 0, 0, 0, 0, 0, 0, 0, 0, 0, 0, 0, 0, 0, 0, 0, 0, 0, 0, 0, 0, 0, 0, 0, 0, 0, 0, 0, 0, 0, 0, 0]
theorem word_Bytes.ok (k : Nat) : word_Bytes.Ctr (word_Bytes.f k) := by
 intro x1 r h0 mi w0 ok hm
 delta word_Bytes.f at h0
 refine c_enterZ (n := 29) ok hm func24 rfl rfl rfl fun b0 hb a S => c_region (s_box S rfl rfl rfl fun g1 a w S => s_alloc S Z49 rfl ⟨rfl, trivial⟩ rfl fun g2 a w S => c_end (c_region (s_alloc S Z49 rfl ⟨rfl, trivial⟩ rfl fun g3 a w S => c_end (wp_seq_k fun K1 hK1 => ?_))))
 have j1 : ∀ m g26 g27 y1 a w, St 29 m b0 [(3, (.p g26)), (2, (.p g27))] [Res.cells g26 49 [.b32 y1], Res.cells g27 49 [.b32 z32]] a w → word_Bytes.j1 y1 = some r → K1 a w := by
  intro m g26 g27 y1 a w S h0
  delta word_Bytes.j1 at h0
  refine hK1 a w (c_region (s_loada S rfl .h T49 (s' := [.b32 y1]) rfl rfl fun a S => s_store S rfl rfl rfl (s' := [.b32 y1]) .h1 T49 rfl rfl fun w S => c_end (wp_ret ?_)))
  obtain rfl := Option.some.inj h0
  exact b_ret1 (d := (.a32 y1)) S rfl (resD_cell rfl .h1 T49 rfl rfl) (S.rt hb)
 refine c_region (s_loada S rfl .h2 T53 (s' := [.w4 x1]) rfl rfl fun a S => s_move S rfl rfl fun a S => c_end (wp_block ?_))
 refine c_loop (fun q1 a w => ∃ m y14 g48 g49 y15, St 29 m b0 [(8, (.i y14)), (7, (.a4 x1)), (3, (.p g48)), (2, (.p g49))] [Res.cells g48 49 [.b32 y15], Res.cells g49 49 [.b32 z32]] a w ∧ word_Bytes.l1 k x1 q1 y14 y15 = some r) ?_ ?_ (k := k) ⟨_, 0, g3, g2, z32, (S.sb rfl (.c0 (.c0 .n))), h0⟩
 ·rintro a w ⟨m, y14, g48, g49, y15, S, h0⟩
  exact (nomatch (show (none : Option ((List Int))) = some r from h0))
 ·clear S h0
  rintro q1 a w ⟨m, y14, g48, g49, y15, S, h0⟩
  replace h0 : word_Bytes.b1 k x1 (word_Bytes.l1 k x1 q1) y14 y15 = some r := h0
  delta word_Bytes.b1 at h0
  refine c_region (s_bin S rfl rfl rfl rfl fun a S => c_end (wp_seq ?_))
  rcases ite_of h0 with ⟨c1, h1⟩ | ⟨c1, h1⟩
  ·refine c_condT S rfl c1 (wp_skip (x_thenN (wp_seq_k fun K2 hK2 => ?_)))
   have j2 : ∀ m g56 g57 y20 a w, St 29 m b0 [(8, (.i y14)), (7, (.a4 x1)), (3, (.p g56)), (2, (.p g57))] [Res.cells g56 49 [.b32 y20], Res.cells g57 49 [.b32 z32]] a w → word_Bytes.j2 y14 (word_Bytes.l1 k x1 q1) y20 = some r → K2 a w := by
    intro m g56 g57 y20 a w S h0
    delta word_Bytes.j2 at h0
    refine hK2 a w (c_region' (s_bin S rfl rfl rfl rfl fun a S => s_move S rfl rfl fun a S => c_end' (x_thenN ?_)))
    exact ⟨_, (wr .i64 (y14 + 1)), g56, g57, y20, (S.sb rfl (.c0 (.c0 .n))), h0⟩
   refine wp_block (c_region (s_move S rfl rfl fun a S => ?_))
   obtain ⟨c2, h2⟩ := chk_of h1; clear h1
   refine s_index S rfl rfl underlying53 T51 c2.1 c2.2 rfl fun a S => s_assign S rfl rfl fun a S => s_assign S rfl rfl fun a S => c_end (c_region (s_move S rfl rfl fun a S => c_end (wp_block ?_)))
   refine c_loop (fun q2 a w => ∃ m y23 g62 g63 y24, St 29 m b0 [(12, (.i y23)), (5, (.w (rd x1 y14))), (4, (.i y14)), (8, (.i y14)), (7, (.a4 x1)), (3, (.p g62)), (2, (.p g63))] [Res.cells g62 49 [.b32 y24], Res.cells g63 49 [.b32 z32]] a w ∧ word_Bytes.l2 x1 y14 (word_Bytes.l1 k x1 q1) q2 y23 y24 = some r) ?_ ?_ (k := k) ⟨_, 0, g48, g49, y15, (S.sb rfl (.c0 (.c0 .n))), h2⟩
   ·rintro a w ⟨m, y23, g62, g63, y24, S, h0⟩
    exact (nomatch (show (none : Option ((List Int))) = some r from h0))
   ·clear S h2
    rintro q2 a w ⟨m, y23, g62, g63, y24, S, h0⟩
    replace h0 : word_Bytes.b2 x1 y14 (word_Bytes.l1 k x1 q1) (word_Bytes.l2 x1 y14 (word_Bytes.l1 k x1 q1) q2) y23 y24 = some r := h0
    delta word_Bytes.b2 at h0
    refine c_region (s_bin S rfl rfl rfl rfl fun a S => c_end (wp_seq ?_))
    rcases ite_of h0 with ⟨c3, h1⟩ | ⟨c3, h1⟩
    ·refine c_condT S rfl c3 (wp_skip (x_thenN (wp_seq (wp_block (c_region (s_move S rfl rfl fun a S => s_assign S rfl rfl fun a S => c_end (c_region' (s_move S rfl rfl fun a S => s_bin S rfl rfl rfl rfl fun a S => s_bin S rfl rfl rfl rfl fun a S => s_move S rfl rfl fun a S => s_bin S rfl rfl rfl rfl fun a S => s_move S rfl rfl fun a S => s_move S rfl rfl fun a S => s_bin S rfl rfl rfl rfl fun a S => ?_))))))))
     obtain ⟨c4, h2⟩ := chk_of h1; clear h1
     refine s_shr S (e := (min (Int.toNat (wr .i64 (8 * y23))) 64)) rfl rfl c4 rfl rfl fun a S => s_conv S rfl rfl underlying5 rfl fun a S => ?_
     obtain ⟨c5, h3⟩ := chk_of h2; clear h2
     refine s_iaddr S rfl rfl underlying49 T5 c5.1 c5.2 (mul1 _ _) rfl fun a S => s_storei S (i := (wr .i64 ((wr .i64 (31 - (wr .i64 (8 * y14)))) - y23))) rfl rfl .h T5 .h rfl c5.1 c5.2 fun w S => c_end' (x_blockN (x_thenN (c_region' (s_bin S rfl rfl rfl rfl fun a S => s_move S rfl rfl fun a S => c_end' (x_thenN ?_)))))
     exact ⟨_, (wr .i64 (y23 + 1)), g62, g63, (y24.set (Int.toNat (wr .i64 ((wr .i64 (31 - (wr .i64 (8 * y14)))) - y23))) (wr .u8 (shr (rd x1 y14) (min (Int.toNat (wr .i64 (8 * y23))) 64)))), (S.sb rfl (.c0 (.c0 .n))), h3⟩
    ·refine c_condF S rfl c3 (wp_exit (x_thenX (x_thenX (x_blockX (x_blockN (x_thenN ?_))))))
     exact j2 _ g62 g63 y24 a w (S.sb rfl (.c0 (.c0 .n))) h1
  ·refine c_condF S rfl c1 (wp_exit (x_thenX (x_thenX (x_blockX (x_thenN ?_)))))
   exact j1 _ g48 g49 y15 a w (S.sb rfl (.c0 (.c0 .n))) h1
abbrev bloom_Of.Ty : Type := (List L38) → Option ((List Int))
def bloom_Of.Ctr (s : bloom_Of.Ty) : Prop := ∀ (x1 : List L38) (ch_0_0 : Option Addr) (ch_0_1 : Nat) (r : (List Int)), CtG (C := Unit) Tryd.prog Glob 11 (s x1 = some r) [] [(.q Y38 ch_0_0 ch_0_1 x1)] (fun _ => (.agg [.ints .u8 r 256])) fun _ => []
def bloom_Of.j1 (y1 : List Int) : Option ((List Int)) := some y1
def bloom_Of.j2 (y14 : Int) (rec1 : Int → (List Int) → Option ((List Int))) (y20 : List Int) : Option ((List Int)) := rec1 (wr .i64 (y14 + 1)) y20
def bloom_Of.b2 (k : Nat) (x1 : List L38) (y14 : Int) (rec1 : Int → (List Int) → Option ((List Int))) (rec2 : Int → (List Int) → Option ((List Int))) (y23 : Int) (y24 : List Int) : Option ((List Int)) := if (decide (y23 < (((gt x1 y14).2.1).length : Int))) = true then (if (0 : Int) ≤ y23 ∧ y23 < (((gt x1 y14).2.1).length : Int) then ((word_Bytes.f k (gt ((gt x1 y14).2.1) y23)).bind fun t6 => ((bloom_Add.f k y24 (((t6).drop 0).take 32)).bind fun t7 => (rec2 (wr .i64 (y23 + 1)) t7))) else none) else (bloom_Of.j2 y14 rec1 y24)
def bloom_Of.l2 (k : Nat) (x1 : List L38) (y14 : Int) (rec1 : Int → (List Int) → Option ((List Int))) : Nat → Int → (List Int) → Option ((List Int))
  | 0, _, _ => none
  | q + 1, y23, y24 => bloom_Of.b2 k x1 y14 rec1 (bloom_Of.l2 k x1 y14 rec1 q) y23 y24
def bloom_Of.b1 (k : Nat) (x1 : List L38) (rec1 : Int → (List Int) → Option ((List Int))) (y14 : Int) (y15 : List Int) : Option ((List Int)) := if (decide (y14 < ((x1).length : Int))) = true then (if (0 : Int) ≤ y14 ∧ y14 < ((x1).length : Int) then ((bloom_Add.f k y15 ((((gt x1 y14).1).drop 0).take 20)).bind fun t1 => (bloom_Of.l2 k x1 y14 rec1 k 0 t1)) else none) else (bloom_Of.j1 y15)
def bloom_Of.l1 (k : Nat) (x1 : List L38) : Nat → Int → (List Int) → Option ((List Int))
  | 0, _, _ => none
  | q + 1, y14, y15 => bloom_Of.b1 k x1 (bloom_Of.l1 k x1 q) y14 y15
def bloom_Of.f (k : Nat) (x1 : List L38) : Option ((List Int)) := bloom_Of.l1 k x1 k 0 (List.replicate 256 0)
theorem bloom_Of.ok (k : Nat) : bloom_Of.Ctr (bloom_Of.f k) := by
 intro x1 ch_0_0 ch_0_1 r h0 mi w0 G ok hm
 delta bloom_Of.f at h0
 refine c_enterZ (n := 34) ok hm func11 rfl rfl rfl fun b0 hb a S => c_region (s_alloc S Z24 rfl ⟨rfl, trivial⟩ rfl fun g1 a w S => c_end (c_region (s_alloc S Z24 rfl ⟨rfl, trivial⟩ rfl fun g2 a w S => c_end (wp_seq_k fun K1 hK1 => ?_))))
 have j1 : ∀ m g35 g36 y1 a w, St 34 m b0 [(3, (.p g35)), (2, (.p g36))] [Res.cells g35 24 [.ints .u8 y1 256], Res.cells g36 24 [.ints .u8 (List.replicate 256 0) 256]] a w → bloom_Of.j1 y1 = some r → K1 a w := by
  intro m g35 g36 y1 a w S h0
  delta bloom_Of.j1 at h0
  refine hK1 a w (c_region (s_loada S rfl .h T24 (s' := [.ints .u8 y1 256]) rfl rfl fun a S => s_store S rfl rfl rfl (s' := [.ints .u8 y1 256]) .h1 T24 rfl rfl fun w S => c_end (wp_ret ?_)))
  obtain rfl := Option.some.inj h0
  exact b_ret1 (d := (.agg [.ints .u8 y1 256])) S rfl (resD_cell rfl .h1 T24 rfl rfl) (S.rt hb)
 refine c_region (s_move S rfl rfl fun a S => s_lenS S rfl underlying22 rfl fun a S => s_move S rfl rfl fun a S => c_end (wp_block ?_))
 refine c_loop (fun q1 a w => ∃ m y14 g67 g68 y15, St 34 m b0 [(11, (.i y14)), (10, (.i ((x1).length : Int))), (9, (.q Y38 ch_0_0 ch_0_1 x1)), (3, (.p g67)), (2, (.p g68))] [Res.cells g67 24 [.ints .u8 y15 256], Res.cells g68 24 [.ints .u8 (List.replicate 256 0) 256]] a w ∧ bloom_Of.l1 k x1 q1 y14 y15 = some r) ?_ ?_ (k := k) ⟨_, 0, g2, g1, (List.replicate 256 0), (S.sb rfl (.c0 (.c0 .n))), h0⟩
 ·rintro a w ⟨m, y14, g67, g68, y15, S, h0⟩
  exact (nomatch (show (none : Option ((List Int))) = some r from h0))
 ·clear S h0
  rintro q1 a w ⟨m, y14, g67, g68, y15, S, h0⟩
  replace h0 : bloom_Of.b1 k x1 (bloom_Of.l1 k x1 q1) y14 y15 = some r := h0
  delta bloom_Of.b1 at h0
  refine c_region (s_bin S rfl rfl rfl rfl fun a S => c_end (wp_seq ?_))
  rcases ite_of h0 with ⟨c1, h1⟩ | ⟨c1, h1⟩
  ·refine c_condT S rfl c1 (wp_skip (x_thenN (wp_seq_k fun K2 hK2 => ?_)))
   have j2 : ∀ m g80 g81 y20 a w, St 34 m b0 [(11, (.i y14)), (10, (.i ((x1).length : Int))), (9, (.q Y38 ch_0_0 ch_0_1 x1)), (3, (.p g80)), (2, (.p g81))] [Res.cells g80 24 [.ints .u8 y20 256], Res.cells g81 24 [.ints .u8 (List.replicate 256 0) 256]] a w → bloom_Of.j2 y14 (bloom_Of.l1 k x1 q1) y20 = some r → K2 a w := by
    intro m g80 g81 y20 a w S h0
    delta bloom_Of.j2 at h0
    refine hK2 a w (c_region' (s_bin S rfl rfl rfl rfl fun a S => s_move S rfl rfl fun a S => c_end' (x_thenN ?_)))
    exact ⟨_, (wr .i64 (y14 + 1)), g80, g81, y20, (S.sb rfl (.c0 (.c0 .n))), h0⟩
   refine wp_block (c_region ?_)
   obtain ⟨c2, h2⟩ := chk_of h1; clear h1
   refine s_iaddrS S rfl rfl rfl underlying22 T38 c2.1 c2.2 rfl fun p1 a S => s_ldA S (fun (c : Unit × (Option Addr × Nat) × (Option Addr × Nat)) => [.b20 ((gt x1 y14).1), .q (Ty.arr .u64 4) c.2.1.1 c.2.1.2 ((gt x1 y14).2.1), .q yb c.2.2.1 c.2.2.2 ((gt x1 y14).2.2)]) rfl T38 (fun _ => rfl) rfl fun ch1 a S => ?_
   refine s_alloc S Z38 rfl ⟨rfl, rfl, rfl, trivial⟩ rfl fun g82 a w S => s_store S rfl rfl rfl (s' := [.b20 ((gt x1 y14).1), .q (Ty.arr .u64 4) ch1.2.1.1 ch1.2.1.2 ((gt x1 y14).2.1), .q yb ch1.2.2.1 ch1.2.2.2 ((gt x1 y14).2.2)]) .h T38 rfl rfl fun w S => c_end ?_
   replace S := S.freeze .h
   obtain ⟨m, le1, S⟩ := S
   refine wp_seq (c_heldS S (.take 0 (.take 1 (.take 2 (.alts (.run 3 true (.alts (.run 4 false .done .nil)) .nil))))) 4 [Res.fro g82 38 [.b20 ((gt x1 y14).1), .q (Ty.arr .u64 4) ch1.2.1.1 ch1.2.1.2 ((gt x1 y14).2.1), .q yb ch1.2.2.1 ch1.2.2.2 ((gt x1 y14).2.2)], Res.cells g67 24 [.ints .u8 y15 256], Res.cells g68 24 [.ints .u8 (List.replicate 256 0) 256]] (.c0 (.c0 (.c0 .n))) ⟨Res.stay_fro, Res.stay_cells, Res.stay_cells, trivial⟩ [(5, (.p g82)), (3, (.p g67))] (subR rfl) (by kernel_rfl) (by kernel_rfl) ?_); clear S; intro w S CL hw le
   refine h_loada S CL hw le (subR rfl) rfl .h1 T24 (s' := [.ints .u8 y15 256]) rfl rfl rfl trivial fun a S CL => h_fieldAddr S CL hw le (subR rfl) rfl I38_0 T34 (by decide) rfl rfl rfl trivial fun a S CL => h_sliceA S CL hw le (subR rfl) (i := 0) (j := 20) (o' := 0) (len := 20) (cap := 20) rfl underlying34 T5 (.inl ⟨rfl, rfl⟩) (.inl ⟨rfl, rfl⟩) (by decide) rfl rfl rfl rfl rfl trivial fun a S CL => h_run' S rfl trivial ?_
   replace S := (S.slup' (u := 17) (lo := 0) (c := 20) (ys := (((gt x1 y14).1).drop 0).take 20) rfl (Pull.mem .h).1 .h (.inl rfl) (by decide) (by decide) rfl).2
   replace CL := CL.drop (lq' := [(16, (.p g82)), (15, (.agg [.ints .u8 y15 256])), (5, (.p g82)), (3, (.p g67))]) (subR rfl)
   refine bindX h2 fun t1 et1 h3 => s_callP S _ N18 rfl rfl (bloom_Add.ok k y15 ((((gt x1 y14).1).drop 0).take 20) (ad g82) 20 t1 et1 _ _ (G.mono (S.leB hb))) fun ch2 m le1 a w S => ?_
   replace le := le.trans le1
   refine CL.bk hw S (.c0 (.c0 (.c0 .n))) le fun hw => h_run' S rfl trivial (s_store S rfl rfl rfl (s' := [.ints .u8 t1 256]) .h1 T24 rfl rfl fun w S => ?_)
   refine h_back ⟨fun h => (nomatch h), ?_⟩
   refine h_done ?_; clear CL hw le
   refine x_thenN (c_region (s_fieldAddr S rfl I38_1 T35 (by decide) rfl rfl fun a S => s_loadSlF S rfl .h T35 (A := ch1.2.1.1) (len := ((gt x1 y14).2.1).length) (cap := ch1.2.1.2) rfl rfl fun a S => s_lenS S rfl underlying35 rfl fun a S => s_move S rfl rfl fun a S => c_end (wp_block ?_)))
   refine c_loop (fun q2 a w => ∃ m y23 A1 cp1 g91 g92 y24, St 34 m b0 [(22, (.i y23)), (21, (.i (((gt x1 y14).2.1).length : Int))), (20, (.q (Ty.arr .u64 4) A1 cp1 ((gt x1 y14).2.1))), (11, (.i y14)), (10, (.i ((x1).length : Int))), (9, (.q Y38 ch_0_0 ch_0_1 x1)), (3, (.p g91)), (2, (.p g92))] [Res.cells g91 24 [.ints .u8 y24 256], Res.cells g92 24 [.ints .u8 (List.replicate 256 0) 256]] a w ∧ bloom_Of.l2 k x1 y14 (bloom_Of.l1 k x1 q1) q2 y23 y24 = some r) ?_ ?_ (k := k) ⟨_, 0, ch1.2.1.1, ch1.2.1.2, g67, g68, t1, (S.sb rfl (.c1 (.c1 .n))), h3⟩
   ·rintro a w ⟨m, y23, A1, cp1, g91, g92, y24, S, h0⟩
    exact (nomatch (show (none : Option ((List Int))) = some r from h0))
   ·clear S h3
    rintro q2 a w ⟨m, y23, A1, cp1, g91, g92, y24, S, h0⟩
    replace h0 : bloom_Of.b2 k x1 y14 (bloom_Of.l1 k x1 q1) (bloom_Of.l2 k x1 y14 (bloom_Of.l1 k x1 q1) q2) y23 y24 = some r := h0
    delta bloom_Of.b2 at h0
    refine c_region (s_bin S rfl rfl rfl rfl fun a S => c_end (wp_seq ?_))
    rcases ite_of h0 with ⟨c3, h1⟩ | ⟨c3, h1⟩
    ·refine c_condT S rfl c3 (wp_skip (x_thenN (wp_seq (wp_block (c_region ?_)))))
     obtain ⟨c4, h2⟩ := chk_of h1; clear h1
     refine s_iaddrS S rfl rfl rfl underlying35 T53 c4.1 c4.2 rfl fun p4 a S => s_ldA S (fun (c : Unit) => [.w4 (gt ((gt x1 y14).2.1) y23)]) rfl T53 (fun _ => rfl) rfl fun ch3 a S => ?_
     refine s_alloc S Z53 rfl ⟨rfl, trivial⟩ rfl fun g93 a w S => s_store S rfl rfl rfl (s' := [.w4 (gt ((gt x1 y14).2.1) y23)]) .h T53 rfl rfl fun w S => c_end (c_region (s_loada S rfl .h T53 (s' := [.w4 (gt ((gt x1 y14).2.1) y23)]) rfl rfl fun a S => bindX h2 fun t6 et6 h3 => s_callP S _ N24 rfl rfl (word_Bytes.ok k (gt ((gt x1 y14).2.1) y23) t6 et6 _ _) fun ch4 m le1 a w S => s_alloc S Z49 rfl ⟨rfl, trivial⟩ rfl fun g94 a w S => s_store S rfl rfl rfl (s' := [.b32 t6]) .h T49 rfl rfl fun w S => c_end ?_))
     replace S := S.freeze .h
     obtain ⟨m, le1, S⟩ := S
     refine c_heldS S (.take 0 (.take 1 (.alts (.run 2 true (.alts (.run 3 false .done .nil)) .nil)))) 3 [Res.fro g94 49 [.b32 t6], Res.cells g93 53 [.w4 (gt ((gt x1 y14).2.1) y23)], Res.cells g91 24 [.ints .u8 y24 256], Res.cells g92 24 [.ints .u8 (List.replicate 256 0) 256]] (.c0 (.c0 (.c0 (.c0 .n)))) ⟨Res.stay_fro, Res.stay_cells, Res.stay_cells, Res.stay_cells, trivial⟩ [(8, (.p g94)), (3, (.p g91))] (subR rfl) (by kernel_rfl) (by kernel_rfl) fun w S CL hw le => ?_
     refine h_loada S CL hw le (subR rfl) rfl .h2 T24 (s' := [.ints .u8 y24 256]) rfl rfl rfl trivial fun a S CL => h_sliceA S CL hw le (subR rfl) (i := 0) (j := 32) (o' := 0) (len := 32) (cap := 32) rfl underlying49 T5 (.inl ⟨rfl, rfl⟩) (.inl ⟨rfl, rfl⟩) (by decide) rfl rfl rfl rfl rfl trivial fun a S CL => h_run' S rfl trivial ?_
     replace S := (S.slup' (u := 29) (lo := 0) (c := 32) (ys := ((t6).drop 0).take 32) rfl (Pull.mem .h).1 .h (.inl rfl) (by decide) (by decide) rfl).2
     replace CL := CL.drop (lq' := [(28, (.agg [.ints .u8 y24 256])), (8, (.p g94)), (3, (.p g91))]) (subR rfl)
     refine bindX h3 fun t7 et7 h4 => s_callP S _ N18 rfl rfl (bloom_Add.ok k y24 (((t6).drop 0).take 32) (ad g94) 32 t7 et7 _ _ (G.mono (S.leB hb))) fun ch5 m le1 a w S => ?_
     replace le := le.trans le1
     refine CL.bk hw S (.c0 (.c0 (.c0 (.c0 .n)))) le fun hw => h_run' S rfl trivial (s_store S rfl rfl rfl (s' := [.ints .u8 t7 256]) .h2 T24 rfl rfl fun w S => ?_)
     refine h_back ⟨fun h => (nomatch h), ?_⟩
     refine h_done ?_; clear CL hw le
     refine x_blockN (x_thenN (c_region' (s_bin S rfl rfl rfl rfl fun a S => s_move S rfl rfl fun a S => c_end' (x_thenN ?_))))
     exact ⟨_, (wr .i64 (y23 + 1)), A1, cp1, g91, g92, t7, (S.sb rfl (.c2 (.c2 .n))), h4⟩
    ·refine c_condF S rfl c3 (wp_exit (x_thenX (x_thenX (x_blockX (x_blockN (x_thenN ?_))))))
     exact j2 _ g91 g92 y24 a w (S.sb rfl (.c0 (.c0 .n))) h1
  ·refine c_condF S rfl c1 (wp_exit (x_thenX (x_thenX (x_blockX (x_thenN ?_)))))
   exact j1 _ g67 g68 y15 a w (S.sb rfl (.c0 (.c0 .n))) h1
abbrev bits_OnesCount8.Ty : Type := Int → Option Int
def bits_OnesCount8.Ctr (s : bits_OnesCount8.Ty) : Prop := ∀ (x1 : Int) (r : Int), Ct (C := Unit) Tryd.prog 28 (s x1 = some r) [] [(.v (.int .u8 x1))] (fun _ => (.i r)) fun _ => []
def bits_OnesCount8.f (x1 : Int) : Option Int := if (0 : Int) ≤ x1 ∧ x1 < (txt0.size : Int) then (some (wr .i64 (bt txt0 x1))) else none
theorem bits_OnesCount8.ok : bits_OnesCount8.Ctr (bits_OnesCount8.f) := by
 intro x1 r h0 mi w0 ok hm
 delta bits_OnesCount8.f at h0
 refine c_enterZ (n := 6) ok hm func28 rfl rfl rfl fun b0 hb a S => c_region (s_assign S rfl rfl fun a S => c_end (c_region (s_move S rfl rfl fun a S => ?_)))
 obtain ⟨c1, h1⟩ := chk_of h0; clear h0
 refine s_indexT S rfl rfl underlying9 c1.1 c1.2 rfl fun a S => s_conv S rfl rfl underlying3 rfl fun a S => s_assign S rfl rfl fun a S => c_end (wp_ret ?_)
 obtain rfl := Option.some.inj h1
 exact b_ret1 (d := (.i (wr .i64 (bt txt0 x1)))) S rfl rfl (S.rt hb)
abbrev bloom_Count.Ty : Type := (List Int) → Option Int
def bloom_Count.Ctr (s : bloom_Count.Ty) : Prop := ∀ (x1 : List Int) (r : Int), Ct (C := Unit) Tryd.prog 16 (s x1 = some r) [] [(.agg [.ints .u8 x1 256])] (fun _ => (.i r)) fun _ => []
def bloom_Count.j1 (y1 : Int) : Option Int := some y1
def bloom_Count.b1 (x1 : List Int) (rec1 : Int → Int → Option Int) (y4 : Int) (y5 : Int) : Option Int := if (decide (y4 < 256)) = true then (if (0 : Int) ≤ y4 ∧ y4 < 256 then ((bits_OnesCount8.f (rd x1 y4)).bind fun t1 => (rec1 (wr .i64 (y4 + 1)) (wr .i64 (y5 + t1)))) else none) else (bloom_Count.j1 y5)
def bloom_Count.l1 (x1 : List Int) : Nat → Int → Int → Option Int
  | 0, _, _ => none
  | q + 1, y4, y5 => bloom_Count.b1 x1 (bloom_Count.l1 x1 q) y4 y5
def bloom_Count.f (k : Nat) (x1 : List Int) : Option Int := bloom_Count.l1 x1 k 0 0
theorem bloom_Count.ok (k : Nat) : bloom_Count.Ctr (bloom_Count.f k) := by
 intro x1 r h0 mi w0 ok hm
 delta bloom_Count.f at h0
 refine c_enterZ (n := 16) ok hm func16 rfl rfl rfl fun b0 hb a S => c_region (s_box S rfl rfl rfl fun g1 a w S => s_assign S rfl rfl fun a S => c_end (c_region (s_assign S rfl rfl fun a S => c_end (wp_seq_k fun K1 hK1 => ?_))))
 have j1 : ∀ m y1 a w, St 16 m b0 [(3, (.i y1))] [] a w → bloom_Count.j1 y1 = some r → K1 a w := by
  intro m y1 a w S h0
  delta bloom_Count.j1 at h0
  refine hK1 a w (c_region (s_move S rfl rfl fun a S => s_assign S rfl rfl fun a S => c_end (wp_ret ?_)))
  obtain rfl := Option.some.inj h0
  exact b_ret1 (d := (.i y1)) S rfl rfl (S.rt hb)
 refine c_region (s_loada S rfl .h T24 (s' := [.ints .u8 x1 256]) rfl rfl fun a S => s_move S rfl rfl fun a S => c_end (wp_block ?_))
 refine c_loop (fun q1 a w => ∃ m y4 y5, St 16 m b0 [(7, (.i y4)), (6, (.agg [.ints .u8 x1 256])), (3, (.i y5))] [] a w ∧ bloom_Count.l1 x1 q1 y4 y5 = some r) ?_ ?_ (k := k) ⟨_, 0, 0, (S.sb rfl .nil), h0⟩
 ·rintro a w ⟨m, y4, y5, S, h0⟩
  exact (nomatch (show (none : Option Int) = some r from h0))
 ·clear S h0
  rintro q1 a w ⟨m, y4, y5, S, h0⟩
  replace h0 : bloom_Count.b1 x1 (bloom_Count.l1 x1 q1) y4 y5 = some r := h0
  delta bloom_Count.b1 at h0
  refine c_region (s_bin S rfl rfl rfl rfl fun a S => c_end (wp_seq ?_))
  rcases ite_of h0 with ⟨c1, h1⟩ | ⟨c1, h1⟩
  ·refine c_condT S rfl c1 (wp_skip (x_thenN (wp_seq (wp_block (c_region ?_)))))
   obtain ⟨c2, h2⟩ := chk_of h1; clear h1
   refine s_index S rfl rfl underlying24 T5 c2.1 c2.2 rfl fun a S => s_assign S rfl rfl fun a S => c_end (c_region' (s_move S rfl rfl fun a S => s_move S rfl rfl fun a S => bindX h2 fun t1 et1 h3 => s_callP S _ N28 rfl rfl (bits_OnesCount8.ok (rd x1 y4) t1 et1 _ _) fun ch1 m le1 a w S => s_bin S rfl rfl rfl rfl fun a S => s_assign S rfl rfl fun a S => c_end' (x_blockN (x_thenN (c_region' (s_bin S rfl rfl rfl rfl fun a S => s_move S rfl rfl fun a S => c_end' (x_thenN ?_)))))))
   exact ⟨_, (wr .i64 (y4 + 1)), (wr .i64 (y5 + t1)), (S.sb rfl .nil), h3⟩
  ·refine c_condF S rfl c1 (wp_exit (x_thenX (x_thenX (x_blockX (x_thenN ?_)))))
   exact j1 _ y5 a w (S.sub ⟨rfl, trivial⟩ .nil) h1
abbrev smithylaw29_fixed.Ty : Type := Option Bool
def smithylaw29_fixed.Ctr (s : smithylaw29_fixed.Ty) : Prop := ∀ (r : Bool), CtG (C := Unit) Tryd.prog Glob 8 (s = some r) [] [] (fun _ => (.b r)) fun _ => []
def smithylaw29_fixed.f (k : Nat) : Option Bool := (bloom_Of.f k [([1, 0, 0, 0, 0, 0, 0, 0, 0, 0, 0, 0, 0, 0, 0, 0, 0, 0, 0, 0], ([] : List (List Int)), ([] : List Int))]).bind fun t1 => ((bloom_Count.f k t1).bind fun t2 => ((bloom_Of.f k ([] : List L38)).bind fun t3 => (if (decide (t3 = (List.replicate 256 0))) = true then (if (decide (1 ≤ t2)) = true then (some (decide (t2 ≤ 3))) else (some false)) else (some false))))
theorem smithylaw29_fixed.ok (k : Nat) : smithylaw29_fixed.Ctr (smithylaw29_fixed.f k) := by
 intro r h0 mi w0 G ok hm
 delta smithylaw29_fixed.f at h0
 refine c_enterZ (n := 18) ok hm func8 rfl rfl rfl fun b0 hb a S => c_region (s_assign S rfl rfl fun a S => c_end (c_region (s_build S (ds := [(0, (.v (.int .u8 1)))]) (dv := (.agg [.b20 [1, 0, 0, 0, 0, 0, 0, 0, 0, 0, 0, 0, 0, 0, 0, 0, 0, 0, 0, 0]])) rfl (fun _ => by kernel_rfl) ⟨rfl, trivial⟩ rfl fun a S => s_bldS S (ds := [(0, (.agg [.b20 [1, 0, 0, 0, 0, 0, 0, 0, 0, 0, 0, 0, 0, 0, 0, 0, 0, 0, 0, 0]]))]) (zs := [.b20 z20, .s none 0 0, .s none 0 0]) (s' := [.b20 [1, 0, 0, 0, 0, 0, 0, 0, 0, 0, 0, 0, 0, 0, 0, 0, 0, 0, 0, 0], .s none 0 0, .s none 0 0]) rfl underlying38 P38 Z38 ⟨rfl, rfl, rfl, trivial⟩ rfl rfl fun a S => ?_)))
 replace S := S.slot (u := 3) (d' := (.agg [.b20 [1, 0, 0, 0, 0, 0, 0, 0, 0, 0, 0, 0, 0, 0, 0, 0, 0, 0, 0, 0], .q (Ty.arr .u64 4) none 0 ([] : List (List Int)), .q yb none 0 ([] : List Int)])) rfl rfl (by have h := (S.get 3 (.agg [.b20 [1, 0, 0, 0, 0, 0, 0, 0, 0, 0, 0, 0, 0, 0, 0, 0, 0, 0, 0, 0], .s none 0 0, .s none 0 0]) rfl).2; exact ⟨h.1, ok_nil, ok_nil, trivial⟩)
 refine s_bldSl S (ty' := Y38) (ds := [(0, (.agg [.b20 [1, 0, 0, 0, 0, 0, 0, 0, 0, 0, 0, 0, 0, 0, 0, 0, 0, 0, 0, 0], .q (Ty.arr .u64 4) none 0 ([] : List (List Int)), .q yb none 0 ([] : List Int)]))]) (z := (z20, ([] : List (List Int)), ([] : List Int))) (c0 := ((), (none, 0), (none, 0))) (ys := [([1, 0, 0, 0, 0, 0, 0, 0, 0, 0, 0, 0, 0, 0, 0, 0, 0, 0, 0, 0], ([] : List (List Int)), ([] : List Int))]) (cs := [((), (none, 0), (none, 0))]) rfl underlying22 J38 Z38 rfl ⟨rfl, ⟨Nat.le_refl _, Nat.zero_le _, RdS.nil _ _ _, RdS.mono _ _ _⟩, ⟨Nat.le_refl _, Nat.zero_le _, RdS.nil _ _ _, RdS.mono _ _ _⟩, trivial⟩ rfl rfl rfl rfl rfl rfl fun g1 a w S => ?_
 replace S := S.rowfro .h
 obtain ⟨m, le1, S, hro⟩ := S
 replace S := S.slotro (u := 4) rfl hro
 refine bindX h0 fun t1 et1 h1 => s_callP S _ N11 rfl rfl (bloom_Of.ok k [([1, 0, 0, 0, 0, 0, 0, 0, 0, 0, 0, 0, 0, 0, 0, 0, 0, 0, 0, 0], ([] : List (List Int)), ([] : List Int))] (ad g1) 1 t1 et1 _ _ (G.mono (S.leB hb))) fun ch1 m le1 a w S => bindX h1 fun t2 et2 h2 => s_callP S _ N16 rfl rfl (bloom_Count.ok k t1 t2 et2 _ _) fun ch2 m le1 a w S => s_assign S rfl rfl fun a S => c_end (c_region (bindX h2 fun t3 et3 h3 => s_callX S (ds' := [(.s none 0 0)]) (ds := [(.q Y38 none 0 ([] : List L38))]) [] [] (fun (ch : Unit) => ((.agg [.ints .u8 t3 256]) : D)) (fun (ch : Unit) => []) (fun (ch : Unit) => []) (fun _ => rfl) N11 rfl rfl (fun ok => ⟨ok_nil, trivial⟩) .nil rfl (bloom_Of.ok k ([] : List L38) none 0 t3 et3 _ _ (G.mono (S.leB hb))) fun ch3 m le1 a w S => s_build S (ds := []) (dv := (.agg [.ints .u8 (List.replicate 256 0) 256])) rfl (fun _ => by kernel_rfl) ⟨rfl, trivial⟩ rfl fun a S => s_eqa S rfl rfl underlying24 underlying5 T5 Q24 rfl fun a S => s_move S rfl rfl fun a S => ?_))
 rcases ite_of h3 with ⟨c1, h4⟩ | ⟨c1, h4⟩
 ·refine s_gT S (b := (decide (t3 = (List.replicate 256 0)))) rfl rfl c1 (s_move S rfl rfl fun a S => s_gT S (b := (decide (t3 = (List.replicate 256 0)))) rfl rfl c1 (s_bin S rfl rfl rfl rfl fun a S => s_pick S (b := true) (hc_of rfl c1) rfl rfl fun a S => s_move S rfl rfl fun a S => ?_))
  rcases ite_of h4 with ⟨c2, h5⟩ | ⟨c2, h5⟩
  ·refine s_gT S (b := (decide (1 ≤ t2))) rfl rfl c2 (s_move S rfl rfl fun a S => s_gT S (b := (decide (1 ≤ t2))) rfl rfl c2 (s_bin S rfl rfl rfl rfl fun a S => s_pick S (b := true) (hc_of rfl c2) rfl rfl fun a S => s_assign S rfl rfl fun a S => c_end (wp_ret ?_)))
   obtain rfl := Option.some.inj h5
   exact b_ret1 (d := (.b (decide (t2 ≤ 3)))) S rfl rfl (S.rt hb)
  ·refine s_gF S (b := (decide (1 ≤ t2))) rfl rfl c2 rfl fun a S => s_gF S (b := (decide (1 ≤ t2))) rfl rfl c2 rfl fun a S => s_pick S (b := false) (hc_of rfl c2) rfl rfl fun a S => s_assign S rfl rfl fun a S => c_end (wp_ret ?_)
   obtain rfl := Option.some.inj h5
   exact b_ret1 (d := (.b false)) S rfl rfl (S.rt hb)
 ·refine s_gF S (b := (decide (t3 = (List.replicate 256 0)))) rfl rfl c1 rfl fun a S => s_gF S (b := (decide (t3 = (List.replicate 256 0)))) rfl rfl c1 rfl fun a S => s_pick S (b := false) (hc_of rfl c1) rfl rfl fun a S => s_move S rfl rfl fun a S => s_gF S (b := false) rfl rfl rfl rfl fun a S => s_gF S (b := false) rfl rfl rfl rfl fun a S => s_pick S (b := false) (hc_of rfl rfl) rfl rfl fun a S => s_assign S rfl rfl fun a S => c_end (wp_ret ?_)
  obtain rfl := Option.some.inj h4
  exact b_ret1 (d := (.b false)) S rfl rfl (S.rt hb)
abbrev smithyref23_Great.Ty : Type := (L61) → Option Bool
def smithyref23_Great.Ctr (s : smithyref23_Great.Ty) : Prop := ∀ (x1 : L61) (ch_0_0 : Option Addr) (ch_0_1 : Nat) (ch_0_2 : Option Addr) (ch_0_3 : Nat) (r : Bool), Ct (C := Unit) Tryd.prog 23 (s x1 = some r) [] [(.agg [.b20 x1.1, .w x1.2.1, .b x1.2.2.1, .w x1.2.2.2.1, .w4 x1.2.2.2.2.1, .b20 x1.2.2.2.2.2.1, .q Y38 ch_0_0 ch_0_1 x1.2.2.2.2.2.2.1, .q yb ch_0_2 ch_0_3 x1.2.2.2.2.2.2.2])] (fun _ => (.b r)) fun _ => []
def smithyref23_Great.j2 : Option Bool := some false
def smithyref23_Great.j3 (y9 : Int) (rec1 : Int → Option Bool) (y10 : Bool) : Option Bool := if y10 = true then (some true) else (rec1 (wr .i64 (y9 + 1)))
def smithyref23_Great.b1 (x1 : L61) (rec1 : Int → Option Bool) (y9 : Int) : Option Bool := if (decide (y9 < ((x1.2.2.2.2.2.2.1).length : Int))) = true then (if (0 : Int) ≤ y9 ∧ y9 < ((x1.2.2.2.2.2.2.1).length : Int) then (if (decide (30 < (((gt x1.2.2.2.2.2.2.1 y9).2.1).length : Int))) = true then (smithyref23_Great.j3 y9 rec1 true) else (smithyref23_Great.j3 y9 rec1 (decide (3000 < (((gt x1.2.2.2.2.2.2.1 y9).2.2).length : Int))))) else none) else smithyref23_Great.j2
def smithyref23_Great.l1 (x1 : L61) : Nat → Int → Option Bool
  | 0, _ => none
  | q + 1, y9 => smithyref23_Great.b1 x1 (smithyref23_Great.l1 x1 q) y9
def smithyref23_Great.j1 (k : Nat) (x1 : L61) (y1 : Bool) : Option Bool := if y1 = true then (some true) else (smithyref23_Great.l1 x1 k 0)
def smithyref23_Great.f (k : Nat) (x1 : L61) : Option Bool := if (decide (3000 < ((x1.2.2.2.2.2.2.2).length : Int))) = true then (smithyref23_Great.j1 k x1 true) else (smithyref23_Great.j1 k x1 (decide (30 < ((x1.2.2.2.2.2.2.1).length : Int))))
theorem smithyref23_Great.ok (k : Nat) : smithyref23_Great.Ctr (smithyref23_Great.f k) := by
 intro x1 ch_0_0 ch_0_1 ch_0_2 ch_0_3 r h0 mi w0 ok hm
 delta smithyref23_Great.f at h0
 refine c_enterZ (n := 39) ok hm func23 rfl rfl rfl fun b0 hb a S => c_region (s_box S rfl rfl rfl fun g1 a w S => s_assign S rfl rfl fun a S => c_end (wp_seq (wp_seq_k fun K1 hK1 => ?_)))
 have j1 : ∀ m y1 g2 a w, St 39 m b0 [(13, (.b y1)), (1, (.p g2))] [Res.cells g2 61 [.b20 x1.1, .w x1.2.1, .b x1.2.2.1, .w x1.2.2.2.1, .w4 x1.2.2.2.2.1, .b20 x1.2.2.2.2.2.1, .q Y38 ch_0_0 ch_0_1 x1.2.2.2.2.2.2.1, .q yb ch_0_2 ch_0_3 x1.2.2.2.2.2.2.2]] a w → smithyref23_Great.j1 k x1 y1 = some r → K1 a w := by
  intro m y1 g2 a w S h0
  delta smithyref23_Great.j1 at h0
  refine hK1 a w ?_
  rcases ite_of h0 with ⟨c1, h1⟩ | ⟨c1, h1⟩
  ·refine c_condT S rfl c1 (c_region (s_assign S rfl rfl fun a S => c_end (wp_ret (x_thenR ?_))))
   obtain rfl := Option.some.inj h1
   exact b_ret1 (d := (.b true)) S rfl rfl (S.rt hb)
  ·refine c_condF S rfl c1 (wp_skip (x_thenN (wp_seq_k fun K2 hK2 => ?_)))
   have j2 : ∀ m a w, St 39 m b0 [] [] a w → smithyref23_Great.j2 = some r → K2 a w := by
    intro m a w S h0
    delta smithyref23_Great.j2 at h0
    refine hK2 a w (c_region (s_assign S rfl rfl fun a S => c_end (wp_ret ?_)))
    obtain rfl := Option.some.inj h0
    exact b_ret1 (d := (.b false)) S rfl rfl (S.rt hb)
   refine c_region (s_fieldAddr S rfl I61_6 T22 (by decide) rfl rfl fun a S => s_loadSl S rfl .h T22 (A := ch_0_0) (len := (x1.2.2.2.2.2.2.1).length) (cap := ch_0_1) rfl rfl fun a S => s_lenS S rfl underlying22 rfl fun a S => s_move S rfl rfl fun a S => c_end (wp_block ?_))
   refine c_loop (fun q1 a w => ∃ m y9 g12, St 39 m b0 [(17, (.i y9)), (16, (.i ((x1.2.2.2.2.2.2.1).length : Int))), (1, (.p g12))] [Res.cells g12 61 [.b20 x1.1, .w x1.2.1, .b x1.2.2.1, .w x1.2.2.2.1, .w4 x1.2.2.2.2.1, .b20 x1.2.2.2.2.2.1, .q Y38 ch_0_0 ch_0_1 x1.2.2.2.2.2.2.1, .q yb ch_0_2 ch_0_3 x1.2.2.2.2.2.2.2]] a w ∧ smithyref23_Great.l1 x1 q1 y9 = some r) ?_ ?_ (k := k) ⟨_, 0, g2, (S.sb rfl (.c0 .n)), h1⟩
   ·rintro a w ⟨m, y9, g12, S, h0⟩
    exact (nomatch (show (none : Option Bool) = some r from h0))
   ·clear S h1
    rintro q1 a w ⟨m, y9, g12, S, h0⟩
    replace h0 : smithyref23_Great.b1 x1 (smithyref23_Great.l1 x1 q1) y9 = some r := h0
    delta smithyref23_Great.b1 at h0
    refine c_region (s_bin S rfl rfl rfl rfl fun a S => c_end (wp_seq ?_))
    rcases ite_of h0 with ⟨c2, h1⟩ | ⟨c2, h1⟩
    ·refine c_condT S rfl c2 (wp_skip (x_thenN (wp_seq (wp_block (c_region (s_move S rfl rfl fun a S => s_assign S rfl rfl fun a S => c_end (wp_seq_k fun K3 hK3 => ?_)))))))
     have j3 : ∀ m y10 g13 a w, St 39 m b0 [(37, (.b y10)), (17, (.i y9)), (16, (.i ((x1.2.2.2.2.2.2.1).length : Int))), (1, (.p g13))] [Res.cells g13 61 [.b20 x1.1, .w x1.2.1, .b x1.2.2.1, .w x1.2.2.2.1, .w4 x1.2.2.2.2.1, .b20 x1.2.2.2.2.2.1, .q Y38 ch_0_0 ch_0_1 x1.2.2.2.2.2.2.1, .q yb ch_0_2 ch_0_3 x1.2.2.2.2.2.2.2]] a w → smithyref23_Great.j3 y9 (smithyref23_Great.l1 x1 q1) y10 = some r → K3 a w := by
      intro m y10 g13 a w S h0
      delta smithyref23_Great.j3 at h0
      refine hK3 a w ?_
      rcases ite_of h0 with ⟨c3, h1⟩ | ⟨c3, h1⟩
      ·refine c_condT S rfl c3 (c_region (s_assign S rfl rfl fun a S => c_end (wp_ret (x_blockR (x_thenR (x_thenR (x_blockR (x_thenR ?_))))))))
       obtain rfl := Option.some.inj h1
       exact b_ret1 (d := (.b true)) S rfl rfl (S.rt hb)
      ·refine c_condF S rfl c3 (wp_skip (x_blockN (x_thenN (c_region' (s_bin S rfl rfl rfl rfl fun a S => s_move S rfl rfl fun a S => c_end' (x_thenN ?_))))))
       exact ⟨_, (wr .i64 (y9 + 1)), g13, (S.sb rfl (.c0 .n)), h1⟩
     refine c_region' (s_fieldAddr S rfl I61_6 T22 (by decide) rfl rfl fun a S => s_loadSl S rfl .h T22 (A := ch_0_0) (len := (x1.2.2.2.2.2.2.1).length) (cap := ch_0_1) rfl rfl fun a S => s_move S rfl rfl fun a S => ?_)
     obtain ⟨c4, h2⟩ := chk_of h1; clear h1
     refine s_iaddrS S rfl rfl rfl underlying22 T38 c4.1 c4.2 rfl fun p1 a S => s_faddrP S (tF := (Ty.slice (Ty.arr .u64 4))) (y := (gt x1.2.2.2.2.2.2.1 y9).2.1) rfl I38_1 T35 (by decide) (fun m h => (at_fst (at_snd (at_0 h)))) rfl fun a S => s_ldS S (fun c => c) rfl T35 (fun _ => rfl) rfl fun A1 cp1 a S => s_lenS S rfl underlying35 rfl fun a S => s_bin S rfl rfl rfl rfl fun a S => s_move S rfl rfl fun a S => ?_
     rcases ite_of h2 with ⟨c5, h3⟩ | ⟨c5, h3⟩
     ·refine s_gF S (b := (decide (30 < (((gt x1.2.2.2.2.2.2.1 y9).2.1).length : Int)))) rfl rfl c5 rfl fun a S => s_gF S (b := (decide (30 < (((gt x1.2.2.2.2.2.2.1 y9).2.1).length : Int)))) rfl rfl c5 rfl fun a S => s_gF S (b := (decide (30 < (((gt x1.2.2.2.2.2.2.1 y9).2.1).length : Int)))) rfl rfl c5 rfl fun a S => s_gF S (b := (decide (30 < (((gt x1.2.2.2.2.2.2.1 y9).2.1).length : Int)))) rfl rfl c5 rfl fun a S => s_gF S (b := (decide (30 < (((gt x1.2.2.2.2.2.2.1 y9).2.1).length : Int)))) rfl rfl c5 rfl fun a S => s_gF S (b := (decide (30 < (((gt x1.2.2.2.2.2.2.1 y9).2.1).length : Int)))) rfl rfl c5 rfl fun a S => s_gF S (b := (decide (30 < (((gt x1.2.2.2.2.2.2.1 y9).2.1).length : Int)))) rfl rfl c5 rfl fun a S => s_gF S (b := (decide (30 < (((gt x1.2.2.2.2.2.2.1 y9).2.1).length : Int)))) rfl rfl c5 rfl fun a S => s_pick S (b := true) (hc_of rfl c5) rfl rfl fun a S => c_end' (x_thenN ?_)
      exact j3 _ true g12 a w (S.sb rfl (.c0 .n)) h3
     ·refine s_gT S (b := (decide (30 < (((gt x1.2.2.2.2.2.2.1 y9).2.1).length : Int)))) rfl rfl c5 (s_fieldAddr S rfl I61_6 T22 (by decide) rfl rfl fun a S => s_gT S (b := (decide (30 < (((gt x1.2.2.2.2.2.2.1 y9).2.1).length : Int)))) rfl rfl c5 (s_loadSl S rfl .h T22 (A := ch_0_0) (len := (x1.2.2.2.2.2.2.1).length) (cap := ch_0_1) rfl rfl fun a S => s_gT S (b := (decide (30 < (((gt x1.2.2.2.2.2.2.1 y9).2.1).length : Int)))) rfl rfl c5 (s_move S rfl rfl fun a S => s_gT S (b := (decide (30 < (((gt x1.2.2.2.2.2.2.1 y9).2.1).length : Int)))) rfl rfl c5 (s_iaddrS S rfl rfl rfl underlying22 T38 c4.1 c4.2 rfl fun p2 a S => s_gT S (b := (decide (30 < (((gt x1.2.2.2.2.2.2.1 y9).2.1).length : Int)))) rfl rfl c5 (s_faddrP S (tF := (Ty.slice yb)) (y := (gt x1.2.2.2.2.2.2.1 y9).2.2) rfl I38_2 T36 (by decide) (fun m h => (at_snd (at_snd (at_0 h)))) rfl fun a S => s_gT S (b := (decide (30 < (((gt x1.2.2.2.2.2.2.1 y9).2.1).length : Int)))) rfl rfl c5 (s_ldS S (fun c => c) rfl T36 (fun _ => rfl) rfl fun A2 cp2 a S => s_gT S (b := (decide (30 < (((gt x1.2.2.2.2.2.2.1 y9).2.1).length : Int)))) rfl rfl c5 (s_lenS S rfl underlying36 rfl fun a S => s_gT S (b := (decide (30 < (((gt x1.2.2.2.2.2.2.1 y9).2.1).length : Int)))) rfl rfl c5 (s_bin S rfl rfl rfl rfl fun a S => s_pick S (b := false) (hc_of rfl c5) rfl rfl fun a S => c_end' (x_thenN ?_)))))))))
      exact j3 _ (decide (3000 < (((gt x1.2.2.2.2.2.2.1 y9).2.2).length : Int))) g12 a w (S.sb rfl (.c0 .n)) h3
    ·refine c_condF S rfl c2 (wp_exit (x_thenX (x_thenX (x_blockX (x_thenN ?_)))))
     exact j2 _ a w (S.sub trivial .nil) h1
 refine c_region' (s_fieldAddr S rfl I61_7 T36 (by decide) rfl rfl fun a S => s_loadSl S rfl .h T36 (A := ch_0_2) (len := (x1.2.2.2.2.2.2.2).length) (cap := ch_0_3) rfl rfl fun a S => s_lenS S rfl underlying36 rfl fun a S => s_bin S rfl rfl rfl rfl fun a S => s_move S rfl rfl fun a S => ?_)
 rcases ite_of h0 with ⟨c6, h1⟩ | ⟨c6, h1⟩
 ·refine s_gF S (b := (decide (3000 < ((x1.2.2.2.2.2.2.2).length : Int)))) rfl rfl c6 rfl fun a S => s_gF S (b := (decide (3000 < ((x1.2.2.2.2.2.2.2).length : Int)))) rfl rfl c6 rfl fun a S => s_gF S (b := (decide (3000 < ((x1.2.2.2.2.2.2.2).length : Int)))) rfl rfl c6 rfl fun a S => s_gF S (b := (decide (3000 < ((x1.2.2.2.2.2.2.2).length : Int)))) rfl rfl c6 rfl fun a S => s_pick S (b := true) (hc_of rfl c6) rfl rfl fun a S => c_end' (x_thenN ?_)
  exact j1 _ true g1 a w (S.sb rfl (.c0 .n)) h1
 ·refine s_gT S (b := (decide (3000 < ((x1.2.2.2.2.2.2.2).length : Int)))) rfl rfl c6 (s_fieldAddr S rfl I61_6 T22 (by decide) rfl rfl fun a S => s_gT S (b := (decide (3000 < ((x1.2.2.2.2.2.2.2).length : Int)))) rfl rfl c6 (s_loadSl S rfl .h T22 (A := ch_0_0) (len := (x1.2.2.2.2.2.2.1).length) (cap := ch_0_1) rfl rfl fun a S => s_gT S (b := (decide (3000 < ((x1.2.2.2.2.2.2.2).length : Int)))) rfl rfl c6 (s_lenS S rfl underlying22 rfl fun a S => s_gT S (b := (decide (3000 < ((x1.2.2.2.2.2.2.2).length : Int)))) rfl rfl c6 (s_bin S rfl rfl rfl rfl fun a S => s_pick S (b := false) (hc_of rfl c6) rfl rfl fun a S => c_end' (x_thenN ?_)))))
  exact j1 _ (decide (30 < ((x1.2.2.2.2.2.2.1).length : Int))) g1 a w (S.sb rfl (.c0 .n)) h1
abbrev smithylaw29_great.Ty : Type := (List L38) → Option Bool
def smithylaw29_great.Ctr (s : smithylaw29_great.Ty) : Prop := ∀ (x1 : List L38) (ch_0_0 : Option Addr) (ch_0_1 : Nat) (r : Bool), Ct (C := Unit) Tryd.prog 7 (s x1 = some r) [] [(.q Y38 ch_0_0 ch_0_1 x1)] (fun _ => (.b r)) fun _ => []
def smithylaw29_great.f (k : Nat) (x1 : List L38) : Option Bool := (smithyref23_Great.f k ([0, 0, 0, 0, 0, 0, 0, 0, 0, 0, 0, 0, 0, 0, 0, 0, 0, 0, 0, 0], 0, false, 0, [0, 0, 0, 0], [0, 0, 0, 0, 0, 0, 0, 0, 0, 0, 0, 0, 0, 0, 0, 0, 0, 0, 0, 0], x1, ([] : List Int))).bind fun t1 => (some t1)
theorem smithylaw29_great.ok (k : Nat) : smithylaw29_great.Ctr (smithylaw29_great.f k) := by
 intro x1 ch_0_0 ch_0_1 r h0 mi w0 ok hm
 delta smithylaw29_great.f at h0
 refine c_enterZ (n := 6) ok hm func7 rfl rfl rfl fun b0 hb a S => c_region (s_assign S rfl rfl fun a S => c_end (c_region (s_move S rfl rfl fun a S => s_bldS S (ds := [(6, (.q Y38 ch_0_0 ch_0_1 x1))]) (zs := [.b20 z20, .w 0, .b false, .w 0, .w4 [0, 0, 0, 0], .b20 z20, .s none 0 0, .s none 0 0]) (s' := [.b20 z20, .w 0, .b false, .w 0, .w4 [0, 0, 0, 0], .b20 z20, .q Y38 ch_0_0 ch_0_1 x1, .s none 0 0]) rfl underlying61 P61 Z61 ⟨rfl, rfl, rfl, rfl, rfl, rfl, rfl, rfl, trivial⟩ rfl rfl fun a S => ?_)))
 replace S := S.slot (u := 4) (d' := (.agg [.b20 z20, .w 0, .b false, .w 0, .w4 [0, 0, 0, 0], .b20 z20, .q Y38 ch_0_0 ch_0_1 x1, .q yb none 0 ([] : List Int)])) rfl rfl (by have h := (S.get 4 (.agg [.b20 z20, .w 0, .b false, .w 0, .w4 [0, 0, 0, 0], .b20 z20, .q Y38 ch_0_0 ch_0_1 x1, .s none 0 0]) rfl).2; exact ⟨h.1, h.2.1, h.2.2.1, h.2.2.2.1, h.2.2.2.2.1, h.2.2.2.2.2.1, h.2.2.2.2.2.2.1, ok_nil, trivial⟩)
 refine bindX h0 fun t1 et1 h1 => s_callP S _ N23 rfl rfl (smithyref23_Great.ok k (z20, 0, false, 0, [0, 0, 0, 0], z20, x1, ([] : List Int)) ch_0_0 ch_0_1 none 0 t1 et1 _ _) fun ch1 m le1 a w S => s_assign S rfl rfl fun a S => c_end (wp_ret ?_)
 obtain rfl := Option.some.inj h1
 exact b_ret1 (d := (.b t1)) S rfl rfl (S.rt hb)
abbrev smithyref29_Find.Ty : Type := (List L59) → (List Int) → (List (List Int)) → Option ((List L38))
def smithyref29_Find.Ctr (s : smithyref29_Find.Ty) : Prop := ∀ (x1 : List L59) (x2 : List Int) (x3 : List (List Int)) (ch_0_0 : Option Addr) (ch_0_1 : Nat) (ch_2_0 : Option Addr) (ch_2_1 : Nat) (r : (List L38)), Ct (C := ((Option Addr) × Nat × Nat)) Tryd.prog 20 (s x1 x2 x3 = some r) [] [(.q Y59 ch_0_0 ch_0_1 x1), (.agg [.b20 x2]), (.q (Ty.arr .u64 4) ch_2_0 ch_2_1 x3)] (fun ch => (.s ch.1 ch.2.1 ch.2.2)) fun ch => [Res.row Y38 38 ch.1 ch.2.1 ch.2.2 r]
def smithyref29_Find.j1 (y1 : List L38) : Option ((List L38)) := some y1
def smithyref29_Find.j2 (y194 : Int) (rec1 : Int → (List L38) → Option ((List L38))) (y290 : List L38) : Option ((List L38)) := rec1 (wr .i64 (y194 + 1)) y290
def smithyref29_Find.j3 (y383 : Int) (rec2 : Int → (List L38) → Option ((List L38))) (y429 : List L38) : Option ((List L38)) := rec2 (wr .i64 (y383 + 1)) y429
def smithyref29_Find.j4 (y472 : Int) (rec3 : Int → (List L38) → Option ((List L38))) (y493 : List L38) : Option ((List L38)) := rec3 (wr .i64 (y472 + 1)) y493
def smithyref29_Find.j5 (x1 : List L59) (y194 : Int) (y383 : Int) (y472 : Int) (y473 : List L38) (rec3 : Int → (List L38) → Option ((List L38))) (y512 : Bool) : Option ((List L38)) := if y512 = true then (if ((y473).length + ([gt ((gt ((gt x1 y194).2.2.2) y383).2.2.2.2.2.2.1) y472]).length) * 72 ≤ 140737488355328 then (smithyref29_Find.j4 y472 rec3 (y473 ++ [gt ((gt ((gt x1 y194).2.2.2) y383).2.2.2.2.2.2.1) y472])) else none) else (smithyref29_Find.j4 y472 rec3 y473)
def smithyref29_Find.j6 (y529 : Int) (rec4 : Int → Bool → Option ((List L38))) (y537 : Bool) : Option ((List L38)) := rec4 (wr .i64 (y529 + 1)) y537
def smithyref29_Find.j7 (y529 : Int) (y530 : Bool) (rec4 : Int → Bool → Option ((List L38))) (y543 : Bool) : Option ((List L38)) := if y530 = true then (smithyref29_Find.j6 y529 rec4 y543) else (smithyref29_Find.j6 y529 rec4 false)
def smithyref29_Find.j8 (y547 : Int) (rec5 : Int → Bool → Option ((List L38))) (y549 : Bool) : Option ((List L38)) := rec5 (wr .i64 (y547 + 1)) y549
def smithyref29_Find.b5 (x1 : List L59) (x3 : List (List Int)) (y194 : Int) (y383 : Int) (y472 : Int) (y529 : Int) (y530 : Bool) (rec4 : Int → Bool → Option ((List L38))) (rec5 : Int → Bool → Option ((List L38))) (y547 : Int) (y548 : Bool) : Option ((List L38)) := if (decide (y547 < (((gt ((gt ((gt x1 y194).2.2.2) y383).2.2.2.2.2.2.1) y472).2.1).length : Int))) = true then (if y548 = true then (smithyref29_Find.j8 y547 rec5 true) else (if (0 : Int) ≤ y547 ∧ y547 < (((gt ((gt ((gt x1 y194).2.2.2) y383).2.2.2.2.2.2.1) y472).2.1).length : Int) then (if (0 : Int) ≤ y529 ∧ y529 < ((x3).length : Int) then (smithyref29_Find.j8 y547 rec5 (decide (gt ((gt ((gt ((gt x1 y194).2.2.2) y383).2.2.2.2.2.2.1) y472).2.1) y547 = gt x3 y529))) else none) else none)) else (smithyref29_Find.j7 y529 y530 rec4 y548)
def smithyref29_Find.l5 (x1 : List L59) (x3 : List (List Int)) (y194 : Int) (y383 : Int) (y472 : Int) (y529 : Int) (y530 : Bool) (rec4 : Int → Bool → Option ((List L38))) : Nat → Int → Bool → Option ((List L38))
  | 0, _, _ => none
  | q + 1, y547, y548 => smithyref29_Find.b5 x1 x3 y194 y383 y472 y529 y530 rec4 (smithyref29_Find.l5 x1 x3 y194 y383 y472 y529 y530 rec4 q) y547 y548
def smithyref29_Find.b4 (k : Nat) (x1 : List L59) (x3 : List (List Int)) (y194 : Int) (y383 : Int) (y472 : Int) (y473 : List L38) (rec3 : Int → (List L38) → Option ((List L38))) (rec4 : Int → Bool → Option ((List L38))) (y529 : Int) (y530 : Bool) : Option ((List L38)) := if (decide (y529 < ((x3).length : Int))) = true then (smithyref29_Find.l5 x1 x3 y194 y383 y472 y529 y530 rec4 k 0 false) else (smithyref29_Find.j5 x1 y194 y383 y472 y473 rec3 y530)
def smithyref29_Find.l4 (k : Nat) (x1 : List L59) (x3 : List (List Int)) (y194 : Int) (y383 : Int) (y472 : Int) (y473 : List L38) (rec3 : Int → (List L38) → Option ((List L38))) : Nat → Int → Bool → Option ((List L38))
  | 0, _, _ => none
  | q + 1, y529, y530 => smithyref29_Find.b4 k x1 x3 y194 y383 y472 y473 rec3 (smithyref29_Find.l4 k x1 x3 y194 y383 y472 y473 rec3 q) y529 y530
def smithyref29_Find.b3 (k : Nat) (x1 : List L59) (x2 : List Int) (x3 : List (List Int)) (y194 : Int) (y383 : Int) (rec2 : Int → (List L38) → Option ((List L38))) (rec3 : Int → (List L38) → Option ((List L38))) (y472 : Int) (y473 : List L38) : Option ((List L38)) := if (decide (y472 < (((gt ((gt x1 y194).2.2.2) y383).2.2.2.2.2.2.1).length : Int))) = true then (if (0 : Int) ≤ y472 ∧ y472 < (((gt ((gt x1 y194).2.2.2) y383).2.2.2.2.2.2.1).length : Int) then (smithyref29_Find.l4 k x1 x3 y194 y383 y472 y473 rec3 k 0 (decide ((gt ((gt ((gt x1 y194).2.2.2) y383).2.2.2.2.2.2.1) y472).1 = x2))) else none) else (smithyref29_Find.j3 y383 rec2 y473)
def smithyref29_Find.l3 (k : Nat) (x1 : List L59) (x2 : List Int) (x3 : List (List Int)) (y194 : Int) (y383 : Int) (rec2 : Int → (List L38) → Option ((List L38))) : Nat → Int → (List L38) → Option ((List L38))
  | 0, _, _ => none
  | q + 1, y472, y473 => smithyref29_Find.b3 k x1 x2 x3 y194 y383 rec2 (smithyref29_Find.l3 k x1 x2 x3 y194 y383 rec2 q) y472 y473
def smithyref29_Find.b2 (k : Nat) (x1 : List L59) (x2 : List Int) (x3 : List (List Int)) (y194 : Int) (rec1 : Int → (List L38) → Option ((List L38))) (rec2 : Int → (List L38) → Option ((List L38))) (y383 : Int) (y384 : List L38) : Option ((List L38)) := if (decide (y383 < (((gt x1 y194).2.2.2).length : Int))) = true then (if (0 : Int) ≤ y383 ∧ y383 < (((gt x1 y194).2.2.2).length : Int) then (smithyref29_Find.l3 k x1 x2 x3 y194 y383 rec2 k 0 y384) else none) else (smithyref29_Find.j2 y194 rec1 y384)
def smithyref29_Find.l2 (k : Nat) (x1 : List L59) (x2 : List Int) (x3 : List (List Int)) (y194 : Int) (rec1 : Int → (List L38) → Option ((List L38))) : Nat → Int → (List L38) → Option ((List L38))
  | 0, _, _ => none
  | q + 1, y383, y384 => smithyref29_Find.b2 k x1 x2 x3 y194 rec1 (smithyref29_Find.l2 k x1 x2 x3 y194 rec1 q) y383 y384
def smithyref29_Find.b1 (k : Nat) (x1 : List L59) (x2 : List Int) (x3 : List (List Int)) (rec1 : Int → (List L38) → Option ((List L38))) (y194 : Int) (y195 : List L38) : Option ((List L38)) := if (decide (y194 < ((x1).length : Int))) = true then (if (0 : Int) ≤ y194 ∧ y194 < ((x1).length : Int) then (smithyref29_Find.l2 k x1 x2 x3 y194 rec1 k 0 y195) else none) else (smithyref29_Find.j1 y195)
def smithyref29_Find.l1 (k : Nat) (x1 : List L59) (x2 : List Int) (x3 : List (List Int)) : Nat → Int → (List L38) → Option ((List L38))
  | 0, _, _ => none
  | q + 1, y194, y195 => smithyref29_Find.b1 k x1 x2 x3 (smithyref29_Find.l1 k x1 x2 x3 q) y194 y195
def smithyref29_Find.f (k : Nat) (x1 : List L59) (x2 : List Int) (x3 : List (List Int)) : Option ((List L38)) := smithyref29_Find.l1 k x1 x2 x3 k 0 ([] : List L38)
theorem smithyref29_Find.ok (k : Nat) : smithyref29_Find.Ctr (smithyref29_Find.f k) := by
 intro x1 x2 x3 ch_0_0 ch_0_1 ch_2_0 ch_2_1 r h0 mi w0 ok hm
 delta smithyref29_Find.f at h0
 refine c_enterZ (n := 100) ok hm func20 rfl rfl rfl fun b0 hb a S => c_region (s_box S rfl rfl rfl fun g1 a w S => s_assign S rfl rfl fun a S => c_end (c_region (s_bldSl S (ty' := Y38) (ds := []) (z := (z20, ([] : List (List Int)), ([] : List Int))) (c0 := ((), (none, 0), (none, 0))) (ys := ([] : List L38)) (cs := []) rfl underlying22 J38 Z38 rfl ⟨rfl, ⟨Nat.le_refl _, Nat.zero_le _, RdS.nil _ _ _, RdS.mono _ _ _⟩, ⟨Nat.le_refl _, Nat.zero_le _, RdS.nil _ _ _, RdS.mono _ _ _⟩, trivial⟩ rfl rfl rfl rfl rfl rfl fun g2 a w S => s_assign S rfl rfl fun a S => c_end (wp_seq_k fun K1 hK1 => ?_))))
 have j1 : ∀ m A1 nn1 cp1 y1 a w, St 100 m b0 [(7, (.s A1 nn1 cp1))] [Res.row Y38 38 A1 nn1 cp1 y1] a w → smithyref29_Find.j1 y1 = some r → K1 a w := by
  intro m A1 nn1 cp1 y1 a w S h0
  delta smithyref29_Find.j1 at h0
  refine hK1 a w (c_region (s_move S rfl rfl fun a S => s_assign S rfl rfl fun a S => c_end (wp_ret ?_)))
  obtain rfl := Option.some.inj h0
  exact b_ret1 (d := (.s A1 nn1 cp1)) S rfl rfl fun ok => S.retX (Hx := []) hb _ _ ((A1, nn1, cp1) : (Option Addr) × Nat × Nat) (.c0 .n) ok
 refine c_region (s_move S rfl rfl fun a S => s_lenS S rfl underlying48 rfl fun a S => s_move S rfl rfl fun a S => c_end (wp_block ?_))
 refine c_loop (fun q1 a w => ∃ m y194 A2 nn29 cp59 y195 g344, St 100 m b0 [(19, (.i y194)), (18, (.i ((x1).length : Int))), (7, (.s A2 nn29 cp59)), (4, (.p g344)), (0, (.q Y59 ch_0_0 ch_0_1 x1)), (2, (.q (Ty.arr .u64 4) ch_2_0 ch_2_1 x3))] [Res.row Y38 38 A2 nn29 cp59 y195, Res.cells g344 34 [.b20 x2]] a w ∧ smithyref29_Find.l1 k x1 x2 x3 q1 y194 y195 = some r) ?_ ?_ (k := k) ⟨_, 0, (ad g2), 0, 0, ([] : List L38), g1, (S.sb rfl (.c0 (.c0 .n))), h0⟩
 ·rintro a w ⟨m, y194, A2, nn29, cp59, y195, g344, S, h0⟩
  exact (nomatch (show (none : Option ((List L38))) = some r from h0))
 ·clear S h0
  rintro q1 a w ⟨m, y194, A2, nn29, cp59, y195, g344, S, h0⟩
  replace h0 : smithyref29_Find.b1 k x1 x2 x3 (smithyref29_Find.l1 k x1 x2 x3 q1) y194 y195 = some r := h0
  delta smithyref29_Find.b1 at h0
  refine c_region (s_bin S rfl rfl rfl rfl fun a S => c_end (wp_seq ?_))
  rcases ite_of h0 with ⟨c1, h1⟩ | ⟨c1, h1⟩
  ·refine c_condT S rfl c1 (wp_skip (x_thenN (wp_seq_k fun K2 hK2 => ?_)))
   have j2 : ∀ m A3 nn42 cp87 y290 g428 a w, St 100 m b0 [(19, (.i y194)), (18, (.i ((x1).length : Int))), (7, (.s A3 nn42 cp87)), (4, (.p g428)), (0, (.q Y59 ch_0_0 ch_0_1 x1)), (2, (.q (Ty.arr .u64 4) ch_2_0 ch_2_1 x3))] [Res.row Y38 38 A3 nn42 cp87 y290, Res.cells g428 34 [.b20 x2]] a w → smithyref29_Find.j2 y194 (smithyref29_Find.l1 k x1 x2 x3 q1) y290 = some r → K2 a w := by
    intro m A3 nn42 cp87 y290 g428 a w S h0
    delta smithyref29_Find.j2 at h0
    refine hK2 a w (c_region' (s_bin S rfl rfl rfl rfl fun a S => s_move S rfl rfl fun a S => c_end' (x_thenN ?_)))
    exact ⟨_, (wr .i64 (y194 + 1)), A3, nn42, cp87, y290, g428, (S.sb rfl (.c0 (.c0 .n))), h0⟩
   refine wp_block (c_region (s_move S rfl rfl fun a S => s_assign S rfl rfl fun a S => c_end (c_region (s_move S rfl rfl fun a S => s_move S rfl rfl fun a S => ?_))))
   obtain ⟨c2, h2⟩ := chk_of h1; clear h1
   refine s_iaddrS S rfl rfl rfl underlying48 T59 c2.1 c2.2 rfl fun p1 a S => s_faddrP S (tF := (Ty.slice Y61)) (y := (gt x1 y194).2.2.2) rfl I59_3 T57 (by decide) (fun m h => (at_snd (at_snd (at_snd (at_0 h))))) rfl fun a S => s_ldS S (fun c => c) rfl T57 (fun _ => rfl) rfl fun A4 cp88 a S => s_lenS S rfl underlying57 rfl fun a S => s_move S rfl rfl fun a S => c_end (wp_block ?_)
   refine c_loop (fun q2 a w => ∃ m y383 A5 nn54 cp114 y384 g511, St 100 m b0 [(28, (.i y383)), (27, (.i (((gt x1 y194).2.2.2).length : Int))), (8, (.i y194)), (19, (.i y194)), (18, (.i ((x1).length : Int))), (7, (.s A5 nn54 cp114)), (4, (.p g511)), (0, (.q Y59 ch_0_0 ch_0_1 x1)), (2, (.q (Ty.arr .u64 4) ch_2_0 ch_2_1 x3))] [Res.row Y38 38 A5 nn54 cp114 y384, Res.cells g511 34 [.b20 x2]] a w ∧ smithyref29_Find.l2 k x1 x2 x3 y194 (smithyref29_Find.l1 k x1 x2 x3 q1) q2 y383 y384 = some r) ?_ ?_ (k := k) ⟨_, 0, A2, nn29, cp59, y195, g344, (S.sb rfl (.c0 (.c0 .n))), h2⟩
   ·rintro a w ⟨m, y383, A5, nn54, cp114, y384, g511, S, h0⟩
    exact (nomatch (show (none : Option ((List L38))) = some r from h0))
   ·clear S h2
    rintro q2 a w ⟨m, y383, A5, nn54, cp114, y384, g511, S, h0⟩
    replace h0 : smithyref29_Find.b2 k x1 x2 x3 y194 (smithyref29_Find.l1 k x1 x2 x3 q1) (smithyref29_Find.l2 k x1 x2 x3 y194 (smithyref29_Find.l1 k x1 x2 x3 q1) q2) y383 y384 = some r := h0
    delta smithyref29_Find.b2 at h0
    refine c_region (s_bin S rfl rfl rfl rfl fun a S => c_end (wp_seq ?_))
    rcases ite_of h0 with ⟨c3, h1⟩ | ⟨c3, h1⟩
    ·refine c_condT S rfl c3 (wp_skip (x_thenN (wp_seq_k fun K3 hK3 => ?_)))
     have j3 : ∀ m A6 nn59 cp126 y429 g551 a w, St 100 m b0 [(28, (.i y383)), (27, (.i (((gt x1 y194).2.2.2).length : Int))), (8, (.i y194)), (19, (.i y194)), (18, (.i ((x1).length : Int))), (7, (.s A6 nn59 cp126)), (4, (.p g551)), (0, (.q Y59 ch_0_0 ch_0_1 x1)), (2, (.q (Ty.arr .u64 4) ch_2_0 ch_2_1 x3))] [Res.row Y38 38 A6 nn59 cp126 y429, Res.cells g551 34 [.b20 x2]] a w → smithyref29_Find.j3 y383 (smithyref29_Find.l2 k x1 x2 x3 y194 (smithyref29_Find.l1 k x1 x2 x3 q1) q2) y429 = some r → K3 a w := by
      intro m A6 nn59 cp126 y429 g551 a w S h0
      delta smithyref29_Find.j3 at h0
      refine hK3 a w (c_region' (s_bin S rfl rfl rfl rfl fun a S => s_move S rfl rfl fun a S => c_end' (x_thenN ?_)))
      exact ⟨_, (wr .i64 (y383 + 1)), A6, nn59, cp126, y429, g551, (S.sb rfl (.c0 (.c0 .n))), h0⟩
     refine wp_block (c_region (s_move S rfl rfl fun a S => s_assign S rfl rfl fun a S => c_end (c_region (s_move S rfl rfl fun a S => s_move S rfl rfl fun a S => s_iaddrS S rfl rfl rfl underlying48 T59 c2.1 c2.2 rfl fun p2 a S => s_faddrP S (tF := (Ty.slice Y61)) (y := (gt x1 y194).2.2.2) rfl I59_3 T57 (by decide) (fun m h => (at_snd (at_snd (at_snd (at_0 h))))) rfl fun a S => s_ldS S (fun c => c) rfl T57 (fun _ => rfl) rfl fun A7 cp127 a S => s_move S rfl rfl fun a S => ?_))))
     obtain ⟨c4, h2⟩ := chk_of h1; clear h1
     refine s_iaddrS S rfl rfl rfl underlying57 T61 c4.1 c4.2 rfl fun p3 a S => s_faddrP S (tF := (Ty.slice Y38)) (y := (gt ((gt x1 y194).2.2.2) y383).2.2.2.2.2.2.1) rfl I61_6 T22 (by decide) (fun m h => (at_fst (at_snd (at_snd (at_snd (at_snd (at_snd (at_snd (at_0 h))))))))) rfl fun a S => s_ldS S (fun c => c) rfl T22 (fun _ => rfl) rfl fun A8 cp128 a S => s_assign S rfl rfl fun a S => c_end (c_region (s_move S rfl rfl fun a S => s_lenS S rfl underlying22 rfl fun a S => s_move S rfl rfl fun a S => c_end (wp_block ?_)))
     refine c_loop (fun q3 a w => ∃ m y472 A9 cp136 A10 nn63 cp137 y473 g590, St 100 m b0 [(42, (.i y472)), (41, (.i (((gt ((gt x1 y194).2.2.2) y383).2.2.2.2.2.2.1).length : Int))), (10, (.q Y38 A9 cp136 ((gt ((gt x1 y194).2.2.2) y383).2.2.2.2.2.2.1))), (28, (.i y383)), (27, (.i (((gt x1 y194).2.2.2).length : Int))), (8, (.i y194)), (19, (.i y194)), (18, (.i ((x1).length : Int))), (7, (.s A10 nn63 cp137)), (4, (.p g590)), (0, (.q Y59 ch_0_0 ch_0_1 x1)), (2, (.q (Ty.arr .u64 4) ch_2_0 ch_2_1 x3))] [Res.row Y38 38 A10 nn63 cp137 y473, Res.cells g590 34 [.b20 x2]] a w ∧ smithyref29_Find.l3 k x1 x2 x3 y194 y383 (smithyref29_Find.l2 k x1 x2 x3 y194 (smithyref29_Find.l1 k x1 x2 x3 q1) q2) q3 y472 y473 = some r) ?_ ?_ (k := k) ⟨_, 0, A8, cp128, A5, nn54, cp114, y384, g511, (S.sb rfl (.c0 (.c0 .n))), h2⟩
     ·rintro a w ⟨m, y472, A9, cp136, A10, nn63, cp137, y473, g590, S, h0⟩
      exact (nomatch (show (none : Option ((List L38))) = some r from h0))
     ·clear S h2
      rintro q3 a w ⟨m, y472, A9, cp136, A10, nn63, cp137, y473, g590, S, h0⟩
      replace h0 : smithyref29_Find.b3 k x1 x2 x3 y194 y383 (smithyref29_Find.l2 k x1 x2 x3 y194 (smithyref29_Find.l1 k x1 x2 x3 q1) q2) (smithyref29_Find.l3 k x1 x2 x3 y194 y383 (smithyref29_Find.l2 k x1 x2 x3 y194 (smithyref29_Find.l1 k x1 x2 x3 q1) q2) q3) y472 y473 = some r := h0
      delta smithyref29_Find.b3 at h0
      refine c_region (s_bin S rfl rfl rfl rfl fun a S => c_end (wp_seq ?_))
      rcases ite_of h0 with ⟨c5, h1⟩ | ⟨c5, h1⟩
      ·refine c_condT S rfl c5 (wp_skip (x_thenN (wp_seq_k fun K4 hK4 => ?_)))
       have j4 : ∀ m A11 nn64 cp139 y493 g608 a w, St 100 m b0 [(7, (.s A11 nn64 cp139)), (42, (.i y472)), (41, (.i (((gt ((gt x1 y194).2.2.2) y383).2.2.2.2.2.2.1).length : Int))), (10, (.q Y38 A9 cp136 ((gt ((gt x1 y194).2.2.2) y383).2.2.2.2.2.2.1))), (28, (.i y383)), (27, (.i (((gt x1 y194).2.2.2).length : Int))), (8, (.i y194)), (19, (.i y194)), (18, (.i ((x1).length : Int))), (4, (.p g608)), (0, (.q Y59 ch_0_0 ch_0_1 x1)), (2, (.q (Ty.arr .u64 4) ch_2_0 ch_2_1 x3))] [Res.row Y38 38 A11 nn64 cp139 y493, Res.cells g608 34 [.b20 x2]] a w → smithyref29_Find.j4 y472 (smithyref29_Find.l3 k x1 x2 x3 y194 y383 (smithyref29_Find.l2 k x1 x2 x3 y194 (smithyref29_Find.l1 k x1 x2 x3 q1) q2) q3) y493 = some r → K4 a w := by
        intro m A11 nn64 cp139 y493 g608 a w S h0
        delta smithyref29_Find.j4 at h0
        refine hK4 a w (c_region' (s_bin S rfl rfl rfl rfl fun a S => s_move S rfl rfl fun a S => c_end' (x_thenN ?_)))
        exact ⟨_, (wr .i64 (y472 + 1)), A9, cp136, A11, nn64, cp139, y493, g608, (S.sb rfl (.c0 (.c0 .n))), h0⟩
       refine wp_block (c_region (s_move S rfl rfl fun a S => s_assign S rfl rfl fun a S => c_end ?_))
       refine wp_seq (c_heldS S (.take 0 (.take 1 (.take 2 (.take 3 (.take 4 (.take 5 (.take 6 (.take 7 .done)))))))) 8 [Res.cells g590 34 [.b20 x2]] (.c1 .n) ⟨Res.stay_cells, trivial⟩ [(11, (.i y472)), (10, (.q Y38 A9 cp136 ((gt ((gt x1 y194).2.2.2) y383).2.2.2.2.2.2.1))), (4, (.p g590))] (subR rfl) (by kernel_rfl) (by kernel_rfl) ?_); clear S; intro w S CL hw le
       refine h_move S CL hw le (subR rfl) rfl rfl rfl trivial fun a S CL => h_move S CL hw le (subR rfl) rfl rfl rfl trivial fun a S CL => ?_
       obtain ⟨c6, h2⟩ := chk_of h1; clear h1
       refine h_iaddrS S CL hw le (subR rfl) rfl rfl rfl underlying22 T38 c6.1 c6.2 rfl rfl trivial fun p6 a S CL => h_faddrP S CL hw le (subR rfl) (tF := (Ty.arr .u8 20)) (y := (gt ((gt ((gt x1 y194).2.2.2) y383).2.2.2.2.2.2.1) y472).1) rfl I38_0 T34 (by decide) (fun m h => (at_fst (at_0 h))) rfl rfl trivial fun a S CL => h_ldA S CL hw le (subR rfl) (fun (c : Unit) => [.b20 ((gt ((gt ((gt x1 y194).2.2.2) y383).2.2.2.2.2.2.1) y472).1)]) rfl T34 (fun _ => rfl) rfl rfl trivial fun ch1 a S CL => ?_
       refine h_loada S CL hw le (subR rfl) rfl .h T34 (s' := [.b20 x2]) rfl rfl rfl trivial fun a S CL => h_eqa S CL hw le (subR rfl) rfl rfl underlying34 underlying5 T5 Q34 rfl rfl trivial fun a S CL => h_assign S CL hw le (subR rfl) rfl rfl rfl trivial fun a S CL => ?_
       refine h_done ?_; clear CL hw le
       refine x_thenN (wp_seq_k fun K5 hK5 => ?_)
       have j5 : ∀ m y512 g624 a w, St 100 m b0 [(12, (.b y512)), (11, (.i y472)), (42, (.i y472)), (41, (.i (((gt ((gt x1 y194).2.2.2) y383).2.2.2.2.2.2.1).length : Int))), (10, (.q Y38 A9 cp136 ((gt ((gt x1 y194).2.2.2) y383).2.2.2.2.2.2.1))), (28, (.i y383)), (27, (.i (((gt x1 y194).2.2.2).length : Int))), (8, (.i y194)), (19, (.i y194)), (18, (.i ((x1).length : Int))), (7, (.s A10 nn63 cp137)), (4, (.p g624)), (0, (.q Y59 ch_0_0 ch_0_1 x1)), (2, (.q (Ty.arr .u64 4) ch_2_0 ch_2_1 x3))] [Res.row Y38 38 A10 nn63 cp137 y473, Res.cells g624 34 [.b20 x2]] a w → smithyref29_Find.j5 x1 y194 y383 y472 y473 (smithyref29_Find.l3 k x1 x2 x3 y194 y383 (smithyref29_Find.l2 k x1 x2 x3 y194 (smithyref29_Find.l1 k x1 x2 x3 q1) q2) q3) y512 = some r → K5 a w := by
        intro m y512 g624 a w S h0
        delta smithyref29_Find.j5 at h0
        refine hK5 a w (c_region (s_move S rfl rfl fun a S => c_end ?_))
        rcases ite_of h0 with ⟨c7, h1⟩ | ⟨c7, h1⟩
        ·refine c_condT S rfl c7 (c_region' (s_move S rfl rfl fun a S => s_move S rfl rfl fun a S => s_move S rfl rfl fun a S => s_iaddrS S rfl rfl rfl underlying22 T38 c6.1 c6.2 rfl fun p7 a S => s_ldA S (fun (c : Unit × (Option Addr × Nat) × (Option Addr × Nat)) => [.b20 ((gt ((gt ((gt x1 y194).2.2.2) y383).2.2.2.2.2.2.1) y472).1), .q (Ty.arr .u64 4) c.2.1.1 c.2.1.2 ((gt ((gt ((gt x1 y194).2.2.2) y383).2.2.2.2.2.2.1) y472).2.1), .q yb c.2.2.1 c.2.2.2 ((gt ((gt ((gt x1 y194).2.2.2) y383).2.2.2.2.2.2.1) y472).2.2)]) rfl T38 (fun _ => rfl) rfl fun ch2 a S => ?_))
         refine s_bldSl S (ty' := Y38) (ds := [(0, (.agg [.b20 ((gt ((gt ((gt x1 y194).2.2.2) y383).2.2.2.2.2.2.1) y472).1), .q (Ty.arr .u64 4) ch2.2.1.1 ch2.2.1.2 ((gt ((gt ((gt x1 y194).2.2.2) y383).2.2.2.2.2.2.1) y472).2.1), .q yb ch2.2.2.1 ch2.2.2.2 ((gt ((gt ((gt x1 y194).2.2.2) y383).2.2.2.2.2.2.1) y472).2.2)]))]) (z := (z20, ([] : List (List Int)), ([] : List Int))) (c0 := ((), (none, 0), (none, 0))) (ys := [gt ((gt ((gt x1 y194).2.2.2) y383).2.2.2.2.2.2.1) y472]) (cs := [((), (ch2.2.1.1, ch2.2.1.2), (ch2.2.2.1, ch2.2.2.2))]) rfl underlying22 J38 Z38 rfl ⟨rfl, ⟨Nat.le_refl _, Nat.zero_le _, RdS.nil _ _ _, RdS.mono _ _ _⟩, ⟨Nat.le_refl _, Nat.zero_le _, RdS.nil _ _ _, RdS.mono _ _ _⟩, trivial⟩ rfl rfl rfl rfl rfl rfl fun g625 a w S => ?_
         obtain ⟨c8, h2⟩ := chk_of h1; clear h1
         refine s_app S (k2 := 1) (ys := [gt ((gt ((gt x1 y194).2.2.2) y383).2.2.2.2.2.2.1) y472]) rfl (fun _ _ => .h1) rfl rfl (S.holds _ (Pull.mem .h).1).1 (Res.row.src (S.holds _ (Pull.mem .h).1)) underlying22 J38 c8 rfl fun A12 cp140 a w S => s_assign S rfl rfl fun a S => c_end' (x_blockN (x_thenN ?_))
         exact j4 _ A12 (nn63 + 1) cp140 (y473 ++ [gt ((gt ((gt x1 y194).2.2.2) y383).2.2.2.2.2.2.1) y472]) g624 a w (S.sb rfl (.c1 (.c1 .n))) h2
        ·refine c_condF S rfl c7 (wp_skip (x_blockN (x_thenN ?_)))
         exact j4 _ A10 nn63 cp137 y473 g624 a w (S.sb rfl (.c0 (.c0 .n))) h1
       refine c_region (s_move S rfl rfl fun a S => s_lenS S rfl underlying35 rfl fun a S => s_move S rfl rfl fun a S => c_end (wp_block ?_))
       refine c_loop (fun q4 a w => ∃ m y529 y530 g640, St 100 m b0 [(54, (.i y529)), (53, (.i ((x3).length : Int))), (12, (.b y530)), (11, (.i y472)), (42, (.i y472)), (41, (.i (((gt ((gt x1 y194).2.2.2) y383).2.2.2.2.2.2.1).length : Int))), (10, (.q Y38 A9 cp136 ((gt ((gt x1 y194).2.2.2) y383).2.2.2.2.2.2.1))), (28, (.i y383)), (27, (.i (((gt x1 y194).2.2.2).length : Int))), (8, (.i y194)), (19, (.i y194)), (18, (.i ((x1).length : Int))), (7, (.s A10 nn63 cp137)), (4, (.p g640)), (0, (.q Y59 ch_0_0 ch_0_1 x1)), (2, (.q (Ty.arr .u64 4) ch_2_0 ch_2_1 x3))] [Res.row Y38 38 A10 nn63 cp137 y473, Res.cells g640 34 [.b20 x2]] a w ∧ smithyref29_Find.l4 k x1 x3 y194 y383 y472 y473 (smithyref29_Find.l3 k x1 x2 x3 y194 y383 (smithyref29_Find.l2 k x1 x2 x3 y194 (smithyref29_Find.l1 k x1 x2 x3 q1) q2) q3) q4 y529 y530 = some r) ?_ ?_ (k := k) ⟨_, 0, (decide ((gt ((gt ((gt x1 y194).2.2.2) y383).2.2.2.2.2.2.1) y472).1 = x2)), g590, (S.sb rfl (.c0 (.c0 .n))), h2⟩
       ·rintro a w ⟨m, y529, y530, g640, S, h0⟩
        exact (nomatch (show (none : Option ((List L38))) = some r from h0))
       ·clear S h2
        rintro q4 a w ⟨m, y529, y530, g640, S, h0⟩
        replace h0 : smithyref29_Find.b4 k x1 x3 y194 y383 y472 y473 (smithyref29_Find.l3 k x1 x2 x3 y194 y383 (smithyref29_Find.l2 k x1 x2 x3 y194 (smithyref29_Find.l1 k x1 x2 x3 q1) q2) q3) (smithyref29_Find.l4 k x1 x3 y194 y383 y472 y473 (smithyref29_Find.l3 k x1 x2 x3 y194 y383 (smithyref29_Find.l2 k x1 x2 x3 y194 (smithyref29_Find.l1 k x1 x2 x3 q1) q2) q3) q4) y529 y530 = some r := h0
        delta smithyref29_Find.b4 at h0
        refine c_region (s_bin S rfl rfl rfl rfl fun a S => c_end (wp_seq ?_))
        rcases ite_of h0 with ⟨c9, h1⟩ | ⟨c9, h1⟩
        ·refine c_condT S rfl c9 (wp_skip (x_thenN (wp_seq_k fun K6 hK6 => ?_)))
         have j6 : ∀ m y537 g646 a w, St 100 m b0 [(12, (.b y537)), (54, (.i y529)), (53, (.i ((x3).length : Int))), (11, (.i y472)), (42, (.i y472)), (41, (.i (((gt ((gt x1 y194).2.2.2) y383).2.2.2.2.2.2.1).length : Int))), (10, (.q Y38 A9 cp136 ((gt ((gt x1 y194).2.2.2) y383).2.2.2.2.2.2.1))), (28, (.i y383)), (27, (.i (((gt x1 y194).2.2.2).length : Int))), (8, (.i y194)), (19, (.i y194)), (18, (.i ((x1).length : Int))), (7, (.s A10 nn63 cp137)), (4, (.p g646)), (0, (.q Y59 ch_0_0 ch_0_1 x1)), (2, (.q (Ty.arr .u64 4) ch_2_0 ch_2_1 x3))] [Res.row Y38 38 A10 nn63 cp137 y473, Res.cells g646 34 [.b20 x2]] a w → smithyref29_Find.j6 y529 (smithyref29_Find.l4 k x1 x3 y194 y383 y472 y473 (smithyref29_Find.l3 k x1 x2 x3 y194 y383 (smithyref29_Find.l2 k x1 x2 x3 y194 (smithyref29_Find.l1 k x1 x2 x3 q1) q2) q3) q4) y537 = some r → K6 a w := by
          intro m y537 g646 a w S h0
          delta smithyref29_Find.j6 at h0
          refine hK6 a w (c_region' (s_bin S rfl rfl rfl rfl fun a S => s_move S rfl rfl fun a S => c_end' (x_thenN ?_)))
          exact ⟨_, (wr .i64 (y529 + 1)), y537, g646, (S.sb rfl (.c0 (.c0 .n))), h0⟩
         refine wp_block (c_region (s_move S rfl rfl fun a S => s_assign S rfl rfl fun a S => c_end (c_region (s_assign S rfl rfl fun a S => c_end (wp_seq_k fun K7 hK7 => ?_)))))
         have j7 : ∀ m y543 g651 a w, St 100 m b0 [(14, (.b y543)), (54, (.i y529)), (53, (.i ((x3).length : Int))), (12, (.b y530)), (11, (.i y472)), (42, (.i y472)), (41, (.i (((gt ((gt x1 y194).2.2.2) y383).2.2.2.2.2.2.1).length : Int))), (10, (.q Y38 A9 cp136 ((gt ((gt x1 y194).2.2.2) y383).2.2.2.2.2.2.1))), (28, (.i y383)), (27, (.i (((gt x1 y194).2.2.2).length : Int))), (8, (.i y194)), (19, (.i y194)), (18, (.i ((x1).length : Int))), (7, (.s A10 nn63 cp137)), (4, (.p g651)), (0, (.q Y59 ch_0_0 ch_0_1 x1)), (2, (.q (Ty.arr .u64 4) ch_2_0 ch_2_1 x3))] [Res.row Y38 38 A10 nn63 cp137 y473, Res.cells g651 34 [.b20 x2]] a w → smithyref29_Find.j7 y529 y530 (smithyref29_Find.l4 k x1 x3 y194 y383 y472 y473 (smithyref29_Find.l3 k x1 x2 x3 y194 y383 (smithyref29_Find.l2 k x1 x2 x3 y194 (smithyref29_Find.l1 k x1 x2 x3 q1) q2) q3) q4) y543 = some r → K7 a w := by
          intro m y543 g651 a w S h0
          delta smithyref29_Find.j7 at h0
          refine hK7 a w (c_region' (s_move S rfl rfl fun a S => s_move S rfl rfl fun a S => ?_))
          rcases ite_of h0 with ⟨c10, h1⟩ | ⟨c10, h1⟩
          ·refine s_gT S (b := y530) rfl rfl c10 (s_move S rfl rfl fun a S => s_pick S (b := true) (hc_of rfl c10) rfl rfl fun a S => s_assign S rfl rfl fun a S => c_end' (x_blockN (x_thenN ?_)))
           exact j6 _ y543 g651 a w (S.sb rfl (.c0 (.c0 .n))) h1
          ·refine s_gF S (b := y530) rfl rfl c10 rfl fun a S => s_pick S (b := false) (hc_of rfl c10) rfl rfl fun a S => s_assign S rfl rfl fun a S => c_end' (x_blockN (x_thenN ?_))
           exact j6 _ false g651 a w (S.sb rfl (.c0 (.c0 .n))) h1
         refine c_region (s_move S rfl rfl fun a S => s_move S rfl rfl fun a S => s_iaddrS S rfl rfl rfl underlying22 T38 c6.1 c6.2 rfl fun p8 a S => s_faddrP S (tF := (Ty.slice (Ty.arr .u64 4))) (y := (gt ((gt ((gt x1 y194).2.2.2) y383).2.2.2.2.2.2.1) y472).2.1) rfl I38_1 T35 (by decide) (fun m h => (at_fst (at_snd (at_0 h)))) rfl fun a S => s_ldS S (fun c => c) rfl T35 (fun _ => rfl) rfl fun A13 cp141 a S => s_lenS S rfl underlying35 rfl fun a S => s_move S rfl rfl fun a S => c_end (wp_block ?_))
         refine c_loop (fun q5 a w => ∃ m y547 y548 g655, St 100 m b0 [(63, (.i y547)), (62, (.i (((gt ((gt ((gt x1 y194).2.2.2) y383).2.2.2.2.2.2.1) y472).2.1).length : Int))), (14, (.b y548)), (13, (.i y529)), (54, (.i y529)), (53, (.i ((x3).length : Int))), (12, (.b y530)), (11, (.i y472)), (42, (.i y472)), (41, (.i (((gt ((gt x1 y194).2.2.2) y383).2.2.2.2.2.2.1).length : Int))), (10, (.q Y38 A9 cp136 ((gt ((gt x1 y194).2.2.2) y383).2.2.2.2.2.2.1))), (28, (.i y383)), (27, (.i (((gt x1 y194).2.2.2).length : Int))), (8, (.i y194)), (19, (.i y194)), (18, (.i ((x1).length : Int))), (7, (.s A10 nn63 cp137)), (4, (.p g655)), (0, (.q Y59 ch_0_0 ch_0_1 x1)), (2, (.q (Ty.arr .u64 4) ch_2_0 ch_2_1 x3))] [Res.row Y38 38 A10 nn63 cp137 y473, Res.cells g655 34 [.b20 x2]] a w ∧ smithyref29_Find.l5 x1 x3 y194 y383 y472 y529 y530 (smithyref29_Find.l4 k x1 x3 y194 y383 y472 y473 (smithyref29_Find.l3 k x1 x2 x3 y194 y383 (smithyref29_Find.l2 k x1 x2 x3 y194 (smithyref29_Find.l1 k x1 x2 x3 q1) q2) q3) q4) q5 y547 y548 = some r) ?_ ?_ (k := k) ⟨_, 0, false, g640, (S.sb rfl (.c0 (.c0 .n))), h1⟩
         ·rintro a w ⟨m, y547, y548, g655, S, h0⟩
          exact (nomatch (show (none : Option ((List L38))) = some r from h0))
         ·clear S h1
          rintro q5 a w ⟨m, y547, y548, g655, S, h0⟩
          replace h0 : smithyref29_Find.b5 x1 x3 y194 y383 y472 y529 y530 (smithyref29_Find.l4 k x1 x3 y194 y383 y472 y473 (smithyref29_Find.l3 k x1 x2 x3 y194 y383 (smithyref29_Find.l2 k x1 x2 x3 y194 (smithyref29_Find.l1 k x1 x2 x3 q1) q2) q3) q4) (smithyref29_Find.l5 x1 x3 y194 y383 y472 y529 y530 (smithyref29_Find.l4 k x1 x3 y194 y383 y472 y473 (smithyref29_Find.l3 k x1 x2 x3 y194 y383 (smithyref29_Find.l2 k x1 x2 x3 y194 (smithyref29_Find.l1 k x1 x2 x3 q1) q2) q3) q4) q5) y547 y548 = some r := h0
          delta smithyref29_Find.b5 at h0
          refine c_region (s_bin S rfl rfl rfl rfl fun a S => c_end (wp_seq ?_))
          rcases ite_of h0 with ⟨c11, h1⟩ | ⟨c11, h1⟩
          ·refine c_condT S rfl c11 (wp_skip (x_thenN (wp_seq_k fun K8 hK8 => ?_)))
           have j8 : ∀ m y549 g656 a w, St 100 m b0 [(14, (.b y549)), (63, (.i y547)), (62, (.i (((gt ((gt ((gt x1 y194).2.2.2) y383).2.2.2.2.2.2.1) y472).2.1).length : Int))), (13, (.i y529)), (54, (.i y529)), (53, (.i ((x3).length : Int))), (12, (.b y530)), (11, (.i y472)), (42, (.i y472)), (41, (.i (((gt ((gt x1 y194).2.2.2) y383).2.2.2.2.2.2.1).length : Int))), (10, (.q Y38 A9 cp136 ((gt ((gt x1 y194).2.2.2) y383).2.2.2.2.2.2.1))), (28, (.i y383)), (27, (.i (((gt x1 y194).2.2.2).length : Int))), (8, (.i y194)), (19, (.i y194)), (18, (.i ((x1).length : Int))), (7, (.s A10 nn63 cp137)), (4, (.p g656)), (0, (.q Y59 ch_0_0 ch_0_1 x1)), (2, (.q (Ty.arr .u64 4) ch_2_0 ch_2_1 x3))] [Res.row Y38 38 A10 nn63 cp137 y473, Res.cells g656 34 [.b20 x2]] a w → smithyref29_Find.j8 y547 (smithyref29_Find.l5 x1 x3 y194 y383 y472 y529 y530 (smithyref29_Find.l4 k x1 x3 y194 y383 y472 y473 (smithyref29_Find.l3 k x1 x2 x3 y194 y383 (smithyref29_Find.l2 k x1 x2 x3 y194 (smithyref29_Find.l1 k x1 x2 x3 q1) q2) q3) q4) q5) y549 = some r → K8 a w := by
            intro m y549 g656 a w S h0
            delta smithyref29_Find.j8 at h0
            refine hK8 a w (c_region' (s_bin S rfl rfl rfl rfl fun a S => s_move S rfl rfl fun a S => c_end' (x_thenN ?_)))
            exact ⟨_, (wr .i64 (y547 + 1)), y549, g656, (S.sb rfl (.c0 (.c0 .n))), h0⟩
           refine wp_block (c_region (s_move S rfl rfl fun a S => s_assign S rfl rfl fun a S => c_end (c_heldS S (.alts (.run 0 true (.take 1 (.take 2 (.take 3 (.take 4 (.take 5 (.take 6 (.take 7 (.take 8 (.take 9 (.take 10 (.take 11 (.take 12 (.take 13 (.take 14 (.take 15 (.take 16 .done)))))))))))))))) .nil)) 17 [Res.cells g655 34 [.b20 x2]] (.c1 .n) ⟨Res.stay_cells, trivial⟩ [(15, (.i y547)), (13, (.i y529)), (11, (.i y472)), (10, (.q Y38 A9 cp136 ((gt ((gt x1 y194).2.2.2) y383).2.2.2.2.2.2.1))), (2, (.q (Ty.arr .u64 4) ch_2_0 ch_2_1 x3))] (subR rfl) (by kernel_rfl) (by kernel_rfl) fun w S CL hw le => ?_)))
           refine h_run' S rfl trivial (s_move S rfl rfl fun a S => CL.bk hw S (.c1 .n) le fun hw => ?_)
           replace CL := CL.add (t := 66) (d := (.b y548)) S rfl rfl
           refine h_move S CL hw le (subR rfl) rfl rfl rfl trivial fun a S CL => ?_
           rcases ite_of h1 with ⟨c12, h2⟩ | ⟨c12, h2⟩
           ·refine h_skip S CL rfl rfl rfl (ne_bool c12) rfl fun a S CL => h_skip S CL rfl rfl rfl (ne_bool c12) rfl fun a S CL => h_skip S CL rfl rfl rfl (ne_bool c12) rfl fun a S CL => h_skip S CL rfl rfl rfl (ne_bool c12) rfl fun a S CL => h_skip S CL rfl rfl rfl (ne_bool c12) rfl fun a S CL => h_skip S CL rfl rfl rfl (ne_bool c12) rfl fun a S CL => h_skip S CL rfl rfl rfl (ne_bool c12) rfl fun a S CL => h_skip S CL rfl rfl rfl (ne_bool c12) rfl fun a S CL => h_skip S CL rfl rfl rfl (ne_bool c12) rfl fun a S CL => h_skip S CL rfl rfl rfl (ne_bool c12) rfl fun a S CL => h_skip S CL rfl rfl rfl (ne_bool c12) rfl fun a S CL => h_skip S CL rfl rfl rfl (ne_bool c12) rfl fun a S CL => h_skip S CL rfl rfl rfl (ne_bool c12) rfl fun a S CL => h_pick S CL hw le (subR rfl) (b := true) (hc_of rfl c12) rfl rfl rfl trivial fun a S CL => h_assign S CL hw le (subR rfl) rfl rfl rfl trivial fun a S CL => ?_
            refine h_done ?_; clear CL hw le
            refine x_blockN (x_thenN ?_)
            exact j8 _ true g655 a w (S.sb rfl (.c0 (.c0 .n))) h2
           ·refine h_move S CL hw le (subR rfl) rfl rfl rfl ⟨_, _, rfl, rfl, c12⟩ fun a S CL => h_move S CL hw le (subR rfl) rfl rfl rfl ⟨_, _, rfl, rfl, c12⟩ fun a S CL => h_iaddrS S CL hw le (subR rfl) rfl rfl rfl underlying22 T38 c6.1 c6.2 rfl rfl ⟨_, _, rfl, rfl, c12⟩ fun p15 a S CL => h_faddrP S CL hw le (subR rfl) (tF := (Ty.slice (Ty.arr .u64 4))) (y := (gt ((gt ((gt x1 y194).2.2.2) y383).2.2.2.2.2.2.1) y472).2.1) rfl I38_1 T35 (by decide) (fun m h => (at_fst (at_snd (at_0 h)))) rfl rfl ⟨_, _, rfl, rfl, c12⟩ fun a S CL => h_ldS S CL hw le (subR rfl) (fun c => c) rfl T35 (fun _ => rfl) rfl rfl ⟨_, _, rfl, rfl, c12⟩ fun A14 cp144 a S CL => h_move S CL hw le (subR rfl) rfl rfl rfl ⟨_, _, rfl, rfl, c12⟩ fun a S CL => ?_
            obtain ⟨c13, h3⟩ := chk_of h2; clear h2
            refine h_iaddrS S CL hw le (subR rfl) rfl rfl rfl underlying35 T53 c13.1 c13.2 rfl rfl ⟨_, _, rfl, rfl, c12⟩ fun p16 a S CL => h_ldA S CL hw le (subR rfl) (fun (c : Unit) => [.w4 (gt ((gt ((gt ((gt x1 y194).2.2.2) y383).2.2.2.2.2.2.1) y472).2.1) y547)]) rfl T53 (fun _ => rfl) rfl rfl ⟨_, _, rfl, rfl, c12⟩ fun ch3 a S CL => ?_
            refine h_move S CL hw le (subR rfl) rfl rfl rfl ⟨_, _, rfl, rfl, c12⟩ fun a S CL => h_move S CL hw le (subR rfl) rfl rfl rfl ⟨_, _, rfl, rfl, c12⟩ fun a S CL => ?_
            obtain ⟨c14, h4⟩ := chk_of h3; clear h3
            refine h_iaddrS S CL hw le (subR rfl) rfl rfl rfl underlying35 T53 c14.1 c14.2 rfl rfl ⟨_, _, rfl, rfl, c12⟩ fun p17 a S CL => h_ldA S CL hw le (subR rfl) (fun (c : Unit) => [.w4 (gt x3 y529)]) rfl T53 (fun _ => rfl) rfl rfl ⟨_, _, rfl, rfl, c12⟩ fun ch4 a S CL => ?_
            refine h_eqa S CL hw le (subR rfl) rfl rfl underlying53 underlying51 T51 Q53 rfl rfl ⟨_, _, rfl, rfl, c12⟩ fun a S CL => h_pick S CL hw le (subR rfl) (b := false) (hc_of rfl c12) rfl rfl rfl trivial fun a S CL => h_assign S CL hw le (subR rfl) rfl rfl rfl trivial fun a S CL => ?_
            refine h_done ?_; clear CL hw le
            refine x_blockN (x_thenN ?_)
            exact j8 _ (decide (gt ((gt ((gt ((gt x1 y194).2.2.2) y383).2.2.2.2.2.2.1) y472).2.1) y547 = gt x3 y529)) g655 a w (S.sb rfl (.c0 (.c0 .n))) h4
          ·refine c_condF S rfl c11 (wp_exit (x_thenX (x_thenX (x_blockX (x_thenN ?_)))))
           exact j7 _ y548 g655 a w (S.sb rfl (.c0 (.c0 .n))) h1
        ·refine c_condF S rfl c9 (wp_exit (x_thenX (x_thenX (x_blockX (x_thenN ?_)))))
         exact j5 _ y530 g640 a w (S.sb rfl (.c0 (.c0 .n))) h1
      ·refine c_condF S rfl c5 (wp_exit (x_thenX (x_thenX (x_blockX (x_blockN (x_thenN ?_))))))
       exact j3 _ A10 nn63 cp137 y473 g590 a w (S.sb rfl (.c0 (.c0 .n))) h1
    ·refine c_condF S rfl c3 (wp_exit (x_thenX (x_thenX (x_blockX (x_blockN (x_thenN ?_))))))
     exact j2 _ A5 nn54 cp114 y384 g511 a w (S.sb rfl (.c0 (.c0 .n))) h1
  ·refine c_condF S rfl c1 (wp_exit (x_thenX (x_thenX (x_blockX (x_thenN ?_)))))
   exact j1 _ A2 nn29 cp59 y195 a w (S.sub ⟨rfl, trivial⟩ (.c0 .n)) h1
end
end GW
