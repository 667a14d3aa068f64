import Derived.Test.YtldbgghcailgfaaProg
import Derived.Test.YtldbgghcailgfaaGWBrev
set_option linter.unusedVariables false
set_option linter.unusedSimpArgs false
set_option maxRecDepth 10000
set_option maxHeartbeats 4000000
namespace GW
open Go Go.RowKit Go.Proofs Go.Proofs.Try
noncomputable section
abbrev L34 : Type := (List Int) × Int × (List Int) × (List Int) × (List ((List Int) × (List Int)))
abbrev Y71 : Ty ((List Int) × (List Int)) := (Ty.prod (Ty.arr .u64 4) (Ty.arr .u64 4))
abbrev Y34 : Ty L34 := (Ty.prod (Ty.arr .u8 20) (Ty.prod (Ty.int .u64) (Ty.prod (Ty.arr .u64 4) (Ty.prod (Ty.slice (Ty.int .u8)) (Ty.slice Y71)))))
theorem T34 : tyI Try.prog 34 = some (true, 27) := by kernel_rfl
theorem I34_3 : fieldI Try.prog 34 3 = some (25, 24) := by kernel_rfl
theorem T24 : tyI Try.prog 24 = some (false, 1) := by kernel_rfl
theorem I34_4 : fieldI Try.prog 34 4 = some (26, 32) := by kernel_rfl
theorem T32 : tyI Try.prog 32 = some (false, 1) := by kernel_rfl
theorem N7 : Fn_ Try.prog 7 := ⟨_, func7, rfl, by decide⟩
theorem P76 : ∀ w : World, ((match Try.prog.underlying 76 with | some (.struct fs) => fs | _ => (#[] : Array Field)).mapM fun (f : Field) => (do pure (f.offset, ← Go.sizeOf f.type) : Sem (Nat × Nat))).run Try.prog w = .ok #[(0, 1), (1, 1)] w := fun _ => by kernel_rfl
theorem Z76 : zeroI Try.prog 76 = some (D.val (.agg [.one (.map none), .one (.map none)])) := by kernel_rfl
theorem N10 : Fn_ Try.prog 10 := ⟨_, func10, rfl, by decide⟩
theorem Z28 : zeroI Try.prog 28 = some (D.val (.agg [.b20 z20])) := by kernel_rfl
theorem T28 : tyI Try.prog 28 = some (true, 20) := by kernel_rfl
theorem I76_0 : fieldI Try.prog 76 0 = some (0, 73) := by kernel_rfl
theorem T73 : tyI Try.prog 73 = some (false, 1) := by kernel_rfl
theorem T5 : tyI Try.prog 5 = some (false, 1) := by kernel_rfl
theorem KT28 : KeyT Try.prog 28 true (Ty.arr .u8 20) := keyT_arr underlying28 underlying5 T5 T28
theorem Z34 : zeroI Try.prog 34 = some (D.val (.agg [.b20 z20, .w 0, .w4 [0, 0, 0, 0], .s none 0 0, .s none 0 0])) := by kernel_rfl
theorem I76_1 : fieldI Try.prog 76 1 = some (1, 74) := by kernel_rfl
theorem T74 : tyI Try.prog 74 = some (false, 1) := by kernel_rfl
theorem Z3 : zeroI Try.prog 3 = some (D.val (.i 0)) := by kernel_rfl
theorem N12 : Fn_ Try.prog 12 := ⟨_, func12, rfl, by decide⟩
theorem N13 : Fn_ Try.prog 13 := ⟨_, func13, rfl, by decide⟩
theorem N8 : Fn_ Try.prog 8 := ⟨_, func8, rfl, by decide⟩
theorem T71 : tyI Try.prog 71 = some (true, 8) := by kernel_rfl
theorem I71_1 : fieldI Try.prog 71 1 = some (4, 31) := by kernel_rfl
theorem T31 : tyI Try.prog 31 = some (true, 4) := by kernel_rfl
theorem T29 : tyI Try.prog 29 = some (false, 1) := by kernel_rfl
theorem Q31 : Try.prog.eqGuardType Try.prog.depth 31 = false := by kernel_rfl
theorem I71_0 : fieldI Try.prog 71 0 = some (0, 31) := by kernel_rfl
theorem Z94 : zeroI Try.prog 94 = some (D.val (.agg [.ints .i64 z32 32])) := by kernel_rfl
theorem T94 : tyI Try.prog 94 = some (true, 32) := by kernel_rfl
theorem T3 : tyI Try.prog 3 = some (false, 1) := by kernel_rfl
theorem N41 : Fn_ Try.prog 41 := ⟨_, func41, rfl, by decide⟩
theorem N40 : Fn_ Try.prog 40 := ⟨_, func40, rfl, by decide⟩
theorem N29 : Fn_ Try.prog 29 := ⟨_, func29, rfl, by decide⟩
theorem N9 : Fn_ Try.prog 9 := ⟨_, func9, rfl, by decide⟩
theorem I34_0 : fieldI Try.prog 34 0 = some (0, 28) := by kernel_rfl
theorem Q28 : Try.prog.eqGuardType Try.prog.depth 28 = false := by kernel_rfl
theorem P34 : ∀ w : World, ((match Try.prog.underlying 34 with | some (.struct fs) => fs | _ => (#[] : Array Field)).mapM fun (f : Field) => (do pure (f.offset, ← Go.sizeOf f.type) : Sem (Nat × Nat))).run Try.prog w = .ok #[(0, 20), (20, 1), (21, 4), (25, 1), (26, 1)] w := fun _ => by kernel_rfl
theorem N11 : Fn_ Try.prog 11 := ⟨_, func11, rfl, by decide⟩
theorem Z71 : zeroI Try.prog 71 = some (D.val (.agg [.w4 [0, 0, 0, 0], .w4 [0, 0, 0, 0]])) := by kernel_rfl
theorem N42 : Fn_ Try.prog 42 := ⟨_, func42, rfl, by decide⟩
theorem N30 : Fn_ Try.prog 30 := ⟨_, func30, rfl, by decide⟩
theorem J5 : appI Try.prog 5 = some (1, 1) := by kernel_rfl
theorem Z5 : zeroI Try.prog 5 = some (D.val (.v (.int .u8 0))) := by kernel_rfl
theorem N43 : Fn_ Try.prog 43 := ⟨_, func43, rfl, by decide⟩
theorem J71 : appI Try.prog 71 = some (8, 64) := by kernel_rfl
theorem N44 : Fn_ Try.prog 44 := ⟨_, func44, rfl, by decide⟩
theorem N31 : Fn_ Try.prog 31 := ⟨_, func31, rfl, by decide⟩
theorem N14 : Fn_ Try.prog 14 := ⟨_, func14, rfl, by decide⟩
theorem N15 : Fn_ Try.prog 15 := ⟨_, func15, rfl, by decide⟩
theorem I34_1 : fieldI Try.prog 34 1 = some (20, 29) := by kernel_rfl
theorem I34_2 : fieldI Try.prog 34 2 = some (21, 31) := by kernel_rfl
theorem E31 : EqTy Try.prog 31 true (Ty.arr .u64 4) 3 := eqTy_arr underlying31 underlying29 T29 T31
theorem E71 : EqTy Try.prog 71 true Y71 4 := eqTy_struct (fs := [("Key", 0, 31), ("Value", 4, 31)]) (by kernel_rfl) (by kernel_rfl) T71 (by kernel_rfl) (eqF_cons (nm := "Key") (E31.mono (by decide : 3 ≤ 3)) (by decide) noints_agg (fun h => by cases h) rfl (eqF_one (nm := "Value") (E31.mono (by decide : 3 ≤ 3)) (by decide) noints_agg (fun h => by cases h)))
theorem Q71 : Try.prog.eqGuardType Try.prog.depth 71 = false := by kernel_rfl
theorem N16 : Fn_ Try.prog 16 := ⟨_, func16, rfl, by decide⟩
theorem J34 : appI Try.prog 34 = some (27, 112) := by kernel_rfl
abbrev Y66 : Ty ((List Int) × Int) := (Ty.prod (Ty.arr .u8 20) (Ty.int .i64))
theorem P51 : ∀ w : World, ((match Try.prog.underlying 51 with | some (.struct fs) => fs | _ => (#[] : Array Field)).mapM fun (f : Field) => (do pure (f.offset, ← Go.sizeOf f.type) : Sem (Nat × Nat))).run Try.prog w = .ok #[(0, 1), (1, 1)] w := fun _ => by kernel_rfl
theorem Z51 : zeroI Try.prog 51 = some (D.val (.agg [.s none 0 0, .s none 0 0])) := by kernel_rfl
theorem T51 : tyI Try.prog 51 = some (true, 2) := by kernel_rfl
theorem I51_0 : fieldI Try.prog 51 0 = some (0, 22) := by kernel_rfl
theorem T22 : tyI Try.prog 22 = some (false, 1) := by kernel_rfl
theorem I51_1 : fieldI Try.prog 51 1 = some (1, 49) := by kernel_rfl
theorem T49 : tyI Try.prog 49 = some (false, 1) := by kernel_rfl
theorem T66 : tyI Try.prog 66 = some (true, 21) := by kernel_rfl
theorem I66_0 : fieldI Try.prog 66 0 = some (0, 28) := by kernel_rfl
theorem N24 : Fn_ Try.prog 24 := ⟨_, func24, rfl, by decide⟩
theorem J66 : appI Try.prog 66 = some (21, 32) := by kernel_rfl
theorem Z66 : zeroI Try.prog 66 = some (D.val (.agg [.b20 z20, .i 0])) := by kernel_rfl
theorem P66 : ∀ w : World, ((match Try.prog.underlying 66 with | some (.struct fs) => fs | _ => (#[] : Array Field)).mapM fun (f : Field) => (do pure (f.offset, ← Go.sizeOf f.type) : Sem (Nat × Nat))).run Try.prog w = .ok #[(0, 20), (20, 1)] w := fun _ => by kernel_rfl
theorem N19 : Fn_ Try.prog 19 := ⟨_, func19, rfl, by decide⟩
theorem N36 : Fn_ Try.prog 36 := ⟨_, func36, rfl, by decide⟩
theorem N46 : Fn_ Try.prog 46 := ⟨_, func46, rfl, by decide⟩
theorem N37 : Fn_ Try.prog 37 := ⟨_, func37, rfl, by decide⟩
theorem N20 : Fn_ Try.prog 20 := ⟨_, func20, rfl, by decide⟩
def txt0 : ByteArray := ByteArray.mk #[0, 1, 2, 2, 3, 3, 3, 3, 4, 4, 4, 4, 4, 4, 4, 4, 5, 5, 5, 5, 5, 5, 5, 5, 5, 5, 5, 5, 5, 5, 5, 5, 6, 6, 6, 6, 6, 6, 6, 6, 6, 6, 6, 6, 6, 6, 6, 6, 6, 6, 6, 6, 6, 6, 6, 6, 6, 6, 6, 6, 6, 6, 6, 6, 7, 7, 7, 7, 7, 7, 7, 7, 7, 7, 7, 7, 7, 7, 7, 7, 7, 7, 7, 7, 7, 7, 7, 7, 7, 7, 7, 7, 7, 7, 7, 7, 7, 7, 7, 7, 7, 7, 7, 7, 7, 7, 7, 7, 7, 7, 7, 7, 7, 7, 7, 7, 7, 7, 7, 7, 7, 7, 7, 7, 7, 7, 7, 7, 8, 8, 8, 8, 8, 8, 8, 8, 8, 8, 8, 8, 8, 8, 8, 8, 8, 8, 8, 8, 8, 8, 8, 8, 8, 8, 8, 8, 8, 8, 8, 8, 8, 8, 8, 8, 8, 8, 8, 8, 8, 8, 8, 8, 8, 8, 8, 8, 8, 8, 8, 8, 8, 8, 8, 8, 8, 8, 8, 8, 8, 8, 8, 8, 8, 8, 8, 8, 8, 8, 8, 8, 8, 8, 8, 8, 8, 8, 8, 8, 8, 8, 8, 8, 8, 8, 8, 8, 8, 8, 8, 8, 8, 8, 8, 8, 8, 8, 8, 8, 8, 8, 8, 8, 8, 8, 8, 8, 8, 8, 8, 8, 8, 8, 8, 8, 8, 8, 8, 8, 8, 8, 8, 8, 8, 8, 8, 8]
theorem N59 : Fn_ Try.prog 59 := ⟨_, func59, rfl, by decide⟩
theorem N48 : Fn_ Try.prog 48 := ⟨_, func48, rfl, by decide⟩
theorem X60 : isCmp Try.prog 60 := ⟨_, func60, by kernel_rfl, by kernel_rfl, by kernel_rfl, by kernel_rfl⟩
theorem N49 : Fn_ Try.prog 49 := ⟨_, func49, rfl, by decide⟩
theorem N39 : Fn_ Try.prog 39 := ⟨_, func39, rfl, by decide⟩
theorem N50 : Fn_ Try.prog 50 := ⟨_, func50, rfl, by decide⟩
theorem N61 : Fn_ Try.prog 61 := ⟨_, func61, rfl, by decide⟩
theorem N51 : Fn_ Try.prog 51 := ⟨_, func51, rfl, by decide⟩
theorem N66 : Fn_ Try.prog 66 := ⟨_, func66, rfl, by decide⟩
theorem N65 : Fn_ Try.prog 65 := ⟨_, func65, rfl, by decide⟩
theorem N64 : Fn_ Try.prog 64 := ⟨_, func64, rfl, by decide⟩
theorem N53 : Fn_ Try.prog 53 := ⟨_, func53, rfl, by decide⟩
theorem N54 : Fn_ Try.prog 54 := ⟨_, func54, rfl, by decide⟩
theorem N55 : Fn_ Try.prog 55 := ⟨_, func55, rfl, by decide⟩
theorem N56 : Fn_ Try.prog 56 := ⟨_, func56, rfl, by decide⟩
theorem N57 : Fn_ Try.prog 57 := ⟨_, func57, rfl, by decide⟩
theorem N47 : Fn_ Try.prog 47 := ⟨_, func47, rfl, by decide⟩
theorem Z115 : zeroI Try.prog 115 = some (D.val (.w 0)) := by kernel_rfl
theorem T115 : tyI Try.prog 115 = some (false, 1) := by kernel_rfl
theorem N62 : Fn_ Try.prog 62 := ⟨_, func62, rfl, by decide⟩
theorem N63 : Fn_ Try.prog 63 := ⟨_, func63, rfl, by decide⟩
theorem N52 : Fn_ Try.prog 52 := ⟨_, func52, rfl, by decide⟩
theorem P80 : ∀ w : World, ((match Try.prog.underlying 80 with | some (.struct fs) => fs | _ => (#[] : Array Field)).mapM fun (f : Field) => (do pure (f.offset, ← Go.sizeOf f.type) : Sem (Nat × Nat))).run Try.prog w = .ok #[(0, 1), (1, 1)] w := fun _ => by kernel_rfl
theorem Z80 : zeroI Try.prog 80 = some (D.val (.agg [.i 0, .one (.map none)])) := by kernel_rfl
abbrev Y73 : Ty (List ((List Int) × L34)) := (Ty.fmap true (Ty.arr .u8 20) true Y34)
theorem J80 : appI Try.prog 80 = some (2, 16) := by kernel_rfl
theorem P83 : ∀ w : World, ((match Try.prog.underlying 83 with | some (.struct fs) => fs | _ => (#[] : Array Field)).mapM fun (f : Field) => (do pure (f.offset, ← Go.sizeOf f.type) : Sem (Nat × Nat))).run Try.prog w = .ok #[(0, 1)] w := fun _ => by kernel_rfl
theorem Z83 : zeroI Try.prog 83 = some (D.val (.agg [.s none 0 0])) := by kernel_rfl
abbrev L81 : Type := List (Int × (List ((List Int) × L34)))
theorem N17 : Fn_ Try.prog 17 := ⟨_, func17, rfl, by decide⟩
theorem I83_0 : fieldI Try.prog 83 0 = some (0, 81) := by kernel_rfl
theorem T81 : tyI Try.prog 81 = some (false, 1) := by kernel_rfl
theorem N32 : Fn_ Try.prog 32 := ⟨_, func32, rfl, by decide⟩
theorem N34 : Fn_ Try.prog 34 := ⟨_, func34, rfl, by decide⟩
theorem N45 : Fn_ Try.prog 45 := ⟨_, func45, rfl, by decide⟩
theorem N33 : Fn_ Try.prog 33 := ⟨_, func33, rfl, by decide⟩
theorem T80 : tyI Try.prog 80 = some (true, 2) := by kernel_rfl
theorem I80_1 : fieldI Try.prog 80 1 = some (1, 73) := by kernel_rfl
theorem N35 : Fn_ Try.prog 35 := ⟨_, func35, rfl, by decide⟩
theorem N18 : Fn_ Try.prog 18 := ⟨_, func18, rfl, by decide⟩
theorem P89 : ∀ w : World, ((match Try.prog.underlying 89 with | some (.struct fs) => fs | _ => (#[] : Array Field)).mapM fun (f : Field) => (do pure (f.offset, ← Go.sizeOf f.type) : Sem (Nat × Nat))).run Try.prog w = .ok #[(0, 1), (1, 1), (2, 1)] w := fun _ => by kernel_rfl
theorem Z89 : zeroI Try.prog 89 = some (D.val (.agg [.one (.pointer none), .i 0, .one (.pointer none)])) := by kernel_rfl
theorem N21 : Fn_ Try.prog 21 := ⟨_, func21, rfl, by decide⟩
theorem I89_0 : fieldI Try.prog 89 0 = some (0, 44) := by kernel_rfl
theorem T44 : tyI Try.prog 44 = some (false, 1) := by kernel_rfl
theorem I89_1 : fieldI Try.prog 89 1 = some (1, 3) := by kernel_rfl
theorem I80_0 : fieldI Try.prog 80 0 = some (0, 3) := by kernel_rfl
theorem N86 : Fn_ Try.prog 86 := ⟨_, func86, rfl, by decide⟩
theorem N85 : Fn_ Try.prog 85 := ⟨_, func85, rfl, by decide⟩
theorem I89_2 : fieldI Try.prog 89 2 = some (2, 36) := by kernel_rfl
theorem T36 : tyI Try.prog 36 = some (false, 1) := by kernel_rfl
theorem N84 : Fn_ Try.prog 84 := ⟨_, func84, rfl, by decide⟩
theorem M89_Account : methI Try.prog 89 "Account" = some 84 := by kernel_rfl
def Gd28 : (List Int) → Prop := fun xs => xs.length = 20 ∧ ∀ y ∈ xs, inK .u8 y
def Gd29 : Int → Prop := fun x => inK .u64 x
def Gd31 : (List Int) → Prop := fun xs => xs.length = 4 ∧ ∀ y ∈ xs, inK .u64 y
def Gd5 : Int → Prop := fun x => inK .u8 x
def Gd24 : (List Int) → Prop := fun xs => (∀ y ∈ xs, Gd5 y) ∧ xs.length ≤ maxLen
def Gd71 : ((List Int) × (List Int)) → Prop := fun y => Gd31 y.1 ∧ (Gd31 y.2)
def Gd32 : (List ((List Int) × (List Int))) → Prop := fun xs => (∀ y ∈ xs, Gd71 y) ∧ xs.length ≤ maxLen
def Gd34 : L34 → Prop := fun y => Gd28 y.1 ∧ (Gd29 y.2.1 ∧ (Gd31 y.2.2.1 ∧ (Gd24 y.2.2.2.1 ∧ (Gd32 y.2.2.2.2))))
def Gd22 : (List L34) → Prop := fun xs => (∀ y ∈ xs, Gd34 y) ∧ xs.length ≤ maxLen
abbrev smithyref13_Great.Ty : Type := (List L34) → Option Bool
def smithyref13_Great.Ctr (s : smithyref13_Great.Ty) : Prop := ∀ (x1 : List L34) (ch_0_0 : Option Addr) (ch_0_1 : Nat) (r : Bool), Ct (C := Unit) Try.prog 7 (s x1 = some r) [] [(.q Y34 ch_0_0 ch_0_1 x1)] (fun _ => (.b r)) fun _ => []
def smithyref13_Great.j1 : Option Bool := some false
def smithyref13_Great.j2 (y1 : Int) (rec1 : Int → Option Bool) (y2 : Bool) : Option Bool := if y2 = true then (some true) else (rec1 (wr .i64 (y1 + 1)))
def smithyref13_Great.b1 (x1 : List L34) (rec1 : Int → Option Bool) (y1 : Int) : Option Bool := if (decide (y1 < ((x1).length : Int))) = true then (if (0 : Int) ≤ y1 ∧ y1 < ((x1).length : Int) then (if (decide (3000 < (((gt x1 y1).2.2.2.1).length : Int))) = true then (smithyref13_Great.j2 y1 rec1 true) else (smithyref13_Great.j2 y1 rec1 (decide (100 < (((gt x1 y1).2.2.2.2).length : Int))))) else none) else smithyref13_Great.j1
def smithyref13_Great.l1 (x1 : List L34) : Nat → Int → Option Bool
  | 0, _ => none
  | q + 1, y1 => smithyref13_Great.b1 x1 (smithyref13_Great.l1 x1 q) y1
def smithyref13_Great.f (k : Nat) (x1 : List L34) : Option Bool := if (decide (50 < ((x1).length : Int))) = true then (some true) else (smithyref13_Great.l1 x1 k 0)
theorem smithyref13_Great.ok (k : Nat) : smithyref13_Great.Ctr (smithyref13_Great.f k) := by
 intro x1 ch_0_0 ch_0_1 r h0 mi w0 ok hm
 delta smithyref13_Great.f at h0
 refine c_enterZ (n := 29) ok hm func7 rfl rfl rfl fun b0 hb a S => c_region (s_assign S rfl rfl fun a S => c_end (wp_seq (c_region (s_move S rfl rfl fun a S => s_lenS S rfl underlying22 rfl fun a S => s_bin S rfl rfl rfl rfl fun a S => c_end ?_))))
 rcases ite_of h0 with ⟨c1, h1⟩ | ⟨c1, h1⟩
 ·refine c_condT S rfl c1 (c_region (s_assign S rfl rfl fun a S => c_end (wp_ret (x_thenR ?_))))
  obtain rfl := Option.some.inj h1
  exact b_ret1 (d := (.b true)) S rfl rfl (S.rt hb)
 ·refine c_condF S rfl c1 (wp_skip (x_thenN (wp_seq_k fun K1 hK1 => ?_)))
  have j1 : ∀ m a w, St 29 m b0 [] [] a w → smithyref13_Great.j1 = some r → K1 a w := by
   intro m a w S h0
   delta smithyref13_Great.j1 at h0
   refine hK1 a w (c_region (s_assign S rfl rfl fun a S => c_end (wp_ret ?_)))
   obtain rfl := Option.some.inj h0
   exact b_ret1 (d := (.b false)) S rfl rfl (S.rt hb)
  refine c_region (s_move S rfl rfl fun a S => s_lenS S rfl underlying22 rfl fun a S => s_move S rfl rfl fun a S => c_end (wp_block ?_))
  refine c_loop (fun q1 a w => ∃ m y1, St 29 m b0 [(9, (.i y1)), (8, (.i ((x1).length : Int))), (0, (.q Y34 ch_0_0 ch_0_1 x1))] [] a w ∧ smithyref13_Great.l1 x1 q1 y1 = some r) ?_ ?_ (k := k) ⟨_, 0, (S.sb rfl .nil), h1⟩
  ·rintro a w ⟨m, y1, S, h0⟩
   exact (nomatch (show (none : Option Bool) = some r from h0))
  ·clear S h1
   rintro q1 a w ⟨m, y1, S, h0⟩
   replace h0 : smithyref13_Great.b1 x1 (smithyref13_Great.l1 x1 q1) y1 = some r := h0
   delta smithyref13_Great.b1 at h0
   refine c_region (s_bin S rfl rfl rfl rfl fun a S => c_end (wp_seq ?_))
   rcases ite_of h0 with ⟨c2, h1⟩ | ⟨c2, h1⟩
   ·refine c_condT S rfl c2 (wp_skip (x_thenN (wp_seq (wp_block (c_region (s_move S rfl rfl fun a S => s_assign S rfl rfl fun a S => c_end (wp_seq_k fun K2 hK2 => ?_)))))))
    have j2 : ∀ m y2 a w, St 29 m b0 [(27, (.b y2)), (9, (.i y1)), (8, (.i ((x1).length : Int))), (0, (.q Y34 ch_0_0 ch_0_1 x1))] [] a w → smithyref13_Great.j2 y1 (smithyref13_Great.l1 x1 q1) y2 = some r → K2 a w := by
     intro m y2 a w S h0
     delta smithyref13_Great.j2 at h0
     refine hK2 a w ?_
     rcases ite_of h0 with ⟨c3, h1⟩ | ⟨c3, h1⟩
     ·refine c_condT S rfl c3 (c_region (s_assign S rfl rfl fun a S => c_end (wp_ret (x_blockR (x_thenR (x_thenR (x_blockR (x_thenR ?_))))))))
      obtain rfl := Option.some.inj h1
      exact b_ret1 (d := (.b true)) S rfl rfl (S.rt hb)
     ·refine c_condF S rfl c3 (wp_skip (x_blockN (x_thenN (c_region' (s_bin S rfl rfl rfl rfl fun a S => s_move S rfl rfl fun a S => c_end' (x_thenN ?_))))))
      exact ⟨_, (wr .i64 (y1 + 1)), (S.sb rfl .nil), h1⟩
    refine c_region' (s_move S rfl rfl fun a S => s_move S rfl rfl fun a S => ?_)
    obtain ⟨c4, h2⟩ := chk_of h1; clear h1
    refine s_iaddrS S rfl rfl rfl underlying22 T34 c4.1 c4.2 rfl fun p1 a S => s_faddrP S (tF := (Ty.slice yb)) (y := (gt x1 y1).2.2.2.1) rfl I34_3 T24 (by decide) (fun m h => (at_fst (at_snd (at_snd (at_snd (at_0 h)))))) rfl fun a S => s_ldS S (fun c => c) rfl T24 (fun _ => rfl) rfl fun A1 cp1 a S => s_lenS S rfl underlying24 rfl fun a S => s_bin S rfl rfl rfl rfl fun a S => s_move S rfl rfl fun a S => ?_
    rcases ite_of h2 with ⟨c5, h3⟩ | ⟨c5, h3⟩
    ·refine s_gF S (b := (decide (3000 < (((gt x1 y1).2.2.2.1).length : Int)))) rfl rfl c5 rfl fun a S => s_gF S (b := (decide (3000 < (((gt x1 y1).2.2.2.1).length : Int)))) rfl rfl c5 rfl fun a S => s_gF S (b := (decide (3000 < (((gt x1 y1).2.2.2.1).length : Int)))) rfl rfl c5 rfl fun a S => s_gF S (b := (decide (3000 < (((gt x1 y1).2.2.2.1).length : Int)))) rfl rfl c5 rfl fun a S => s_gF S (b := (decide (3000 < (((gt x1 y1).2.2.2.1).length : Int)))) rfl rfl c5 rfl fun a S => s_gF S (b := (decide (3000 < (((gt x1 y1).2.2.2.1).length : Int)))) rfl rfl c5 rfl fun a S => s_gF S (b := (decide (3000 < (((gt x1 y1).2.2.2.1).length : Int)))) rfl rfl c5 rfl fun a S => s_pick S (b := true) (hc_of rfl c5) rfl rfl fun a S => c_end' (x_thenN ?_)
     exact j2 _ true a w (S.sb rfl .nil) h3
    ·refine s_gT S (b := (decide (3000 < (((gt x1 y1).2.2.2.1).length : Int)))) rfl rfl c5 (s_move S rfl rfl fun a S => s_gT S (b := (decide (3000 < (((gt x1 y1).2.2.2.1).length : Int)))) rfl rfl c5 (s_move S rfl rfl fun a S => s_gT S (b := (decide (3000 < (((gt x1 y1).2.2.2.1).length : Int)))) rfl rfl c5 (s_iaddrS S rfl rfl rfl underlying22 T34 c4.1 c4.2 rfl fun p2 a S => s_gT S (b := (decide (3000 < (((gt x1 y1).2.2.2.1).length : Int)))) rfl rfl c5 (s_faddrP S (tF := (Ty.slice Y71)) (y := (gt x1 y1).2.2.2.2) rfl I34_4 T32 (by decide) (fun m h => (at_snd (at_snd (at_snd (at_snd (at_0 h)))))) rfl fun a S => s_gT S (b := (decide (3000 < (((gt x1 y1).2.2.2.1).length : Int)))) rfl rfl c5 (s_ldS S (fun c => c) rfl T32 (fun _ => rfl) rfl fun A2 cp2 a S => s_gT S (b := (decide (3000 < (((gt x1 y1).2.2.2.1).length : Int)))) rfl rfl c5 (s_lenS S rfl underlying32 rfl fun a S => s_gT S (b := (decide (3000 < (((gt x1 y1).2.2.2.1).length : Int)))) rfl rfl c5 (s_bin S rfl rfl rfl rfl fun a S => s_pick S (b := false) (hc_of rfl c5) rfl rfl fun a S => c_end' (x_thenN ?_))))))))
     exact j2 _ (decide (100 < (((gt x1 y1).2.2.2.2).length : Int))) a w (S.sb rfl .nil) h3
   ·refine c_condF S rfl c2 (wp_exit (x_thenX (x_thenX (x_blockX (x_thenN ?_)))))
    exact j1 _ a w (S.sub trivial .nil) h1
abbrev fork_New.Ty : Type := Option (((List ((List Int) × L34)) × (List ((List Int) × Int))))
def fork_New.Ctr (s : fork_New.Ty) : Prop := ∀ (r : ((List ((List Int) × L34)) × (List ((List Int) × Int)))), Ct (C := (Nat × Nat × Nat)) Try.prog 10 (s = some r) [] [] (fun ch => (.v (.pointer (some ⟨ch.1, 0, none⟩)))) fun ch => [Res.cells ch.1 76 [.one (.map (some ch.2.1)), .one (.map (some ch.2.2))], Res.map true (Ty.arr .u8 20) true Y34 ch.2.1 r.1, Res.map true (Ty.arr .u8 20) false yi ch.2.2 r.2]
def fork_New.f : Option (((List ((List Int) × L34)) × (List ((List Int) × Int)))) := some (([] : List ((List Int) × L34)), ([] : List ((List Int) × Int)))
theorem fork_New.ok : fork_New.Ctr (fork_New.f) := by
 intro r h0 mi w0 ok hm
 delta fork_New.f at h0
 refine c_enterZ (n := 5) ok hm func10 rfl rfl rfl fun b0 hb a S => c_region (s_assign S rfl rfl fun a S => c_end (c_region (s_makeMap S true (Ty.arr .u8 20) true Y34 rfl fun g1 a w S => s_makeMap S true (Ty.arr .u8 20) false yi rfl fun g2 a w S => s_bldS S (ds := [(0, (.v (.map (some g1)))), (1, (.v (.map (some g2))))]) (zs := [.one (.map none), .one (.map none)]) (s' := [.one (.map (some g1)), .one (.map (some g2))]) rfl underlying76 P76 Z76 ⟨rfl, rfl, trivial⟩ rfl rfl fun a S => s_box S rfl rfl rfl fun g3 a w S => s_assign S rfl rfl fun a S => c_end (wp_ret ?_))))
 obtain rfl := Option.some.inj h0
 exact b_ret1 (d := (.p g3)) S rfl rfl fun ok => S.retX (Hx := []) hb _ _ ((g3, g1, g2) : Nat × Nat × Nat) (.c0 (.c1 (.c0 .n))) ok
abbrev fork_Cache_Want.Ty : Type := ((List ((List Int) × L34)) × (List ((List Int) × Int))) → (List Int) → Option (Int × ((List ((List Int) × L34)) × (List ((List Int) × Int))))
def fork_Cache_Want.Ctr (s : fork_Cache_Want.Ty) : Prop := ∀ (x1 : (List ((List Int) × L34)) × (List ((List Int) × Int))) (x2 : List Int) (ch_0_0 : Nat) (ch_0_1 : Nat) (ch_0_2 : Nat) (r : Int × ((List ((List Int) × L34)) × (List ((List Int) × Int)))), Ct (C := (Nat × Nat)) Try.prog 12 (s x1 x2 = some r) [Res.cells ch_0_0 76 [.one (.map (some ch_0_1)), .one (.map (some ch_0_2))], Res.map true (Ty.arr .u8 20) true Y34 ch_0_1 x1.1, Res.map true (Ty.arr .u8 20) false yi ch_0_2 x1.2] [(.p ch_0_0), (.agg [.b20 x2])] (fun _ => (.v (.int .u8 r.1))) fun ch => [Res.cells ch_0_0 76 [.one (.map (some ch.1)), .one (.map (some ch.2))], Res.map true (Ty.arr .u8 20) true Y34 ch.1 r.2.1, Res.map true (Ty.arr .u8 20) false yi ch.2 r.2.2]
abbrev zt1 : (List Int) × Int × (List Int) × (List Int) × (List ((List Int) × (List Int))) := ([0, 0, 0, 0, 0, 0, 0, 0, 0, 0, 0, 0, 0, 0, 0, 0, 0, 0, 0, 0], 0, [0, 0, 0, 0], ([] : List Int), ([] : List ((List Int) × (List Int))))
def fork_Cache_Want.j1 (x1 : (List ((List Int) × L34)) × (List ((List Int) × Int))) (x2 : List Int) : Option (Int × ((List ((List Int) × L34)) × (List ((List Int) × Int)))) := if ((lk (aget x1.1 x2) zt1).2) = true then (some (1, x1)) else (if ((lk (aget x1.2 x2) 0).2) = true then (some (2, x1)) else (some (3, (x1.1, aput x1.2 x2 0))))
def fork_Cache_Want.f (x1 : (List ((List Int) × L34)) × (List ((List Int) × Int))) (x2 : List Int) : Option (Int × ((List ((List Int) × L34)) × (List ((List Int) × Int)))) := fork_Cache_Want.j1 x1 x2
theorem fork_Cache_Want.ok : fork_Cache_Want.Ctr (fork_Cache_Want.f) := by
 intro x1 x2 ch_0_0 ch_0_1 ch_0_2 r h0 mi w0 ok hm
 delta fork_Cache_Want.f at h0
 refine c_enterZ (n := 36) ok hm func12 rfl rfl rfl fun b0 hb a S => c_region (s_box S rfl rfl rfl fun g1 a w S => s_assign S rfl rfl fun a S => c_end (wp_seq (c_region (s_move S rfl rfl fun a S => s_eqp S (b := false) rfl rfl underlying36 rfl rfl fun a S => c_end (c_condF S rfl rfl (wp_skip (x_thenN (wp_seq (wp_seq_k fun K1 hK1 => ?_)))))))))
 have j1 : ∀ m g3 a w, St 36 m b0 [(6, (.b ((lk (aget x1.1 x2) zt1).2))), (3, (.p g3)), (0, (.p ch_0_0))] [Res.cells g3 28 [.b20 x2], Res.cells ch_0_0 76 [.one (.map (some ch_0_1)), .one (.map (some ch_0_2))], Res.map true (Ty.arr .u8 20) true Y34 ch_0_1 x1.1, Res.map true (Ty.arr .u8 20) false yi ch_0_2 x1.2] a w → fork_Cache_Want.j1 x1 x2 = some r → K1 a w := by
  intro m g3 a w S h0
  delta fork_Cache_Want.j1 at h0
  refine hK1 a w (c_region (s_move S rfl rfl fun a S => c_end ?_))
  rcases ite_of h0 with ⟨c1, h1⟩ | ⟨c1, h1⟩
  ·refine c_condT S rfl c1 (c_region (s_assign S rfl rfl fun a S => c_end (wp_ret (x_thenR ?_))))
   obtain rfl := Option.some.inj h1
   exact b_ret1 (d := (.v (.int .u8 1))) S rfl rfl fun ok => S.retX (Hx := []) hb _ _ ((ch_0_1, ch_0_2) : Nat × Nat) (.c1 (.c1 (.c1 .n))) ok
  ·refine c_condF S rfl c1 (wp_skip (x_thenN (wp_seq ?_)))
   refine wp_seq (c_heldS S (.take 0 (.take 1 (.take 2 (.take 3 (.take 4 (.alts (.run 5 true (.take 6 (.take 7 (.take 8 (.take 9 (.take 10 .done))))) .nil))))))) 11 [Res.cells g3 28 [.b20 x2], Res.cells ch_0_0 76 [.one (.map (some ch_0_1)), .one (.map (some ch_0_2))]] (.c0 (.c0 .n)) ⟨Res.stay_cells, Res.stay_cells, trivial⟩ [(3, (.p g3)), (0, (.p ch_0_0))] (subR rfl) (by kernel_rfl) (by kernel_rfl) ?_); clear S; intro w S CL hw le
   refine h_move S CL hw le (subR rfl) rfl rfl rfl trivial fun a S CL => h_nilchk S CL hw le (subR rfl) rfl rfl rfl rfl trivial fun a S CL => h_fieldAddr S CL hw le (subR rfl) rfl I76_1 T74 (by decide) rfl rfl rfl trivial fun a S CL => h_load1 S CL hw le (subR rfl) rfl .h1 T74 (v := (.map (some ch_0_2))) rfl rfl rfl trivial fun a S CL => h_loada S CL hw le (subR rfl) rfl .h T28 (s' := [.b20 x2]) rfl rfl rfl trivial fun a S CL => h_run' S rfl trivial (s_lookO S (z := 0) (k := x2) rfl .h3 () rfl (fun h => ⟨(), rfl, h⟩) underlying74 KT28 Z3 ⟨rfl, trivial⟩ rfl fun ch1 a S => CL.bk hw S (.c0 (.c0 .n)) le fun hw => ?_)
   replace CL := CL.add (t := 27) (d := (.tup [(false, [.i ((lk (aget x1.2 x2) 0).1)]), (false, [.b ((lk (aget x1.2 x2) 0).2)])])) S rfl rfl
   refine h_move S CL hw le (subR rfl) rfl rfl rfl trivial fun a S CL => h_extract S CL hw le (subR rfl) rfl rfl rfl rfl rfl trivial fun a S CL => h_extract S CL hw le (subR rfl) rfl rfl rfl rfl rfl trivial fun a S CL => h_assign S CL hw le (subR rfl) rfl rfl rfl trivial fun a S CL => h_assign S CL hw le (subR rfl) rfl rfl rfl trivial fun a S CL => ?_
   refine h_done ?_; clear CL hw le
   refine x_thenN (c_region (s_move S rfl rfl fun a S => c_end ?_))
   rcases ite_of h1 with ⟨c2, h2⟩ | ⟨c2, h2⟩
   ·refine c_condT S rfl c2 (c_region (s_assign S rfl rfl fun a S => c_end (wp_ret (x_thenR ?_))))
    obtain rfl := Option.some.inj h2
    exact b_ret1 (d := (.v (.int .u8 2))) S rfl rfl fun ok => S.retX (Hx := []) hb _ _ ((ch_0_1, ch_0_2) : Nat × Nat) (.c1 (.c1 (.c1 .n))) ok
   ·refine c_condF S rfl c2 (wp_skip (x_thenN ?_))
    refine wp_seq (c_heldS S (.take 0 (.take 1 (.take 2 (.take 3 (.take 4 (.alts (.run 5 true .done .nil))))))) 6 [Res.cells g3 28 [.b20 x2], Res.cells ch_0_0 76 [.one (.map (some ch_0_1)), .one (.map (some ch_0_2))]] (.c0 (.c0 .n)) ⟨Res.stay_cells, Res.stay_cells, trivial⟩ [(3, (.p g3)), (0, (.p ch_0_0))] (subR rfl) (by kernel_rfl) (by kernel_rfl) ?_); clear S; intro w S CL hw le
    refine h_move S CL hw le (subR rfl) rfl rfl rfl trivial fun a S CL => h_nilchk S CL hw le (subR rfl) rfl rfl rfl rfl trivial fun a S CL => h_fieldAddr S CL hw le (subR rfl) rfl I76_1 T74 (by decide) rfl rfl rfl trivial fun a S CL => h_load1 S CL hw le (subR rfl) rfl .h1 T74 (v := (.map (some ch_0_2))) rfl rfl rfl trivial fun a S CL => h_loada S CL hw le (subR rfl) rfl .h T28 (s' := [.b20 x2]) rfl rfl rfl trivial fun a S CL => h_run' S rfl trivial (s_mapput S (k := x2) (y := 0) rfl .h3 rfl (fun h => ⟨(), rfl, h⟩) rfl (fun h => ⟨(), rfl, h, trivial⟩) underlying74 KT28 fun w S => CL.bk hw S (.c0 (.c0 .n)) le fun hw => ?_)
    refine h_done ?_; clear CL hw le
    refine x_thenN (c_region (s_assign S rfl rfl fun a S => c_end (wp_ret ?_)))
    obtain rfl := Option.some.inj h2
    exact b_ret1 (d := (.v (.int .u8 3))) S rfl rfl fun ok => S.retX (Hx := []) hb _ _ ((ch_0_1, ch_0_2) : Nat × Nat) (.c1 (.c1 (.c1 .n))) ok
 refine c_heldS S (.take 0 (.take 1 (.take 2 (.take 3 (.take 4 (.alts (.run 5 true (.alts (.run 6 true (.alts (.run 7 true (.alts (.run 8 true (.alts (.run 9 true (.alts (.run 10 true (.take 11 .done) .nil)) .nil)) (.run 9 true (.alts (.run 8 true (.alts (.run 10 true (.take 11 .done) .nil)) (.run 10 true (.alts (.run 8 true (.take 11 .done) .nil)) .nil))) .nil))) (.run 8 true (.alts (.run 7 true (.alts (.run 9 true (.alts (.run 10 true (.take 11 .done) .nil)) .nil)) (.run 9 true (.alts (.run 7 true (.alts (.run 10 true (.take 11 .done) .nil)) .nil)) .nil))) (.run 9 true (.alts (.run 7 true (.alts (.run 8 true (.alts (.run 10 true (.take 11 .done) .nil)) (.run 10 true (.alts (.run 8 true (.take 11 .done) .nil)) .nil))) (.run 8 true (.alts (.run 7 true (.alts (.run 10 true (.take 11 .done) .nil)) .nil)) .nil))) .nil)))) (.run 9 true (.alts (.run 6 true (.alts (.run 7 true (.alts (.run 8 true (.alts (.run 10 true (.take 11 .done) .nil)) (.run 10 true (.alts (.run 8 true (.take 11 .done) .nil)) .nil))) (.run 8 true (.alts (.run 7 true (.alts (.run 10 true (.take 11 .done) .nil)) .nil)) .nil))) .nil)) .nil))) (.run 9 true (.alts (.run 5 true (.alts (.run 6 true (.alts (.run 7 true (.alts (.run 8 true (.alts (.run 10 true (.take 11 .done) .nil)) (.run 10 true (.alts (.run 8 true (.take 11 .done) .nil)) .nil))) (.run 8 true (.alts (.run 7 true (.alts (.run 10 true (.take 11 .done) .nil)) .nil)) .nil))) .nil)) .nil)) .nil)))))))) 12 [Res.cells g1 28 [.b20 x2], Res.cells ch_0_0 76 [.one (.map (some ch_0_1)), .one (.map (some ch_0_2))]] (.c0 (.c0 .n)) ⟨Res.stay_cells, Res.stay_cells, trivial⟩ [(3, (.p g1)), (0, (.p ch_0_0))] (subR rfl) (by kernel_rfl) (by kernel_rfl) fun w S CL hw le => ?_
 refine h_move S CL hw le (subR rfl) rfl rfl rfl trivial fun a S CL => h_nilchk S CL hw le (subR rfl) rfl rfl rfl rfl trivial fun a S CL => h_fieldAddr S CL hw le (subR rfl) rfl I76_0 T73 (by decide) rfl rfl rfl trivial fun a S CL => h_load1 S CL hw le (subR rfl) rfl .h1 T73 (v := (.map (some ch_0_1))) rfl rfl rfl trivial fun a S CL => h_loada S CL hw le (subR rfl) rfl .h T28 (s' := [.b20 x2]) rfl rfl rfl trivial fun a S CL => h_alts ?_
 refine h_runO S rfl trivial ?_ ?_
 ·refine s_lookO S (z := zt1) (k := x2) rfl .h2 ((), (), (), (none, 0), (none, 0)) rfl (fun h => ⟨(), rfl, h⟩) underlying73 KT28 Z34 ⟨rfl, rfl, rfl, ⟨Nat.le_refl _, Nat.zero_le _, RdS.nil _ _ _, RdS.mono _ _ _⟩, ⟨Nat.le_refl _, Nat.zero_le _, RdS.nil _ _ _, RdS.mono _ _ _⟩, trivial⟩ rfl fun ch2 a S => CL.bk hw S (.c0 (.c0 .n)) le fun hw => h_alts ?_
  refine h_runO S rfl trivial ?_ ?_
  ·refine s_move S rfl rfl fun a S => CL.bk hw S (.c0 (.c0 .n)) le fun hw => h_alts ?_
   refine h_runO S rfl trivial ?_ ?_
   ·refine s_extract S rfl rfl rfl rfl fun a S => CL.bk hw S (.c0 (.c0 .n)) le fun hw => h_alts ?_
    refine h_runO S rfl trivial ?_ ?_
    ·refine s_extract S rfl rfl rfl rfl fun a S => CL.bk hw S (.c0 (.c0 .n)) le fun hw => ?_
     replace CL := CL.add (t := 19) (d := (.b ((lk (aget x1.1 x2) zt1).2))) S rfl rfl
     refine h_run' S rfl trivial (s_alloc S Z34 rfl ⟨rfl, rfl, rfl, rfl, rfl, trivial⟩ rfl fun g4 a w S => CL.bk hw S (.c1 (.c1 .n)) le fun hw => h_run' S rfl trivial (s_store S rfl rfl rfl (s' := [.b20 (((lk (aget x1.1 x2) zt1).1).1), .w (((lk (aget x1.1 x2) zt1).1).2.1), .w4 (((lk (aget x1.1 x2) zt1).1).2.2.1), .q yb ch2.2.2.2.1.1 ch2.2.2.2.1.2 (((lk (aget x1.1 x2) zt1).1).2.2.2.1), .q Y71 ch2.2.2.2.2.1 ch2.2.2.2.2.2 (((lk (aget x1.1 x2) zt1).1).2.2.2.2)]) .h T34 rfl rfl fun w S => CL.bk hw S (.c1 (.c1 .n)) le fun hw => h_assign S CL hw le (subR rfl) rfl rfl rfl trivial fun a S CL => ?_))
     refine h_done ?_; clear CL hw le
     refine x_thenN ?_
     exact j1 _ g1 a w (S.sb rfl (.c1 (.c1 (.c1 (.c1 .n))))) h0
    refine h_runO S rfl trivial ?_ ?_
    ·refine s_alloc S Z34 rfl ⟨rfl, rfl, rfl, rfl, rfl, trivial⟩ rfl fun g4 a w S => CL.bk hw S (.c1 (.c1 .n)) le fun hw => h_alts ?_
     refine h_runO S rfl trivial ?_ ?_
     ·refine s_extract S rfl rfl rfl rfl fun a S => CL.bk hw S (.c1 (.c1 .n)) le fun hw => ?_
      replace CL := CL.add (t := 19) (d := (.b ((lk (aget x1.1 x2) zt1).2))) S rfl rfl
      refine h_run' S rfl trivial (s_store S rfl rfl rfl (s' := [.b20 (((lk (aget x1.1 x2) zt1).1).1), .w (((lk (aget x1.1 x2) zt1).1).2.1), .w4 (((lk (aget x1.1 x2) zt1).1).2.2.1), .q yb ch2.2.2.2.1.1 ch2.2.2.2.1.2 (((lk (aget x1.1 x2) zt1).1).2.2.2.1), .q Y71 ch2.2.2.2.2.1 ch2.2.2.2.2.2 (((lk (aget x1.1 x2) zt1).1).2.2.2.2)]) .h T34 rfl rfl fun w S => CL.bk hw S (.c1 (.c1 .n)) le fun hw => h_assign S CL hw le (subR rfl) rfl rfl rfl trivial fun a S CL => ?_)
      refine h_done ?_; clear CL hw le
      refine x_thenN ?_
      exact j1 _ g1 a w (S.sb rfl (.c1 (.c1 (.c1 (.c1 .n))))) h0
     refine h_runO S rfl trivial ?_ ?_
     ·refine s_store S rfl rfl rfl (s' := [.b20 (((lk (aget x1.1 x2) zt1).1).1), .w (((lk (aget x1.1 x2) zt1).1).2.1), .w4 (((lk (aget x1.1 x2) zt1).1).2.2.1), .q yb ch2.2.2.2.1.1 ch2.2.2.2.1.2 (((lk (aget x1.1 x2) zt1).1).2.2.2.1), .q Y71 ch2.2.2.2.2.1 ch2.2.2.2.2.2 (((lk (aget x1.1 x2) zt1).1).2.2.2.2)]) .h T34 rfl rfl fun w S => CL.bk hw S (.c1 (.c1 .n)) le fun hw => h_run' S rfl trivial (s_extract S rfl rfl rfl rfl fun a S => CL.bk hw S (.c1 (.c1 .n)) le fun hw => ?_)
      replace CL := CL.add (t := 19) (d := (.b ((lk (aget x1.1 x2) zt1).2))) S rfl rfl
      refine h_assign S CL hw le (subR rfl) rfl rfl rfl trivial fun a S CL => ?_
      refine h_done ?_; clear CL hw le
      refine x_thenN ?_
      exact j1 _ g1 a w (S.sb rfl (.c1 (.c1 (.c1 (.c1 .n))))) h0
     exact h_nil
    exact h_nil
   refine h_runO S rfl trivial ?_ ?_
   ·refine s_extract S rfl rfl rfl rfl fun a S => CL.bk hw S (.c0 (.c0 .n)) le fun hw => ?_
    replace CL := CL.add (t := 19) (d := (.b ((lk (aget x1.1 x2) zt1).2))) S rfl rfl
    refine h_alts ?_
    refine h_runO S rfl trivial ?_ ?_
    ·refine s_extract S rfl rfl rfl rfl fun a S => CL.bk hw S (.c0 (.c0 .n)) le fun hw => h_run' S rfl trivial (s_alloc S Z34 rfl ⟨rfl, rfl, rfl, rfl, rfl, trivial⟩ rfl fun g4 a w S => CL.bk hw S (.c1 (.c1 .n)) le fun hw => h_run' S rfl trivial (s_store S rfl rfl rfl (s' := [.b20 (((lk (aget x1.1 x2) zt1).1).1), .w (((lk (aget x1.1 x2) zt1).1).2.1), .w4 (((lk (aget x1.1 x2) zt1).1).2.2.1), .q yb ch2.2.2.2.1.1 ch2.2.2.2.1.2 (((lk (aget x1.1 x2) zt1).1).2.2.2.1), .q Y71 ch2.2.2.2.2.1 ch2.2.2.2.2.2 (((lk (aget x1.1 x2) zt1).1).2.2.2.2)]) .h T34 rfl rfl fun w S => CL.bk hw S (.c1 (.c1 .n)) le fun hw => h_assign S CL hw le (subR rfl) rfl rfl rfl trivial fun a S CL => ?_))
     refine h_done ?_; clear CL hw le
     refine x_thenN ?_
     exact j1 _ g1 a w (S.sb rfl (.c1 (.c1 (.c1 (.c1 .n))))) h0
    refine h_runO S rfl trivial ?_ ?_
    ·refine s_alloc S Z34 rfl ⟨rfl, rfl, rfl, rfl, rfl, trivial⟩ rfl fun g4 a w S => CL.bk hw S (.c1 (.c1 .n)) le fun hw => h_run' S rfl trivial (s_extract S rfl rfl rfl rfl fun a S => CL.bk hw S (.c1 (.c1 .n)) le fun hw => h_run' S rfl trivial (s_store S rfl rfl rfl (s' := [.b20 (((lk (aget x1.1 x2) zt1).1).1), .w (((lk (aget x1.1 x2) zt1).1).2.1), .w4 (((lk (aget x1.1 x2) zt1).1).2.2.1), .q yb ch2.2.2.2.1.1 ch2.2.2.2.1.2 (((lk (aget x1.1 x2) zt1).1).2.2.2.1), .q Y71 ch2.2.2.2.2.1 ch2.2.2.2.2.2 (((lk (aget x1.1 x2) zt1).1).2.2.2.2)]) .h T34 rfl rfl fun w S => CL.bk hw S (.c1 (.c1 .n)) le fun hw => h_assign S CL hw le (subR rfl) rfl rfl rfl trivial fun a S CL => ?_))
     refine h_done ?_; clear CL hw le
     refine x_thenN ?_
     exact j1 _ g1 a w (S.sb rfl (.c1 (.c1 (.c1 (.c1 .n))))) h0
    exact h_nil
   refine h_runO S rfl trivial ?_ ?_
   ·refine s_alloc S Z34 rfl ⟨rfl, rfl, rfl, rfl, rfl, trivial⟩ rfl fun g4 a w S => CL.bk hw S (.c1 (.c1 .n)) le fun hw => h_alts ?_
    refine h_runO S rfl trivial ?_ ?_
    ·refine s_extract S rfl rfl rfl rfl fun a S => CL.bk hw S (.c1 (.c1 .n)) le fun hw => h_alts ?_
     refine h_runO S rfl trivial ?_ ?_
     ·refine s_extract S rfl rfl rfl rfl fun a S => CL.bk hw S (.c1 (.c1 .n)) le fun hw => ?_
      replace CL := CL.add (t := 19) (d := (.b ((lk (aget x1.1 x2) zt1).2))) S rfl rfl
      refine h_run' S rfl trivial (s_store S rfl rfl rfl (s' := [.b20 (((lk (aget x1.1 x2) zt1).1).1), .w (((lk (aget x1.1 x2) zt1).1).2.1), .w4 (((lk (aget x1.1 x2) zt1).1).2.2.1), .q yb ch2.2.2.2.1.1 ch2.2.2.2.1.2 (((lk (aget x1.1 x2) zt1).1).2.2.2.1), .q Y71 ch2.2.2.2.2.1 ch2.2.2.2.2.2 (((lk (aget x1.1 x2) zt1).1).2.2.2.2)]) .h T34 rfl rfl fun w S => CL.bk hw S (.c1 (.c1 .n)) le fun hw => h_assign S CL hw le (subR rfl) rfl rfl rfl trivial fun a S CL => ?_)
      refine h_done ?_; clear CL hw le
      refine x_thenN ?_
      exact j1 _ g1 a w (S.sb rfl (.c1 (.c1 (.c1 (.c1 .n))))) h0
     refine h_runO S rfl trivial ?_ ?_
     ·refine s_store S rfl rfl rfl (s' := [.b20 (((lk (aget x1.1 x2) zt1).1).1), .w (((lk (aget x1.1 x2) zt1).1).2.1), .w4 (((lk (aget x1.1 x2) zt1).1).2.2.1), .q yb ch2.2.2.2.1.1 ch2.2.2.2.1.2 (((lk (aget x1.1 x2) zt1).1).2.2.2.1), .q Y71 ch2.2.2.2.2.1 ch2.2.2.2.2.2 (((lk (aget x1.1 x2) zt1).1).2.2.2.2)]) .h T34 rfl rfl fun w S => CL.bk hw S (.c1 (.c1 .n)) le fun hw => h_run' S rfl trivial (s_extract S rfl rfl rfl rfl fun a S => CL.bk hw S (.c1 (.c1 .n)) le fun hw => ?_)
      replace CL := CL.add (t := 19) (d := (.b ((lk (aget x1.1 x2) zt1).2))) S rfl rfl
      refine h_assign S CL hw le (subR rfl) rfl rfl rfl trivial fun a S CL => ?_
      refine h_done ?_; clear CL hw le
      refine x_thenN ?_
      exact j1 _ g1 a w (S.sb rfl (.c1 (.c1 (.c1 (.c1 .n))))) h0
     exact h_nil
    refine h_runO S rfl trivial ?_ ?_
    ·refine s_extract S rfl rfl rfl rfl fun a S => CL.bk hw S (.c1 (.c1 .n)) le fun hw => ?_
     replace CL := CL.add (t := 19) (d := (.b ((lk (aget x1.1 x2) zt1).2))) S rfl rfl
     refine h_run' S rfl trivial (s_extract S rfl rfl rfl rfl fun a S => CL.bk hw S (.c1 (.c1 .n)) le fun hw => h_run' S rfl trivial (s_store S rfl rfl rfl (s' := [.b20 (((lk (aget x1.1 x2) zt1).1).1), .w (((lk (aget x1.1 x2) zt1).1).2.1), .w4 (((lk (aget x1.1 x2) zt1).1).2.2.1), .q yb ch2.2.2.2.1.1 ch2.2.2.2.1.2 (((lk (aget x1.1 x2) zt1).1).2.2.2.1), .q Y71 ch2.2.2.2.2.1 ch2.2.2.2.2.2 (((lk (aget x1.1 x2) zt1).1).2.2.2.2)]) .h T34 rfl rfl fun w S => CL.bk hw S (.c1 (.c1 .n)) le fun hw => h_assign S CL hw le (subR rfl) rfl rfl rfl trivial fun a S CL => ?_))
     refine h_done ?_; clear CL hw le
     refine x_thenN ?_
     exact j1 _ g1 a w (S.sb rfl (.c1 (.c1 (.c1 (.c1 .n))))) h0
    exact h_nil
   exact h_nil
  refine h_runO S rfl trivial ?_ ?_
  ·refine s_alloc S Z34 rfl ⟨rfl, rfl, rfl, rfl, rfl, trivial⟩ rfl fun g4 a w S => CL.bk hw S (.c1 (.c1 .n)) le fun hw => h_run' S rfl trivial (s_move S rfl rfl fun a S => CL.bk hw S (.c1 (.c1 .n)) le fun hw => h_alts ?_)
   refine h_runO S rfl trivial ?_ ?_
   ·refine s_extract S rfl rfl rfl rfl fun a S => CL.bk hw S (.c1 (.c1 .n)) le fun hw => h_alts ?_
    refine h_runO S rfl trivial ?_ ?_
    ·refine s_extract S rfl rfl rfl rfl fun a S => CL.bk hw S (.c1 (.c1 .n)) le fun hw => ?_
     replace CL := CL.add (t := 19) (d := (.b ((lk (aget x1.1 x2) zt1).2))) S rfl rfl
     refine h_run' S rfl trivial (s_store S rfl rfl rfl (s' := [.b20 (((lk (aget x1.1 x2) zt1).1).1), .w (((lk (aget x1.1 x2) zt1).1).2.1), .w4 (((lk (aget x1.1 x2) zt1).1).2.2.1), .q yb ch2.2.2.2.1.1 ch2.2.2.2.1.2 (((lk (aget x1.1 x2) zt1).1).2.2.2.1), .q Y71 ch2.2.2.2.2.1 ch2.2.2.2.2.2 (((lk (aget x1.1 x2) zt1).1).2.2.2.2)]) .h T34 rfl rfl fun w S => CL.bk hw S (.c1 (.c1 .n)) le fun hw => h_assign S CL hw le (subR rfl) rfl rfl rfl trivial fun a S CL => ?_)
     refine h_done ?_; clear CL hw le
     refine x_thenN ?_
     exact j1 _ g1 a w (S.sb rfl (.c1 (.c1 (.c1 (.c1 .n))))) h0
    refine h_runO S rfl trivial ?_ ?_
    ·refine s_store S rfl rfl rfl (s' := [.b20 (((lk (aget x1.1 x2) zt1).1).1), .w (((lk (aget x1.1 x2) zt1).1).2.1), .w4 (((lk (aget x1.1 x2) zt1).1).2.2.1), .q yb ch2.2.2.2.1.1 ch2.2.2.2.1.2 (((lk (aget x1.1 x2) zt1).1).2.2.2.1), .q Y71 ch2.2.2.2.2.1 ch2.2.2.2.2.2 (((lk (aget x1.1 x2) zt1).1).2.2.2.2)]) .h T34 rfl rfl fun w S => CL.bk hw S (.c1 (.c1 .n)) le fun hw => h_run' S rfl trivial (s_extract S rfl rfl rfl rfl fun a S => CL.bk hw S (.c1 (.c1 .n)) le fun hw => ?_)
     replace CL := CL.add (t := 19) (d := (.b ((lk (aget x1.1 x2) zt1).2))) S rfl rfl
     refine h_assign S CL hw le (subR rfl) rfl rfl rfl trivial fun a S CL => ?_
     refine h_done ?_; clear CL hw le
     refine x_thenN ?_
     exact j1 _ g1 a w (S.sb rfl (.c1 (.c1 (.c1 (.c1 .n))))) h0
    exact h_nil
   refine h_runO S rfl trivial ?_ ?_
   ·refine s_extract S rfl rfl rfl rfl fun a S => CL.bk hw S (.c1 (.c1 .n)) le fun hw => ?_
    replace CL := CL.add (t := 19) (d := (.b ((lk (aget x1.1 x2) zt1).2))) S rfl rfl
    refine h_run' S rfl trivial (s_extract S rfl rfl rfl rfl fun a S => CL.bk hw S (.c1 (.c1 .n)) le fun hw => h_run' S rfl trivial (s_store S rfl rfl rfl (s' := [.b20 (((lk (aget x1.1 x2) zt1).1).1), .w (((lk (aget x1.1 x2) zt1).1).2.1), .w4 (((lk (aget x1.1 x2) zt1).1).2.2.1), .q yb ch2.2.2.2.1.1 ch2.2.2.2.1.2 (((lk (aget x1.1 x2) zt1).1).2.2.2.1), .q Y71 ch2.2.2.2.2.1 ch2.2.2.2.2.2 (((lk (aget x1.1 x2) zt1).1).2.2.2.2)]) .h T34 rfl rfl fun w S => CL.bk hw S (.c1 (.c1 .n)) le fun hw => h_assign S CL hw le (subR rfl) rfl rfl rfl trivial fun a S CL => ?_))
    refine h_done ?_; clear CL hw le
    refine x_thenN ?_
    exact j1 _ g1 a w (S.sb rfl (.c1 (.c1 (.c1 (.c1 .n))))) h0
   exact h_nil
  exact h_nil
 refine h_runO S rfl trivial ?_ ?_
 ·refine s_alloc S Z34 rfl ⟨rfl, rfl, rfl, rfl, rfl, trivial⟩ rfl fun g4 a w S => CL.bk hw S (.c1 (.c1 .n)) le fun hw => h_run' S rfl trivial (s_lookO S (z := zt1) (k := x2) rfl .h3 ((), (), (), (none, 0), (none, 0)) rfl (fun h => ⟨(), rfl, h⟩) underlying73 KT28 Z34 ⟨rfl, rfl, rfl, ⟨Nat.le_refl _, Nat.zero_le _, RdS.nil _ _ _, RdS.mono _ _ _⟩, ⟨Nat.le_refl _, Nat.zero_le _, RdS.nil _ _ _, RdS.mono _ _ _⟩, trivial⟩ rfl fun ch2 a S => CL.bk hw S (.c1 (.c1 .n)) le fun hw => h_run' S rfl trivial (s_move S rfl rfl fun a S => CL.bk hw S (.c1 (.c1 .n)) le fun hw => h_alts ?_))
  refine h_runO S rfl trivial ?_ ?_
  ·refine s_extract S rfl rfl rfl rfl fun a S => CL.bk hw S (.c1 (.c1 .n)) le fun hw => h_alts ?_
   refine h_runO S rfl trivial ?_ ?_
   ·refine s_extract S rfl rfl rfl rfl fun a S => CL.bk hw S (.c1 (.c1 .n)) le fun hw => ?_
    replace CL := CL.add (t := 19) (d := (.b ((lk (aget x1.1 x2) zt1).2))) S rfl rfl
    refine h_run' S rfl trivial (s_store S rfl rfl rfl (s' := [.b20 (((lk (aget x1.1 x2) zt1).1).1), .w (((lk (aget x1.1 x2) zt1).1).2.1), .w4 (((lk (aget x1.1 x2) zt1).1).2.2.1), .q yb ch2.2.2.2.1.1 ch2.2.2.2.1.2 (((lk (aget x1.1 x2) zt1).1).2.2.2.1), .q Y71 ch2.2.2.2.2.1 ch2.2.2.2.2.2 (((lk (aget x1.1 x2) zt1).1).2.2.2.2)]) .h T34 rfl rfl fun w S => CL.bk hw S (.c1 (.c1 .n)) le fun hw => h_assign S CL hw le (subR rfl) rfl rfl rfl trivial fun a S CL => ?_)
    refine h_done ?_; clear CL hw le
    refine x_thenN ?_
    exact j1 _ g1 a w (S.sb rfl (.c1 (.c1 (.c1 (.c1 .n))))) h0
   refine h_runO S rfl trivial ?_ ?_
   ·refine s_store S rfl rfl rfl (s' := [.b20 (((lk (aget x1.1 x2) zt1).1).1), .w (((lk (aget x1.1 x2) zt1).1).2.1), .w4 (((lk (aget x1.1 x2) zt1).1).2.2.1), .q yb ch2.2.2.2.1.1 ch2.2.2.2.1.2 (((lk (aget x1.1 x2) zt1).1).2.2.2.1), .q Y71 ch2.2.2.2.2.1 ch2.2.2.2.2.2 (((lk (aget x1.1 x2) zt1).1).2.2.2.2)]) .h T34 rfl rfl fun w S => CL.bk hw S (.c1 (.c1 .n)) le fun hw => h_run' S rfl trivial (s_extract S rfl rfl rfl rfl fun a S => CL.bk hw S (.c1 (.c1 .n)) le fun hw => ?_)
    replace CL := CL.add (t := 19) (d := (.b ((lk (aget x1.1 x2) zt1).2))) S rfl rfl
    refine h_assign S CL hw le (subR rfl) rfl rfl rfl trivial fun a S CL => ?_
    refine h_done ?_; clear CL hw le
    refine x_thenN ?_
    exact j1 _ g1 a w (S.sb rfl (.c1 (.c1 (.c1 (.c1 .n))))) h0
   exact h_nil
  refine h_runO S rfl trivial ?_ ?_
  ·refine s_extract S rfl rfl rfl rfl fun a S => CL.bk hw S (.c1 (.c1 .n)) le fun hw => ?_
   replace CL := CL.add (t := 19) (d := (.b ((lk (aget x1.1 x2) zt1).2))) S rfl rfl
   refine h_run' S rfl trivial (s_extract S rfl rfl rfl rfl fun a S => CL.bk hw S (.c1 (.c1 .n)) le fun hw => h_run' S rfl trivial (s_store S rfl rfl rfl (s' := [.b20 (((lk (aget x1.1 x2) zt1).1).1), .w (((lk (aget x1.1 x2) zt1).1).2.1), .w4 (((lk (aget x1.1 x2) zt1).1).2.2.1), .q yb ch2.2.2.2.1.1 ch2.2.2.2.1.2 (((lk (aget x1.1 x2) zt1).1).2.2.2.1), .q Y71 ch2.2.2.2.2.1 ch2.2.2.2.2.2 (((lk (aget x1.1 x2) zt1).1).2.2.2.2)]) .h T34 rfl rfl fun w S => CL.bk hw S (.c1 (.c1 .n)) le fun hw => h_assign S CL hw le (subR rfl) rfl rfl rfl trivial fun a S CL => ?_))
   refine h_done ?_; clear CL hw le
   refine x_thenN ?_
   exact j1 _ g1 a w (S.sb rfl (.c1 (.c1 (.c1 (.c1 .n))))) h0
  exact h_nil
 exact h_nil
abbrev fork_Cache_Fail.Ty : Type := ((List ((List Int) × L34)) × (List ((List Int) × Int))) → (List Int) → Option (Int × ((List ((List Int) × L34)) × (List ((List Int) × Int))))
def fork_Cache_Fail.Ctr (s : fork_Cache_Fail.Ty) : Prop := ∀ (x1 : (List ((List Int) × L34)) × (List ((List Int) × Int))) (x2 : List Int) (ch_0_0 : Nat) (ch_0_1 : Nat) (ch_0_2 : Nat) (r : Int × ((List ((List Int) × L34)) × (List ((List Int) × Int)))), Ct (C := (Nat × Nat)) Try.prog 13 (s x1 x2 = some r) [Res.cells ch_0_0 76 [.one (.map (some ch_0_1)), .one (.map (some ch_0_2))], Res.map true (Ty.arr .u8 20) true Y34 ch_0_1 x1.1, Res.map true (Ty.arr .u8 20) false yi ch_0_2 x1.2] [(.p ch_0_0), (.agg [.b20 x2])] (fun _ => (.v (.int .u8 r.1))) fun ch => [Res.cells ch_0_0 76 [.one (.map (some ch.1)), .one (.map (some ch.2))], Res.map true (Ty.arr .u8 20) true Y34 ch.1 r.2.1, Res.map true (Ty.arr .u8 20) false yi ch.2 r.2.2]
def fork_Cache_Fail.f (x1 : (List ((List Int) × L34)) × (List ((List Int) × Int))) (x2 : List Int) : Option (Int × ((List ((List Int) × L34)) × (List ((List Int) × Int)))) := if (!((lk (aget x1.2 x2) 0).2)) = true then (some (0, x1)) else (if ((wr .i64 (((lk (aget x1.2 x2) 0).1) + 1)) == 8) = true then (some (5, (x1.1, adel x1.2 x2))) else (some (4, (x1.1, aput x1.2 x2 (wr .i64 (((lk (aget x1.2 x2) 0).1) + 1))))))
theorem fork_Cache_Fail.ok : fork_Cache_Fail.Ctr (fork_Cache_Fail.f) := by
 intro x1 x2 ch_0_0 ch_0_1 ch_0_2 r h0 mi w0 ok hm
 delta fork_Cache_Fail.f at h0
 refine c_enterZ (n := 37) ok hm func13 rfl rfl rfl fun b0 hb a S => c_region (s_box S rfl rfl rfl fun g1 a w S => s_assign S rfl rfl fun a S => c_end (wp_seq (c_region (s_move S rfl rfl fun a S => s_eqp S (b := false) rfl rfl underlying36 rfl rfl fun a S => c_end (c_condF S rfl rfl (wp_skip (x_thenN ?_)))))))
 refine wp_seq (c_heldS S (.take 0 (.take 1 (.take 2 (.take 3 (.take 4 (.alts (.run 5 true (.take 6 (.take 7 (.take 8 (.take 9 (.take 10 .done))))) .nil))))))) 11 [Res.cells g1 28 [.b20 x2], Res.cells ch_0_0 76 [.one (.map (some ch_0_1)), .one (.map (some ch_0_2))]] (.c0 (.c0 .n)) ⟨Res.stay_cells, Res.stay_cells, trivial⟩ [(3, (.p g1)), (0, (.p ch_0_0))] (subR rfl) (by kernel_rfl) (by kernel_rfl) ?_); clear S; intro w S CL hw le
 refine h_move S CL hw le (subR rfl) rfl rfl rfl trivial fun a S CL => h_nilchk S CL hw le (subR rfl) rfl rfl rfl rfl trivial fun a S CL => h_fieldAddr S CL hw le (subR rfl) rfl I76_1 T74 (by decide) rfl rfl rfl trivial fun a S CL => h_load1 S CL hw le (subR rfl) rfl .h1 T74 (v := (.map (some ch_0_2))) rfl rfl rfl trivial fun a S CL => h_loada S CL hw le (subR rfl) rfl .h T28 (s' := [.b20 x2]) rfl rfl rfl trivial fun a S CL => h_run' S rfl trivial (s_lookO S (z := 0) (k := x2) rfl .h3 () rfl (fun h => ⟨(), rfl, h⟩) underlying74 KT28 Z3 ⟨rfl, trivial⟩ rfl fun ch1 a S => CL.bk hw S (.c0 (.c0 .n)) le fun hw => ?_)
 replace CL := CL.add (t := 15) (d := (.tup [(false, [.i ((lk (aget x1.2 x2) 0).1)]), (false, [.b ((lk (aget x1.2 x2) 0).2)])])) S rfl rfl
 refine h_move S CL hw le (subR rfl) rfl rfl rfl trivial fun a S CL => h_extract S CL hw le (subR rfl) rfl rfl rfl rfl rfl trivial fun a S CL => h_extract S CL hw le (subR rfl) rfl rfl rfl rfl rfl trivial fun a S CL => h_assign S CL hw le (subR rfl) rfl rfl rfl trivial fun a S CL => h_assign S CL hw le (subR rfl) rfl rfl rfl trivial fun a S CL => ?_
 refine h_done ?_; clear CL hw le
 refine x_thenN (wp_seq (wp_block (c_region (s_move S rfl rfl fun a S => s_not S rfl rfl fun a S => s_assign S rfl rfl fun a S => c_end ?_))))
 rcases ite_of h0 with ⟨c1, h1⟩ | ⟨c1, h1⟩
 ·refine c_condT S rfl c1 (c_region (s_assign S rfl rfl fun a S => c_end (wp_ret (x_blockR (x_thenR ?_)))))
  obtain rfl := Option.some.inj h1
  exact b_ret1 (d := (.v (.int .u8 0))) S rfl rfl fun ok => S.retX (Hx := []) hb _ _ ((ch_0_1, ch_0_2) : Nat × Nat) (.c1 (.c1 (.c1 .n))) ok
 ·refine c_condF S rfl c1 (c_region (s_move S rfl rfl fun a S => s_bin S rfl rfl rfl rfl fun a S => s_bin S rfl rfl rfl rfl fun a S => s_assign S rfl rfl fun a S => c_end ?_))
  rcases ite_of h1 with ⟨c2, h2⟩ | ⟨c2, h2⟩
  ·refine c_condT S rfl c2 ?_
   refine wp_seq (c_heldS S (.take 0 (.take 1 (.take 2 (.take 3 (.take 4 (.alts (.run 5 true .done .nil))))))) 6 [Res.cells g1 28 [.b20 x2], Res.cells ch_0_0 76 [.one (.map (some ch_0_1)), .one (.map (some ch_0_2))]] (.c0 (.c0 .n)) ⟨Res.stay_cells, Res.stay_cells, trivial⟩ [(3, (.p g1)), (0, (.p ch_0_0))] (subR rfl) (by kernel_rfl) (by kernel_rfl) ?_); clear S; intro w S CL hw le
   refine h_move S CL hw le (subR rfl) rfl rfl rfl trivial fun a S CL => h_nilchk S CL hw le (subR rfl) rfl rfl rfl rfl trivial fun a S CL => h_fieldAddr S CL hw le (subR rfl) rfl I76_1 T74 (by decide) rfl rfl rfl trivial fun a S CL => h_load1 S CL hw le (subR rfl) rfl .h1 T74 (v := (.map (some ch_0_2))) rfl rfl rfl trivial fun a S CL => h_loada S CL hw le (subR rfl) rfl .h T28 (s' := [.b20 x2]) rfl rfl rfl trivial fun a S CL => h_run' S rfl trivial (s_delOn S (k := x2) rfl .h3 rfl (fun h => ⟨(), rfl, h⟩) underlying74 KT28 fun w S => CL.bk hw S (.c0 (.c0 .n)) le fun hw => ?_)
   refine h_done ?_; clear CL hw le
   refine x_thenN (c_region (s_assign S rfl rfl fun a S => c_end (wp_ret (x_blockR (x_thenR ?_)))))
   obtain rfl := Option.some.inj h2
   exact b_ret1 (d := (.v (.int .u8 5))) S rfl rfl fun ok => S.retX (Hx := []) hb _ _ ((ch_0_1, ch_0_2) : Nat × Nat) (.c1 (.c1 (.c1 .n))) ok
  ·refine c_condF S rfl c2 (wp_skip (x_blockN (x_thenN ?_)))
   refine wp_seq (c_heldS S (.take 0 (.take 1 (.take 2 (.take 3 (.take 4 (.take 5 (.take 6 (.alts (.run 7 true .done .nil))))))))) 8 [Res.cells g1 28 [.b20 x2], Res.cells ch_0_0 76 [.one (.map (some ch_0_1)), .one (.map (some ch_0_2))]] (.c0 (.c0 .n)) ⟨Res.stay_cells, Res.stay_cells, trivial⟩ [(5, (.i ((lk (aget x1.2 x2) 0).1))), (3, (.p g1)), (0, (.p ch_0_0))] (subR rfl) (by kernel_rfl) (by kernel_rfl) ?_); clear S; intro w S CL hw le
   refine h_move S CL hw le (subR rfl) rfl rfl rfl trivial fun a S CL => h_nilchk S CL hw le (subR rfl) rfl rfl rfl rfl trivial fun a S CL => h_fieldAddr S CL hw le (subR rfl) rfl I76_1 T74 (by decide) rfl rfl rfl trivial fun a S CL => h_load1 S CL hw le (subR rfl) rfl .h1 T74 (v := (.map (some ch_0_2))) rfl rfl rfl trivial fun a S CL => h_loada S CL hw le (subR rfl) rfl .h T28 (s' := [.b20 x2]) rfl rfl rfl trivial fun a S CL => h_move S CL hw le (subR rfl) rfl rfl rfl trivial fun a S CL => h_bin S CL hw le (subR rfl) rfl rfl rfl rfl rfl trivial fun a S CL => h_run' S rfl trivial (s_mapput S (k := x2) (y := (wr .i64 (((lk (aget x1.2 x2) 0).1) + 1))) rfl .h3 rfl (fun h => ⟨(), rfl, h⟩) rfl (fun h => ⟨(), rfl, h, trivial⟩) underlying74 KT28 fun w S => CL.bk hw S (.c0 (.c0 .n)) le fun hw => ?_)
   refine h_done ?_; clear CL hw le
   refine x_thenN (c_region (s_assign S rfl rfl fun a S => c_end (wp_ret ?_)))
   obtain rfl := Option.some.inj h2
   exact b_ret1 (d := (.v (.int .u8 4))) S rfl rfl fun ok => S.retX (Hx := []) hb _ _ ((ch_0_1, ch_0_2) : Nat × Nat) (.c1 (.c1 (.c1 .n))) ok
abbrev smithylaw15_fixed.Ty : Type := Option Bool
def smithylaw15_fixed.Ctr (s : smithylaw15_fixed.Ty) : Prop := ∀ (r : Bool), Ct (C := Unit) Try.prog 8 (s = some r) [] [] (fun _ => (.b r)) fun _ => []
def smithylaw15_fixed.j1 (t2 : Int × ((List ((List Int) × L34)) × (List ((List Int) × Int)))) (t3 : Int × ((List ((List Int) × L34)) × (List ((List Int) × Int)))) (y1 : List ((List Int) × L34)) (y2 : List ((List Int) × Int)) : Option Bool := if (t2.1 == 3) = true then (if (t3.1 == 2) = true then ((fork_Cache_Fail.f (y1, y2) [0, 0, 0, 0, 0, 0, 0, 0, 0, 0, 0, 0, 0, 0, 0, 0, 0, 0, 0, 1]).bind fun t4 => (if (t4.1 == 5) = true then ((fork_Cache_Want.f t4.2 [0, 0, 0, 0, 0, 0, 0, 0, 0, 0, 0, 0, 0, 0, 0, 0, 0, 0, 0, 1]).bind fun t5 => (some (t5.1 == 3))) else (some false))) else (some false)) else (some false)
def smithylaw15_fixed.b1 (t2 : Int × ((List ((List Int) × L34)) × (List ((List Int) × Int)))) (t3 : Int × ((List ((List Int) × L34)) × (List ((List Int) × Int)))) (rec1 : Int → (List ((List Int) × L34)) → (List ((List Int) × Int)) → Option Bool) (y4 : Int) (y5 : List ((List Int) × L34)) (y6 : List ((List Int) × Int)) : Option Bool := if (decide (y4 < 7)) = true then ((fork_Cache_Fail.f (y5, y6) [0, 0, 0, 0, 0, 0, 0, 0, 0, 0, 0, 0, 0, 0, 0, 0, 0, 0, 0, 1]).bind fun t8 => (if (t8.1 != 4) = true then (some false) else (rec1 (wr .i64 (y4 + 1)) t8.2.1 t8.2.2))) else (smithylaw15_fixed.j1 t2 t3 y5 y6)
def smithylaw15_fixed.l1 (t2 : Int × ((List ((List Int) × L34)) × (List ((List Int) × Int)))) (t3 : Int × ((List ((List Int) × L34)) × (List ((List Int) × Int)))) : Nat → Int → (List ((List Int) × L34)) → (List ((List Int) × Int)) → Option Bool
  | 0, _, _, _ => none
  | q + 1, y4, y5, y6 => smithylaw15_fixed.b1 t2 t3 (smithylaw15_fixed.l1 t2 t3 q) y4 y5 y6
def smithylaw15_fixed.f (k : Nat) : Option Bool := (fork_New.f).bind fun t1 => ((fork_Cache_Want.f t1 [0, 0, 0, 0, 0, 0, 0, 0, 0, 0, 0, 0, 0, 0, 0, 0, 0, 0, 0, 1]).bind fun t2 => ((fork_Cache_Want.f t2.2 [0, 0, 0, 0, 0, 0, 0, 0, 0, 0, 0, 0, 0, 0, 0, 0, 0, 0, 0, 1]).bind fun t3 => (smithylaw15_fixed.l1 t2 t3 k 0 t3.2.1 t3.2.2)))
theorem smithylaw15_fixed.ok (k : Nat) : smithylaw15_fixed.Ctr (smithylaw15_fixed.f k) := by
 intro r h0 mi w0 ok hm
 delta smithylaw15_fixed.f at h0
 refine c_enterZ (n := 38) ok hm func8 rfl rfl rfl fun b0 hb a S => c_region (s_assign S rfl rfl fun a S => c_end (c_region (bindX h0 fun t1 et1 h1 => s_callX S (ds' := []) (ds := []) [] [] (fun (ch : Nat × Nat × Nat) => ((.v (.pointer (some ⟨ch.1, 0, none⟩))) : D)) (fun (ch : Nat × Nat × Nat) => [Res.cells ch.1 76 [.one (.map (some ch.2.1)), .one (.map (some ch.2.2))], Res.map true (Ty.arr .u8 20) true Y34 ch.2.1 t1.1, Res.map true (Ty.arr .u8 20) false yi ch.2.2 t1.2]) (fun (ch : Nat × Nat × Nat) => [Res.cells ch.1 76 [.one (.map (some ch.2.1)), .one (.map (some ch.2.2))], Res.map true (Ty.arr .u8 20) true Y34 ch.2.1 t1.1, Res.map true (Ty.arr .u8 20) false yi ch.2.2 t1.2]) (fun _ => rfl) N10 rfl rfl (fun ok => ok) .nil rfl (fork_New.ok t1 et1 _ _) fun ch1 m le1 a w S => s_assign S rfl rfl fun a S => c_end (c_region (s_build S (ds := [(19, (.v (.int .u8 1)))]) (dv := (.agg [.b20 [0, 0, 0, 0, 0, 0, 0, 0, 0, 0, 0, 0, 0, 0, 0, 0, 0, 0, 0, 1]])) rfl (fun _ => by kernel_rfl) ⟨rfl, trivial⟩ rfl fun a S => s_alloc S Z28 rfl ⟨rfl, trivial⟩ rfl fun g1 a w S => s_store S rfl rfl rfl (s' := [.b20 [0, 0, 0, 0, 0, 0, 0, 0, 0, 0, 0, 0, 0, 0, 0, 0, 0, 0, 0, 1]]) .h T28 rfl rfl fun w S => c_end ?_)))))
 refine wp_seq (c_heldS S (.take 0 (.take 1 (.take 3 (.take 4 (.alts (.run 2 true (.alts (.run 5 true (.take 6 (.take 7 .done)) .nil)) .nil)))))) 8 [Res.cells g1 28 [.b20 [0, 0, 0, 0, 0, 0, 0, 0, 0, 0, 0, 0, 0, 0, 0, 0, 0, 0, 0, 1]]] (.c0 .n) ⟨Res.stay_cells, trivial⟩ [(2, (.p g1)), (1, (.v (.pointer (some ⟨ch1.1, 0, none⟩))))] (subR rfl) (by kernel_rfl) (by kernel_rfl) ?_); clear S; intro w S CL hw le
 refine h_move S CL hw le (subR rfl) rfl rfl rfl trivial fun a S CL => h_loada S CL hw le (subR rfl) rfl .h T28 (s' := [.b20 [0, 0, 0, 0, 0, 0, 0, 0, 0, 0, 0, 0, 0, 0, 0, 0, 0, 0, 0, 1]]) rfl rfl rfl trivial fun a S CL => h_move S CL hw le (subR rfl) rfl rfl rfl trivial fun a S CL => h_loada S CL hw le (subR rfl) rfl .h T28 (s' := [.b20 [0, 0, 0, 0, 0, 0, 0, 0, 0, 0, 0, 0, 0, 0, 0, 0, 0, 0, 0, 1]]) rfl rfl rfl trivial fun a S CL => h_run' S rfl trivial (bindX h1 fun t2 et2 h2 => s_callX S (ds' := [(.v (.pointer (some ⟨ch1.1, 0, none⟩))), (.agg [.b20 [0, 0, 0, 0, 0, 0, 0, 0, 0, 0, 0, 0, 0, 0, 0, 0, 0, 0, 0, 1]])]) (ds := [(.v (.pointer (some ⟨ch1.1, 0, none⟩))), (.agg [.b20 [0, 0, 0, 0, 0, 0, 0, 0, 0, 0, 0, 0, 0, 0, 0, 0, 0, 0, 0, 1]])]) [Res.cells ch1.1 76 [.one (.map (some ch1.2.1)), .one (.map (some ch1.2.2))], Res.map true (Ty.arr .u8 20) true Y34 ch1.2.1 t1.1, Res.map true (Ty.arr .u8 20) false yi ch1.2.2 t1.2] [Res.cells g1 28 [.b20 [0, 0, 0, 0, 0, 0, 0, 0, 0, 0, 0, 0, 0, 0, 0, 0, 0, 0, 0, 1]]] (fun (ch : Nat × Nat) => ((.v (.int .u8 t2.1)) : D)) (fun (ch : Nat × Nat) => [Res.cells ch1.1 76 [.one (.map (some ch.1)), .one (.map (some ch.2))], Res.map true (Ty.arr .u8 20) true Y34 ch.1 t2.2.1, Res.map true (Ty.arr .u8 20) false yi ch.2 t2.2.2]) (fun (ch : Nat × Nat) => [Res.cells ch1.1 76 [.one (.map (some ch.1)), .one (.map (some ch.2))], Res.map true (Ty.arr .u8 20) true Y34 ch.1 t2.2.1, Res.map true (Ty.arr .u8 20) false yi ch.2 t2.2.2, Res.cells g1 28 [.b20 [0, 0, 0, 0, 0, 0, 0, 0, 0, 0, 0, 0, 0, 0, 0, 0, 0, 0, 0, 1]]]) (fun _ => rfl) N12 rfl rfl (fun ok => ok) (.c1 (.c1 (.c1 (.c0 .n)))) rfl (fork_Cache_Want.ok t1 [0, 0, 0, 0, 0, 0, 0, 0, 0, 0, 0, 0, 0, 0, 0, 0, 0, 0, 0, 1] ch1.1 ch1.2.1 ch1.2.2 t2 et2 _ _) fun ch2 m le1 a w S => ?_)
 replace le := le.trans le1
 refine CL.bk hw S (.c3 .n) le fun hw => ?_
 replace CL := CL.add (t := 9) (d := (.v (.int .u8 t2.1))) S rfl rfl
 refine h_run' S rfl trivial (bindX h2 fun t3 et3 h3 => s_callX S (ds' := [(.v (.pointer (some ⟨ch1.1, 0, none⟩))), (.agg [.b20 [0, 0, 0, 0, 0, 0, 0, 0, 0, 0, 0, 0, 0, 0, 0, 0, 0, 0, 0, 1]])]) (ds := [(.v (.pointer (some ⟨ch1.1, 0, none⟩))), (.agg [.b20 [0, 0, 0, 0, 0, 0, 0, 0, 0, 0, 0, 0, 0, 0, 0, 0, 0, 0, 0, 1]])]) [Res.cells ch1.1 76 [.one (.map (some ch2.1)), .one (.map (some ch2.2))], Res.map true (Ty.arr .u8 20) true Y34 ch2.1 t2.2.1, Res.map true (Ty.arr .u8 20) false yi ch2.2 t2.2.2] [Res.cells g1 28 [.b20 [0, 0, 0, 0, 0, 0, 0, 0, 0, 0, 0, 0, 0, 0, 0, 0, 0, 0, 0, 1]]] (fun (ch : Nat × Nat) => ((.v (.int .u8 t3.1)) : D)) (fun (ch : Nat × Nat) => [Res.cells ch1.1 76 [.one (.map (some ch.1)), .one (.map (some ch.2))], Res.map true (Ty.arr .u8 20) true Y34 ch.1 t3.2.1, Res.map true (Ty.arr .u8 20) false yi ch.2 t3.2.2]) (fun (ch : Nat × Nat) => [Res.cells ch1.1 76 [.one (.map (some ch.1)), .one (.map (some ch.2))], Res.map true (Ty.arr .u8 20) true Y34 ch.1 t3.2.1, Res.map true (Ty.arr .u8 20) false yi ch.2 t3.2.2, Res.cells g1 28 [.b20 [0, 0, 0, 0, 0, 0, 0, 0, 0, 0, 0, 0, 0, 0, 0, 0, 0, 0, 0, 1]]]) (fun _ => rfl) N12 rfl rfl (fun ok => ok) (.c0 (.c0 (.c0 (.c0 .n)))) rfl (fork_Cache_Want.ok t2.2 [0, 0, 0, 0, 0, 0, 0, 0, 0, 0, 0, 0, 0, 0, 0, 0, 0, 0, 0, 1] ch1.1 ch2.1 ch2.2 t3 et3 _ _) fun ch3 m le1 a w S => ?_)
 replace le := le.trans le1
 refine CL.bk hw S (.c3 .n) le fun hw => ?_
 replace CL := CL.add (t := 12) (d := (.v (.int .u8 t3.1))) S rfl rfl
 refine h_assign S CL hw le (subR rfl) rfl rfl rfl trivial fun a S CL => h_assign S CL hw le (subR rfl) rfl rfl rfl trivial fun a S CL => ?_
 refine h_done ?_; clear CL hw le
 refine x_thenN (wp_seq_k fun K1 hK1 => ?_)
 have j1 : ∀ m g10 g11 g12 y1 g13 y2 a w, St 38 m b0 [(4, (.v (.int .u8 t3.1))), (3, (.v (.int .u8 t2.1))), (2, (.p g10)), (1, (.p g11))] [Res.cells g11 76 [.one (.map (some g12)), .one (.map (some g13))], Res.map true (Ty.arr .u8 20) true Y34 g12 y1, Res.map true (Ty.arr .u8 20) false yi g13 y2, Res.cells g10 28 [.b20 [0, 0, 0, 0, 0, 0, 0, 0, 0, 0, 0, 0, 0, 0, 0, 0, 0, 0, 0, 1]]] a w → smithylaw15_fixed.j1 t2 t3 y1 y2 = some r → K1 a w := by
  intro m g10 g11 g12 y1 g13 y2 a w S h0
  delta smithylaw15_fixed.j1 at h0
  refine hK1 a w (c_region (s_move S rfl rfl fun a S => s_bin S rfl rfl rfl rfl fun a S => s_move S rfl rfl fun a S => ?_))
  rcases ite_of h0 with ⟨c1, h1⟩ | ⟨c1, h1⟩
  ·refine s_gT S (b := (t2.1 == 3)) rfl rfl c1 (s_move S rfl rfl fun a S => s_gT S (b := (t2.1 == 3)) rfl rfl c1 (s_bin S rfl rfl rfl rfl fun a S => s_pick S (b := true) (hc_of rfl c1) rfl rfl fun a S => s_move S rfl rfl fun a S => ?_))
   rcases ite_of h1 with ⟨c2, h2⟩ | ⟨c2, h2⟩
   ·refine s_gT S (b := (t3.1 == 2)) rfl rfl c2 (s_move S rfl rfl fun a S => s_gT S (b := (t3.1 == 2)) rfl rfl c2 (s_loada S rfl .h3 T28 (s' := [.b20 [0, 0, 0, 0, 0, 0, 0, 0, 0, 0, 0, 0, 0, 0, 0, 0, 0, 0, 0, 1]]) rfl rfl fun a S => s_gT S (b := (t3.1 == 2)) rfl rfl c2 (bindX h2 fun t4 et4 h3 => s_callX S (ds' := [(.p g11), (.agg [.b20 [0, 0, 0, 0, 0, 0, 0, 0, 0, 0, 0, 0, 0, 0, 0, 0, 0, 0, 0, 1]])]) (ds := [(.p g11), (.agg [.b20 [0, 0, 0, 0, 0, 0, 0, 0, 0, 0, 0, 0, 0, 0, 0, 0, 0, 0, 0, 1]])]) [Res.cells g11 76 [.one (.map (some g12)), .one (.map (some g13))], Res.map true (Ty.arr .u8 20) true Y34 g12 y1, Res.map true (Ty.arr .u8 20) false yi g13 y2] [Res.cells g10 28 [.b20 [0, 0, 0, 0, 0, 0, 0, 0, 0, 0, 0, 0, 0, 0, 0, 0, 0, 0, 0, 1]]] (fun (ch : Nat × Nat) => ((.v (.int .u8 t4.1)) : D)) (fun (ch : Nat × Nat) => [Res.cells g11 76 [.one (.map (some ch.1)), .one (.map (some ch.2))], Res.map true (Ty.arr .u8 20) true Y34 ch.1 t4.2.1, Res.map true (Ty.arr .u8 20) false yi ch.2 t4.2.2]) (fun (ch : Nat × Nat) => [Res.cells g11 76 [.one (.map (some ch.1)), .one (.map (some ch.2))], Res.map true (Ty.arr .u8 20) true Y34 ch.1 t4.2.1, Res.map true (Ty.arr .u8 20) false yi ch.2 t4.2.2, Res.cells g10 28 [.b20 [0, 0, 0, 0, 0, 0, 0, 0, 0, 0, 0, 0, 0, 0, 0, 0, 0, 0, 0, 1]]]) (fun _ => rfl) N13 rfl rfl (fun ok => ok) (.c0 (.c0 (.c0 (.c0 .n)))) rfl (fork_Cache_Fail.ok (y1, y2) [0, 0, 0, 0, 0, 0, 0, 0, 0, 0, 0, 0, 0, 0, 0, 0, 0, 0, 0, 1] g11 g12 g13 t4 et4 _ _) fun ch4 m le1 a w S => s_gT S (b := (t3.1 == 2)) rfl rfl c2 (s_bin S rfl rfl rfl rfl fun a S => s_pick S (b := true) (hc_of rfl c2) rfl rfl fun a S => s_move S rfl rfl fun a S => ?_))))
    rcases ite_of h3 with ⟨c3, h4⟩ | ⟨c3, h4⟩
    ·refine s_gT S (b := (t4.1 == 5)) rfl rfl c3 (s_move S rfl rfl fun a S => s_gT S (b := (t4.1 == 5)) rfl rfl c3 (s_loada S rfl .h3 T28 (s' := [.b20 [0, 0, 0, 0, 0, 0, 0, 0, 0, 0, 0, 0, 0, 0, 0, 0, 0, 0, 0, 1]]) rfl rfl fun a S => s_gT S (b := (t4.1 == 5)) rfl rfl c3 (bindX h4 fun t5 et5 h5 => s_callX S (ds' := [(.p g11), (.agg [.b20 [0, 0, 0, 0, 0, 0, 0, 0, 0, 0, 0, 0, 0, 0, 0, 0, 0, 0, 0, 1]])]) (ds := [(.p g11), (.agg [.b20 [0, 0, 0, 0, 0, 0, 0, 0, 0, 0, 0, 0, 0, 0, 0, 0, 0, 0, 0, 1]])]) [Res.cells g11 76 [.one (.map (some ch4.1)), .one (.map (some ch4.2))], Res.map true (Ty.arr .u8 20) true Y34 ch4.1 t4.2.1, Res.map true (Ty.arr .u8 20) false yi ch4.2 t4.2.2] [Res.cells g10 28 [.b20 [0, 0, 0, 0, 0, 0, 0, 0, 0, 0, 0, 0, 0, 0, 0, 0, 0, 0, 0, 1]]] (fun (ch : Nat × Nat) => ((.v (.int .u8 t5.1)) : D)) (fun (ch : Nat × Nat) => [Res.cells g11 76 [.one (.map (some ch.1)), .one (.map (some ch.2))], Res.map true (Ty.arr .u8 20) true Y34 ch.1 t5.2.1, Res.map true (Ty.arr .u8 20) false yi ch.2 t5.2.2]) (fun (ch : Nat × Nat) => [Res.cells g11 76 [.one (.map (some ch.1)), .one (.map (some ch.2))], Res.map true (Ty.arr .u8 20) true Y34 ch.1 t5.2.1, Res.map true (Ty.arr .u8 20) false yi ch.2 t5.2.2, Res.cells g10 28 [.b20 [0, 0, 0, 0, 0, 0, 0, 0, 0, 0, 0, 0, 0, 0, 0, 0, 0, 0, 0, 1]]]) (fun _ => rfl) N12 rfl rfl (fun ok => ok) (.c0 (.c0 (.c0 (.c0 .n)))) rfl (fork_Cache_Want.ok t4.2 [0, 0, 0, 0, 0, 0, 0, 0, 0, 0, 0, 0, 0, 0, 0, 0, 0, 0, 0, 1] g11 ch4.1 ch4.2 t5 et5 _ _) fun ch5 m le1 a w S => s_gT S (b := (t4.1 == 5)) rfl rfl c3 (s_bin S rfl rfl rfl rfl fun a S => s_pick S (b := true) (hc_of rfl c3) rfl rfl fun a S => s_assign S rfl rfl fun a S => c_end (wp_ret ?_)))))
     obtain rfl := Option.some.inj h5
     exact b_ret1 (d := (.b (t5.1 == 3))) S rfl rfl (S.rt hb)
    ·refine s_gF S (b := (t4.1 == 5)) rfl rfl c3 rfl fun a S => s_gF S (b := (t4.1 == 5)) rfl rfl c3 rfl fun a S => s_gF S (b := (t4.1 == 5)) rfl rfl c3 rfl fun a S => s_gF S (b := (t4.1 == 5)) rfl rfl c3 rfl fun a S => s_pick S (b := false) (hc_of rfl c3) rfl rfl fun a S => s_assign S rfl rfl fun a S => c_end (wp_ret ?_)
     obtain rfl := Option.some.inj h4
     exact b_ret1 (d := (.b false)) S rfl rfl (S.rt hb)
   ·refine s_gF S (b := (t3.1 == 2)) rfl rfl c2 rfl fun a S => s_gF S (b := (t3.1 == 2)) rfl rfl c2 rfl fun a S => s_gF S (b := (t3.1 == 2)) rfl rfl c2 rfl fun a S => s_gF S (b := (t3.1 == 2)) rfl rfl c2 rfl fun a S => s_pick S (b := false) (hc_of rfl c2) rfl rfl fun a S => s_move S rfl rfl fun a S => s_gF S (b := false) rfl rfl rfl rfl fun a S => s_gF S (b := false) rfl rfl rfl rfl fun a S => s_gF S (b := false) rfl rfl rfl rfl fun a S => s_gF S (b := false) rfl rfl rfl rfl fun a S => s_pick S (b := false) (hc_of rfl rfl) rfl rfl fun a S => s_assign S rfl rfl fun a S => c_end (wp_ret ?_)
    obtain rfl := Option.some.inj h2
    exact b_ret1 (d := (.b false)) S rfl rfl (S.rt hb)
  ·refine s_gF S (b := (t2.1 == 3)) rfl rfl c1 rfl fun a S => s_gF S (b := (t2.1 == 3)) rfl rfl c1 rfl fun a S => s_pick S (b := false) (hc_of rfl c1) rfl rfl fun a S => s_move S rfl rfl fun a S => s_gF S (b := false) rfl rfl rfl rfl fun a S => s_gF S (b := false) rfl rfl rfl rfl fun a S => s_gF S (b := false) rfl rfl rfl rfl fun a S => s_gF S (b := false) rfl rfl rfl rfl fun a S => s_pick S (b := false) (hc_of rfl rfl) rfl rfl fun a S => s_move S rfl rfl fun a S => s_gF S (b := false) rfl rfl rfl rfl fun a S => s_gF S (b := false) rfl rfl rfl rfl fun a S => s_gF S (b := false) rfl rfl rfl rfl fun a S => s_gF S (b := false) rfl rfl rfl rfl fun a S => s_pick S (b := false) (hc_of rfl rfl) rfl rfl fun a S => s_assign S rfl rfl fun a S => c_end (wp_ret ?_)
   obtain rfl := Option.some.inj h1
   exact b_ret1 (d := (.b false)) S rfl rfl (S.rt hb)
 refine c_region (s_move S rfl rfl fun a S => c_end (wp_block ?_))
 refine c_loop (fun q1 a w => ∃ m y4 g18 g19 g20 y5 g21 y6, St 38 m b0 [(13, (.i y4)), (4, (.v (.int .u8 t3.1))), (3, (.v (.int .u8 t2.1))), (2, (.p g18)), (1, (.p g19))] [Res.cells g19 76 [.one (.map (some g20)), .one (.map (some g21))], Res.map true (Ty.arr .u8 20) true Y34 g20 y5, Res.map true (Ty.arr .u8 20) false yi g21 y6, Res.cells g18 28 [.b20 [0, 0, 0, 0, 0, 0, 0, 0, 0, 0, 0, 0, 0, 0, 0, 0, 0, 0, 0, 1]]] a w ∧ smithylaw15_fixed.l1 t2 t3 q1 y4 y5 y6 = some r) ?_ ?_ (k := k) ⟨_, 0, g1, ch1.1, ch3.1, t3.2.1, ch3.2, t3.2.2, (S.sb rfl (.c0 (.c0 (.c0 (.c0 .n))))), h3⟩
 ·rintro a w ⟨m, y4, g18, g19, g20, y5, g21, y6, S, h0⟩
  exact (nomatch (show (none : Option Bool) = some r from h0))
 ·clear S h3
  rintro q1 a w ⟨m, y4, g18, g19, g20, y5, g21, y6, S, h0⟩
  replace h0 : smithylaw15_fixed.b1 t2 t3 (smithylaw15_fixed.l1 t2 t3 q1) y4 y5 y6 = some r := h0
  delta smithylaw15_fixed.b1 at h0
  refine c_region (s_bin S rfl rfl rfl rfl fun a S => c_end (wp_seq ?_))
  rcases ite_of h0 with ⟨c4, h1⟩ | ⟨c4, h1⟩
  ·refine c_condT S rfl c4 (wp_skip (x_thenN (wp_seq (wp_block (c_region (s_move S rfl rfl fun a S => s_loada S rfl .h3 T28 (s' := [.b20 [0, 0, 0, 0, 0, 0, 0, 0, 0, 0, 0, 0, 0, 0, 0, 0, 0, 0, 0, 1]]) rfl rfl fun a S => bindX h1 fun t8 et8 h2 => s_callX S (ds' := [(.p g19), (.agg [.b20 [0, 0, 0, 0, 0, 0, 0, 0, 0, 0, 0, 0, 0, 0, 0, 0, 0, 0, 0, 1]])]) (ds := [(.p g19), (.agg [.b20 [0, 0, 0, 0, 0, 0, 0, 0, 0, 0, 0, 0, 0, 0, 0, 0, 0, 0, 0, 1]])]) [Res.cells g19 76 [.one (.map (some g20)), .one (.map (some g21))], Res.map true (Ty.arr .u8 20) true Y34 g20 y5, Res.map true (Ty.arr .u8 20) false yi g21 y6] [Res.cells g18 28 [.b20 [0, 0, 0, 0, 0, 0, 0, 0, 0, 0, 0, 0, 0, 0, 0, 0, 0, 0, 0, 1]]] (fun (ch : Nat × Nat) => ((.v (.int .u8 t8.1)) : D)) (fun (ch : Nat × Nat) => [Res.cells g19 76 [.one (.map (some ch.1)), .one (.map (some ch.2))], Res.map true (Ty.arr .u8 20) true Y34 ch.1 t8.2.1, Res.map true (Ty.arr .u8 20) false yi ch.2 t8.2.2]) (fun (ch : Nat × Nat) => [Res.cells g19 76 [.one (.map (some ch.1)), .one (.map (some ch.2))], Res.map true (Ty.arr .u8 20) true Y34 ch.1 t8.2.1, Res.map true (Ty.arr .u8 20) false yi ch.2 t8.2.2, Res.cells g18 28 [.b20 [0, 0, 0, 0, 0, 0, 0, 0, 0, 0, 0, 0, 0, 0, 0, 0, 0, 0, 0, 1]]]) (fun _ => rfl) N13 rfl rfl (fun ok => ok) (.c0 (.c0 (.c0 (.c0 .n)))) rfl (fork_Cache_Fail.ok (y5, y6) [0, 0, 0, 0, 0, 0, 0, 0, 0, 0, 0, 0, 0, 0, 0, 0, 0, 0, 0, 1] g19 g20 g21 t8 et8 _ _) fun ch8 m le1 a w S => s_bin S rfl rfl rfl rfl fun a S => c_end ?_))))))
   rcases ite_of h2 with ⟨c5, h3⟩ | ⟨c5, h3⟩
   ·refine c_condT S rfl c5 (c_region (s_assign S rfl rfl fun a S => c_end (wp_ret (x_blockR (x_thenR (x_thenR (x_blockR (x_thenR ?_))))))))
    obtain rfl := Option.some.inj h3
    exact b_ret1 (d := (.b false)) S rfl rfl (S.rt hb)
   ·refine c_condF S rfl c5 (wp_skip (x_blockN (x_thenN (c_region' (s_bin S rfl rfl rfl rfl fun a S => s_move S rfl rfl fun a S => c_end' (x_thenN ?_))))))
    exact ⟨_, (wr .i64 (y4 + 1)), g18, g19, ch8.1, t8.2.1, ch8.2, t8.2.2, (S.sb rfl (.c0 (.c0 (.c0 (.c0 .n))))), h3⟩
  ·refine c_condF S rfl c4 (wp_exit (x_thenX (x_thenX (x_blockX (x_thenN ?_)))))
   exact j1 _ g18 g19 g20 y5 g21 y6 a w (S.sb rfl (.c0 (.c0 (.c0 (.c0 .n))))) h1
abbrev smithyref01_Of.Ty : Type := (List Int) → Option ((List Int))
def smithyref01_Of.Ctr (s : smithyref01_Of.Ty) : Prop := ∀ (x1 : List Int) (r : (List Int)), Ct (C := Unit) Try.prog 41 (s x1 = some r) [] [(.a4 x1)] (fun _ => (.agg [.ints .i64 r 32])) fun _ => []
def smithyref01_Of.j1 (y1 : List Int) : Option ((List Int)) := some y1
def smithyref01_Of.b1 (x1 : List Int) (rec1 : Int → (List Int) → Option ((List Int))) (y4 : Int) (y5 : List Int) : Option ((List Int)) := if (decide (y4 < 32)) = true then (if (0 : Int) ≤ (wr .i64 (Int.tdiv y4 8)) ∧ (wr .i64 (Int.tdiv y4 8)) < 4 then (if (0 : Int) ≤ (wr .i64 (8 * (Int.tmod y4 8))) then (if (0 : Int) ≤ y4 ∧ y4 < 32 then (rec1 (wr .i64 (y4 + 1)) (y5.set (Int.toNat y4) (wr .i64 (Int.tmod (shr (rd x1 (wr .i64 (Int.tdiv y4 8))) (min (Int.toNat (wr .i64 (8 * (Int.tmod y4 8)))) 64)) 256)))) else none) else none) else none) else (smithyref01_Of.j1 y5)
def smithyref01_Of.l1 (x1 : List Int) : Nat → Int → (List Int) → Option ((List Int))
  | 0, _, _ => none
  | q + 1, y4, y5 => smithyref01_Of.b1 x1 (smithyref01_Of.l1 x1 q) y4 y5
def smithyref01_Of.f (k : Nat) (x1 : List Int) : Option ((List Int)) := smithyref01_Of.l1 x1 k 0 [0, 0, 0, 0, 0, 0, 0, 0, 0, 0, 0, 0, 0, 0, 0, 0, 0, 0, 0, 0, 0, 0, 0, 0, 0, 0, 0, 0, 0, 0, 0, 0]
theorem smithyref01_Of.ok (k : Nat) : smithyref01_Of.Ctr (smithyref01_Of.f k) := by
 intro x1 r h0 mi w0 ok hm
 delta smithyref01_Of.f at h0
 refine c_enterZ (n := 23) ok hm func41 rfl rfl rfl fun b0 hb a S => c_region (s_box S rfl rfl rfl fun g1 a w S => s_alloc S Z94 rfl ⟨rfl, trivial⟩ rfl fun g2 a w S => c_end (c_region (s_build S (ds := []) (dv := (.agg [.ints .i64 z32 32])) rfl (fun _ => by kernel_rfl) ⟨rfl, trivial⟩ rfl fun a S => s_alloc S Z94 rfl ⟨rfl, trivial⟩ rfl fun g3 a w S => s_store S rfl rfl rfl (s' := [.ints .i64 z32 32]) .h T94 rfl rfl fun w S => c_end (wp_seq_k fun K1 hK1 => ?_))))
 have j1 : ∀ m g13 g14 y1 a w, St 23 m b0 [(3, (.p g13)), (2, (.p g14))] [Res.cells g13 94 [.ints .i64 y1 32], Res.cells g14 94 [.ints .i64 z32 32]] a w → smithyref01_Of.j1 y1 = some r → K1 a w := by
  intro m g13 g14 y1 a w S h0
  delta smithyref01_Of.j1 at h0
  refine hK1 a w (c_region (s_loada S rfl .h T94 (s' := [.ints .i64 y1 32]) rfl rfl fun a S => s_store S rfl rfl rfl (s' := [.ints .i64 y1 32]) .h1 T94 rfl rfl fun w S => c_end (wp_ret ?_)))
  obtain rfl := Option.some.inj h0
  exact b_ret1 (d := (.agg [.ints .i64 y1 32])) S rfl (resD_cell rfl .h1 T94 rfl rfl) (S.rt hb)
 refine c_region (s_assign S rfl rfl fun a S => c_end (wp_block ?_))
 refine c_loop (fun q1 a w => ∃ m y4 g21 g22 g23 y5, St 23 m b0 [(4, (.i y4)), (3, (.p g21)), (2, (.p g22)), (1, (.p g23))] [Res.cells g21 94 [.ints .i64 y5 32], Res.cells g22 94 [.ints .i64 z32 32], Res.cells g23 31 [.w4 x1]] a w ∧ smithyref01_Of.l1 x1 q1 y4 y5 = some r) ?_ ?_ (k := k) ⟨_, 0, g3, g2, g1, z32, (S.sb rfl (.c0 (.c0 (.c0 .n)))), h0⟩
 ·rintro a w ⟨m, y4, g21, g22, g23, y5, S, h0⟩
  exact (nomatch (show (none : Option ((List Int))) = some r from h0))
 ·clear S h0
  rintro q1 a w ⟨m, y4, g21, g22, g23, y5, S, h0⟩
  replace h0 : smithyref01_Of.b1 x1 (smithyref01_Of.l1 x1 q1) y4 y5 = some r := h0
  delta smithyref01_Of.b1 at h0
  refine wp_seq (c_region (s_move S rfl rfl fun a S => s_bin S rfl rfl rfl rfl fun a S => c_end ?_))
  rcases ite_of h0 with ⟨c1, h1⟩ | ⟨c1, h1⟩
  ·refine c_condT S rfl c1 (wp_skip (x_thenN (wp_seq (wp_block (c_region' (s_move S rfl rfl fun a S => s_move S rfl rfl fun a S => s_quo S rfl rfl (by decide) rfl fun a S => ?_))))))
   obtain ⟨c2, h2⟩ := chk_of h1; clear h1
   refine s_iaddr S rfl rfl underlying31 T29 c2.1 c2.2 (mul1 _ _) rfl fun a S => s_loadi S (i := (wr .i64 (Int.tdiv y4 8))) rfl .h2 T29 .h rfl c2.1 c2.2 rfl fun a S => s_move S rfl rfl fun a S => s_rem S rfl rfl (by decide) rfl fun a S => s_bin S rfl rfl rfl rfl fun a S => ?_
   obtain ⟨c3, h3⟩ := chk_of h2; clear h2
   refine s_shr S (e := (min (Int.toNat (wr .i64 (8 * (Int.tmod y4 8)))) 64)) rfl rfl c3 rfl rfl fun a S => s_rem S rfl rfl (by decide) rfl fun a S => s_conv S rfl rfl underlying3 rfl fun a S => ?_
   obtain ⟨c4, h4⟩ := chk_of h3; clear h3
   refine s_iaddr S rfl rfl underlying94 T3 c4.1 c4.2 (mul1 _ _) rfl fun a S => s_storei S (i := y4) rfl rfl .h T3 .h rfl c4.1 c4.2 fun w S => c_end' (x_blockN (x_thenN (c_region' (s_move S rfl rfl fun a S => s_bin S rfl rfl rfl rfl fun a S => s_assign S rfl rfl fun a S => c_end' (x_thenN ?_)))))
   exact ⟨_, (wr .i64 (y4 + 1)), g21, g22, g23, (y5.set (Int.toNat y4) (wr .i64 (Int.tmod (shr (rd x1 (wr .i64 (Int.tdiv y4 8))) (min (Int.toNat (wr .i64 (8 * (Int.tmod y4 8)))) 64)) 256))), (S.sb rfl (.c0 (.c0 (.c0 .n)))), h4⟩
  ·refine c_condF S rfl c1 (wp_exit (x_thenX (x_thenX (x_blockX (x_thenN ?_)))))
   exact j1 _ g21 g22 y5 a w (S.sb rfl (.c0 (.c0 .n))) h1
abbrev smithyref01_Compare.Ty : Type := (List Int) → (List Int) → Option Int
def smithyref01_Compare.Ctr (s : smithyref01_Compare.Ty) : Prop := ∀ (x1 : List Int) (x2 : List Int) (r : Int), Ct (C := Unit) Try.prog 40 (s x1 x2 = some r) [] [(.agg [.ints .i64 x1 32]), (.agg [.ints .i64 x2 32])] (fun _ => (.i r)) fun _ => []
def smithyref01_Compare.j1 : Option Int := some 0
def smithyref01_Compare.b1 (x1 : List Int) (x2 : List Int) (rec1 : Int → Option Int) (y1 : Int) : Option Int := if (decide (0 ≤ y1)) = true then (if (0 : Int) ≤ y1 ∧ y1 < 32 then (if (decide ((rd x1 y1) < (rd x2 y1))) = true then (some (-1)) else (if (decide ((rd x2 y1) < (rd x1 y1))) = true then (some 1) else (rec1 (wr .i64 (y1 - 1))))) else none) else smithyref01_Compare.j1
def smithyref01_Compare.l1 (x1 : List Int) (x2 : List Int) : Nat → Int → Option Int
  | 0, _ => none
  | q + 1, y1 => smithyref01_Compare.b1 x1 x2 (smithyref01_Compare.l1 x1 x2 q) y1
def smithyref01_Compare.f (k : Nat) (x1 : List Int) (x2 : List Int) : Option Int := smithyref01_Compare.l1 x1 x2 k 31
theorem smithyref01_Compare.ok (k : Nat) : smithyref01_Compare.Ctr (smithyref01_Compare.f k) := by
 intro x1 x2 r h0 mi w0 ok hm
 delta smithyref01_Compare.f at h0
 refine c_enterZ (n := 24) ok hm func40 rfl rfl rfl fun b0 hb a S => c_region (s_box S rfl rfl rfl fun g1 a w S => s_box S rfl rfl rfl fun g2 a w S => s_assign S rfl rfl fun a S => c_end (wp_seq_k fun K1 hK1 => ?_))
 have j1 : ∀ m a w, St 24 m b0 [] [] a w → smithyref01_Compare.j1 = some r → K1 a w := by
  intro m a w S h0
  delta smithyref01_Compare.j1 at h0
  refine hK1 a w (c_region (s_assign S rfl rfl fun a S => c_end (wp_ret ?_)))
  obtain rfl := Option.some.inj h0
  exact b_ret1 (d := (.i 0)) S rfl rfl (S.rt hb)
 refine c_region (s_assign S rfl rfl fun a S => c_end (wp_block ?_))
 refine c_loop (fun q1 a w => ∃ m y1 g13 g14, St 24 m b0 [(5, (.i y1)), (3, (.p g13)), (2, (.p g14))] [Res.cells g13 94 [.ints .i64 x2 32], Res.cells g14 94 [.ints .i64 x1 32]] a w ∧ smithyref01_Compare.l1 x1 x2 q1 y1 = some r) ?_ ?_ (k := k) ⟨_, 31, g2, g1, (S.sb rfl (.c0 (.c0 .n))), h0⟩
 ·rintro a w ⟨m, y1, g13, g14, S, h0⟩
  exact (nomatch (show (none : Option Int) = some r from h0))
 ·clear S h0
  rintro q1 a w ⟨m, y1, g13, g14, S, h0⟩
  replace h0 : smithyref01_Compare.b1 x1 x2 (smithyref01_Compare.l1 x1 x2 q1) y1 = some r := h0
  delta smithyref01_Compare.b1 at h0
  refine wp_seq (c_region (s_move S rfl rfl fun a S => s_bin S rfl rfl rfl rfl fun a S => c_end ?_))
  rcases ite_of h0 with ⟨c1, h1⟩ | ⟨c1, h1⟩
  ·refine c_condT S rfl c1 (wp_skip (x_thenN (wp_seq (wp_block (wp_seq ?_)))))
   refine wp_seq (c_heldS S (.take 0 (.take 1 (.take 2 (.take 3 (.take 4 (.take 5 (.take 6 .done))))))) 7 [Res.cells g13 94 [.ints .i64 x2 32], Res.cells g14 94 [.ints .i64 x1 32]] (.c0 (.c0 .n)) ⟨Res.stay_cells, Res.stay_cells, trivial⟩ [(5, (.i y1)), (3, (.p g13)), (2, (.p g14))] (subR rfl) (by kernel_rfl) (by kernel_rfl) ?_); clear S; intro w S CL hw le
   refine h_move S CL hw le (subR rfl) rfl rfl rfl trivial fun a S CL => ?_
   obtain ⟨c2, h2⟩ := chk_of h1; clear h1
   refine h_iaddr S CL hw le (subR rfl) rfl rfl underlying94 T3 c2.1 c2.2 (mul1 _ _) rfl rfl trivial fun a S CL => h_loadi S CL hw le (subR rfl) (i := y1) rfl .h1 T3 .h rfl c2.1 c2.2 rfl rfl trivial fun a S CL => h_move S CL hw le (subR rfl) rfl rfl rfl trivial fun a S CL => h_iaddr S CL hw le (subR rfl) rfl rfl underlying94 T3 c2.1 c2.2 (mul1 _ _) rfl rfl trivial fun a S CL => h_loadi S CL hw le (subR rfl) (i := y1) rfl .h T3 .h rfl c2.1 c2.2 rfl rfl trivial fun a S CL => h_bin S CL hw le (subR rfl) rfl rfl rfl rfl rfl trivial fun a S CL => ?_
   refine h_done ?_; clear CL hw le
   refine x_thenN ?_
   rcases ite_of h2 with ⟨c3, h3⟩ | ⟨c3, h3⟩
   ·refine c_condT S rfl c3 (c_region (s_assign S rfl rfl fun a S => c_end (wp_ret (x_thenR (x_blockR (x_thenR (x_thenR (x_blockR (x_thenR ?_)))))))))
    obtain rfl := Option.some.inj h3
    exact b_ret1 (d := (.i (-1))) S rfl rfl (S.rt hb)
   ·refine c_condF S rfl c3 (wp_skip (x_thenN ?_))
    refine wp_seq (c_heldS S (.take 0 (.take 1 (.take 2 (.take 3 (.take 4 (.take 5 (.take 6 .done))))))) 7 [Res.cells g13 94 [.ints .i64 x2 32], Res.cells g14 94 [.ints .i64 x1 32]] (.c0 (.c0 .n)) ⟨Res.stay_cells, Res.stay_cells, trivial⟩ [(5, (.i y1)), (3, (.p g13)), (2, (.p g14))] (subR rfl) (by kernel_rfl) (by kernel_rfl) ?_); clear S; intro w S CL hw le
    refine h_move S CL hw le (subR rfl) rfl rfl rfl trivial fun a S CL => h_iaddr S CL hw le (subR rfl) rfl rfl underlying94 T3 c2.1 c2.2 (mul1 _ _) rfl rfl trivial fun a S CL => h_loadi S CL hw le (subR rfl) (i := y1) rfl .h1 T3 .h rfl c2.1 c2.2 rfl rfl trivial fun a S CL => h_move S CL hw le (subR rfl) rfl rfl rfl trivial fun a S CL => h_iaddr S CL hw le (subR rfl) rfl rfl underlying94 T3 c2.1 c2.2 (mul1 _ _) rfl rfl trivial fun a S CL => h_loadi S CL hw le (subR rfl) (i := y1) rfl .h T3 .h rfl c2.1 c2.2 rfl rfl trivial fun a S CL => h_bin S CL hw le (subR rfl) rfl rfl rfl rfl rfl trivial fun a S CL => ?_
    refine h_done ?_; clear CL hw le
    refine x_thenN ?_
    rcases ite_of h3 with ⟨c4, h4⟩ | ⟨c4, h4⟩
    ·refine c_condT S rfl c4 (c_region (s_assign S rfl rfl fun a S => c_end (wp_ret (x_blockR (x_thenR (x_thenR (x_blockR (x_thenR ?_))))))))
     obtain rfl := Option.some.inj h4
     exact b_ret1 (d := (.i 1)) S rfl rfl (S.rt hb)
    ·refine c_condF S rfl c4 (wp_skip (x_blockN (x_thenN (c_region' (s_move S rfl rfl fun a S => s_bin S rfl rfl rfl rfl fun a S => s_assign S rfl rfl fun a S => c_end' (x_thenN ?_))))))
     exact ⟨_, (wr .i64 (y1 - 1)), g13, g14, (S.sb rfl (.c0 (.c0 .n))), h4⟩
  ·refine c_condF S rfl c1 (wp_exit (x_thenX (x_thenX (x_blockX (x_thenN ?_)))))
   exact j1 _ a w (S.sub trivial .nil) h1
abbrev smithyref13_less.Ty : Type := (List Int) → (List Int) → Option Bool
def smithyref13_less.Ctr (s : smithyref13_less.Ty) : Prop := ∀ (x1 : List Int) (x2 : List Int) (r : Bool), Ct (C := Unit) Try.prog 29 (s x1 x2 = some r) [] [(.a4 x1), (.a4 x2)] (fun _ => (.b r)) fun _ => []
def smithyref13_less.f (k : Nat) (x1 : List Int) (x2 : List Int) : Option Bool := (smithyref01_Of.f k x1).bind fun t1 => ((smithyref01_Of.f k x2).bind fun t2 => ((smithyref01_Compare.f k t1 t2).bind fun t3 => (some (decide (t3 < 0)))))
theorem smithyref13_less.ok (k : Nat) : smithyref13_less.Ctr (smithyref13_less.f k) := by
 intro x1 x2 r h0 mi w0 ok hm
 delta smithyref13_less.f at h0
 refine c_enterZ (n := 11) ok hm func29 rfl rfl rfl fun b0 hb a S => c_region (s_box S rfl rfl rfl fun g1 a w S => s_box S rfl rfl rfl fun g2 a w S => s_assign S rfl rfl fun a S => c_end ?_)
 refine wp_seq (c_heldS S (.take 0 (.take 2 (.alts (.run 1 true (.alts (.run 3 true (.alts (.run 4 true (.take 5 (.take 6 .done)) .nil)) .nil)) .nil)))) 7 [Res.cells g2 31 [.w4 x2], Res.cells g1 31 [.w4 x1]] (.c0 (.c0 .n)) ⟨Res.stay_cells, Res.stay_cells, trivial⟩ [(3, (.p g2)), (2, (.p g1))] (subR rfl) (by kernel_rfl) (by kernel_rfl) ?_); clear S; intro w S CL hw le
 refine h_loada S CL hw le (subR rfl) rfl .h1 T31 (s' := [.w4 x1]) rfl rfl rfl trivial fun a S CL => h_loada S CL hw le (subR rfl) rfl .h T31 (s' := [.w4 x2]) rfl rfl rfl trivial fun a S CL => h_run' S rfl trivial (bindX h0 fun t1 et1 h1 => s_callP S _ N41 rfl rfl (smithyref01_Of.ok k x1 t1 et1 _ _) fun ch1 m le1 a w S => ?_)
 replace le := le.trans le1
 refine CL.bk hw S (.c0 (.c0 .n)) le fun hw => h_run' S rfl trivial (bindX h1 fun t2 et2 h2 => s_callP S _ N41 rfl rfl (smithyref01_Of.ok k x2 t2 et2 _ _) fun ch2 m le1 a w S => ?_)
 replace le := le.trans le1
 refine CL.bk hw S (.c0 (.c0 .n)) le fun hw => h_run' S rfl trivial (bindX h2 fun t3 et3 h3 => s_callP S _ N40 rfl rfl (smithyref01_Compare.ok k t1 t2 t3 et3 _ _) fun ch3 m le1 a w S => ?_)
 replace le := le.trans le1
 refine CL.bk hw S (.c0 (.c0 .n)) le fun hw => ?_
 replace CL := CL.add (t := 9) (d := (.i t3)) S rfl rfl
 refine h_bin S CL hw le (subR rfl) rfl rfl rfl rfl rfl trivial fun a S CL => h_assign S CL hw le (subR rfl) rfl rfl rfl trivial fun a S CL => ?_
 refine h_done ?_; clear CL hw le
 refine x_thenN (wp_ret ?_)
 obtain rfl := Option.some.inj h3
 exact b_ret1 (d := (.b (decide (t3 < 0)))) S rfl rfl (S.rt hb)
abbrev smithyref13_Right.Ty : Type := (L34) → Option Bool
def smithyref13_Right.Ctr (s : smithyref13_Right.Ty) : Prop := ∀ (x1 : L34) (ch_0_0 : Option Addr) (ch_0_1 : Nat) (ch_0_2 : Option Addr) (ch_0_3 : Nat) (r : Bool), Ct (C := Unit) Try.prog 9 (s x1 = some r) [] [(.agg [.b20 x1.1, .w x1.2.1, .w4 x1.2.2.1, .q yb ch_0_0 ch_0_1 x1.2.2.2.1, .q Y71 ch_0_2 ch_0_3 x1.2.2.2.2])] (fun _ => (.b r)) fun _ => []
def smithyref13_Right.j1 : Option Bool := some true
def smithyref13_Right.j2 (y1 : Int) (rec1 : Int → Option Bool) (y2 : Bool) : Option Bool := if y2 = true then (some false) else (rec1 (wr .i64 (y1 + 1)))
def smithyref13_Right.b1 (k : Nat) (x1 : L34) (rec1 : Int → Option Bool) (y1 : Int) : Option Bool := if (decide (y1 < ((x1.2.2.2.2).length : Int))) = true then (if (0 : Int) ≤ y1 ∧ y1 < ((x1.2.2.2.2).length : Int) then (if (decide ((gt x1.2.2.2.2 y1).2 = [0, 0, 0, 0])) = true then (some false) else (if (decide (0 < y1)) = true then (if (0 : Int) ≤ (wr .i64 (y1 - 1)) ∧ (wr .i64 (y1 - 1)) < ((x1.2.2.2.2).length : Int) then ((smithyref13_less.f k ((gt x1.2.2.2.2 (wr .i64 (y1 - 1))).1) ((gt x1.2.2.2.2 y1).1)).bind fun t1 => (smithyref13_Right.j2 y1 rec1 (!t1))) else none) else (smithyref13_Right.j2 y1 rec1 false))) else none) else smithyref13_Right.j1
def smithyref13_Right.l1 (k : Nat) (x1 : L34) : Nat → Int → Option Bool
  | 0, _ => none
  | q + 1, y1 => smithyref13_Right.b1 k x1 (smithyref13_Right.l1 k x1 q) y1
def smithyref13_Right.f (k : Nat) (x1 : L34) : Option Bool := smithyref13_Right.l1 k x1 k 0
theorem smithyref13_Right.ok (k : Nat) : smithyref13_Right.Ctr (smithyref13_Right.f k) := by
 intro x1 ch_0_0 ch_0_1 ch_0_2 ch_0_3 r h0 mi w0 ok hm
 delta smithyref13_Right.f at h0
 refine c_enterZ (n := 38) ok hm func9 rfl rfl rfl fun b0 hb a S => c_region (s_box S rfl rfl rfl fun g1 a w S => s_assign S rfl rfl fun a S => c_end (wp_seq_k fun K1 hK1 => ?_))
 have j1 : ∀ m a w, St 38 m b0 [] [] a w → smithyref13_Right.j1 = some r → K1 a w := by
  intro m a w S h0
  delta smithyref13_Right.j1 at h0
  refine hK1 a w (c_region (s_assign S rfl rfl fun a S => c_end (wp_ret ?_)))
  obtain rfl := Option.some.inj h0
  exact b_ret1 (d := (.b true)) S rfl rfl (S.rt hb)
 refine c_region (s_fieldAddr S rfl I34_4 T32 (by decide) rfl rfl fun a S => s_loadSl S rfl .h T32 (A := ch_0_2) (len := (x1.2.2.2.2).length) (cap := ch_0_3) rfl rfl fun a S => s_lenS S rfl underlying32 rfl fun a S => s_move S rfl rfl fun a S => c_end (wp_block ?_))
 refine c_loop (fun q1 a w => ∃ m y1 g9, St 38 m b0 [(7, (.i y1)), (6, (.i ((x1.2.2.2.2).length : Int))), (1, (.p g9))] [Res.cells g9 34 [.b20 x1.1, .w x1.2.1, .w4 x1.2.2.1, .q yb ch_0_0 ch_0_1 x1.2.2.2.1, .q Y71 ch_0_2 ch_0_3 x1.2.2.2.2]] a w ∧ smithyref13_Right.l1 k x1 q1 y1 = some r) ?_ ?_ (k := k) ⟨_, 0, g1, (S.sb rfl (.c0 .n)), h0⟩
 ·rintro a w ⟨m, y1, g9, S, h0⟩
  exact (nomatch (show (none : Option Bool) = some r from h0))
 ·clear S h0
  rintro q1 a w ⟨m, y1, g9, S, h0⟩
  replace h0 : smithyref13_Right.b1 k x1 (smithyref13_Right.l1 k x1 q1) y1 = some r := h0
  delta smithyref13_Right.b1 at h0
  refine c_region (s_bin S rfl rfl rfl rfl fun a S => c_end (wp_seq ?_))
  rcases ite_of h0 with ⟨c1, h1⟩ | ⟨c1, h1⟩
  ·refine c_condT S rfl c1 (wp_skip (x_thenN (wp_seq (wp_block (c_region (s_move S rfl rfl fun a S => s_assign S rfl rfl fun a S => c_end (wp_seq (c_region (s_fieldAddr S rfl I34_4 T32 (by decide) rfl rfl fun a S => s_loadSl S rfl .h T32 (A := ch_0_2) (len := (x1.2.2.2.2).length) (cap := ch_0_3) rfl rfl fun a S => s_move S rfl rfl fun a S => ?_)))))))))
   obtain ⟨c2, h2⟩ := chk_of h1; clear h1
   refine s_iaddrS S rfl rfl rfl underlying32 T71 c2.1 c2.2 rfl fun p1 a S => s_faddrP S (tF := (Ty.arr .u64 4)) (y := (gt x1.2.2.2.2 y1).2) rfl I71_1 T31 (by decide) (fun m h => (at_snd (at_0 h))) rfl fun a S => s_ldA S (fun (c : Unit) => [.w4 ((gt x1.2.2.2.2 y1).2)]) rfl T31 (fun _ => rfl) rfl fun ch1 a S => ?_
   refine s_build S (ds := []) (dv := (.a4 [0, 0, 0, 0])) rfl (fun _ => by kernel_rfl) ⟨rfl, trivial⟩ rfl fun a S => s_eqa S rfl rfl underlying31 underlying29 T29 Q31 rfl fun a S => c_end ?_
   rcases ite_of h2 with ⟨c3, h3⟩ | ⟨c3, h3⟩
   ·refine c_condT S rfl c3 (c_region (s_assign S rfl rfl fun a S => c_end (wp_ret (x_thenR (x_blockR (x_thenR (x_thenR (x_blockR (x_thenR ?_)))))))))
    obtain rfl := Option.some.inj h3
    exact b_ret1 (d := (.b false)) S rfl rfl (S.rt hb)
   ·refine c_condF S rfl c3 (wp_skip (x_thenN (wp_seq_k fun K2 hK2 => ?_)))
    have j2 : ∀ m y2 g10 a w, St 38 m b0 [(36, (.b y2)), (7, (.i y1)), (6, (.i ((x1.2.2.2.2).length : Int))), (1, (.p g10))] [Res.cells g10 34 [.b20 x1.1, .w x1.2.1, .w4 x1.2.2.1, .q yb ch_0_0 ch_0_1 x1.2.2.2.1, .q Y71 ch_0_2 ch_0_3 x1.2.2.2.2]] a w → smithyref13_Right.j2 y1 (smithyref13_Right.l1 k x1 q1) y2 = some r → K2 a w := by
     intro m y2 g10 a w S h0
     delta smithyref13_Right.j2 at h0
     refine hK2 a w ?_
     rcases ite_of h0 with ⟨c4, h1⟩ | ⟨c4, h1⟩
     ·refine c_condT S rfl c4 (c_region (s_assign S rfl rfl fun a S => c_end (wp_ret (x_blockR (x_thenR (x_thenR (x_blockR (x_thenR ?_))))))))
      obtain rfl := Option.some.inj h1
      exact b_ret1 (d := (.b false)) S rfl rfl (S.rt hb)
     ·refine c_condF S rfl c4 (wp_skip (x_blockN (x_thenN (c_region' (s_bin S rfl rfl rfl rfl fun a S => s_move S rfl rfl fun a S => c_end' (x_thenN ?_))))))
      exact ⟨_, (wr .i64 (y1 + 1)), g10, (S.sb rfl (.c0 .n)), h1⟩
    refine c_heldS S (.take 0 (.take 1 (.take 2 (.take 3 (.take 4 (.take 5 (.take 6 (.take 7 (.take 8 (.take 9 (.take 10 (.take 11 (.take 12 (.take 13 (.take 14 (.take 15 (.alts (.run 16 true (.take 17 (.take 18 .done)) .nil)))))))))))))))))) 19 [Res.cells g9 34 [.b20 x1.1, .w x1.2.1, .w4 x1.2.2.1, .q yb ch_0_0 ch_0_1 x1.2.2.2.1, .q Y71 ch_0_2 ch_0_3 x1.2.2.2.2]] (.c0 .n) ⟨Res.stay_cells, trivial⟩ [(3, (.i y1)), (1, (.p g9))] (subR rfl) (by kernel_rfl) (by kernel_rfl) fun w S CL hw le => ?_
    refine h_move S CL hw le (subR rfl) rfl rfl rfl trivial fun a S CL => h_bin S CL hw le (subR rfl) rfl rfl rfl rfl rfl trivial fun a S CL => h_move S CL hw le (subR rfl) rfl rfl rfl trivial fun a S CL => ?_
    rcases ite_of h3 with ⟨c5, h4⟩ | ⟨c5, h4⟩
    ·refine h_fieldAddr S CL hw le (subR rfl) rfl I34_4 T32 (by decide) rfl rfl rfl ⟨_, _, rfl, rfl, c5⟩ fun a S CL => h_loadSl S CL hw le (subR rfl) rfl .h T32 (A := ch_0_2) (len := (x1.2.2.2.2).length) (cap := ch_0_3) rfl rfl rfl ⟨_, _, rfl, rfl, c5⟩ fun a S CL => h_move S CL hw le (subR rfl) rfl rfl rfl ⟨_, _, rfl, rfl, c5⟩ fun a S CL => h_bin S CL hw le (subR rfl) rfl rfl rfl rfl rfl ⟨_, _, rfl, rfl, c5⟩ fun a S CL => ?_
     obtain ⟨c6, h5⟩ := chk_of h4; clear h4
     refine h_iaddrS S CL hw le (subR rfl) rfl rfl rfl underlying32 T71 c6.1 c6.2 rfl rfl ⟨_, _, rfl, rfl, c5⟩ fun p4 a S CL => h_faddrP S CL hw le (subR rfl) (tF := (Ty.arr .u64 4)) (y := (gt x1.2.2.2.2 (wr .i64 (y1 - 1))).1) rfl I71_0 T31 (by decide) (fun m h => (at_fst (at_0 h))) rfl rfl ⟨_, _, rfl, rfl, c5⟩ fun a S CL => h_ldA S CL hw le (subR rfl) (fun (c : Unit) => [.w4 ((gt x1.2.2.2.2 (wr .i64 (y1 - 1))).1)]) rfl T31 (fun _ => rfl) rfl rfl ⟨_, _, rfl, rfl, c5⟩ fun ch2 a S CL => ?_
     refine h_fieldAddr S CL hw le (subR rfl) rfl I34_4 T32 (by decide) rfl rfl rfl ⟨_, _, rfl, rfl, c5⟩ fun a S CL => h_loadSl S CL hw le (subR rfl) rfl .h T32 (A := ch_0_2) (len := (x1.2.2.2.2).length) (cap := ch_0_3) rfl rfl rfl ⟨_, _, rfl, rfl, c5⟩ fun a S CL => h_move S CL hw le (subR rfl) rfl rfl rfl ⟨_, _, rfl, rfl, c5⟩ fun a S CL => h_iaddrS S CL hw le (subR rfl) rfl rfl rfl underlying32 T71 c2.1 c2.2 rfl rfl ⟨_, _, rfl, rfl, c5⟩ fun p5 a S CL => h_faddrP S CL hw le (subR rfl) (tF := (Ty.arr .u64 4)) (y := (gt x1.2.2.2.2 y1).1) rfl I71_0 T31 (by decide) (fun m h => (at_fst (at_0 h))) rfl rfl ⟨_, _, rfl, rfl, c5⟩ fun a S CL => h_ldA S CL hw le (subR rfl) (fun (c : Unit) => [.w4 ((gt x1.2.2.2.2 y1).1)]) rfl T31 (fun _ => rfl) rfl rfl ⟨_, _, rfl, rfl, c5⟩ fun ch3 a S CL => ?_
     refine h_run' S rfl ⟨_, _, rfl, rfl, c5⟩ (bindX h5 fun t1 et1 h6 => s_callP S _ N29 rfl rfl (smithyref13_less.ok k ((gt x1.2.2.2.2 (wr .i64 (y1 - 1))).1) ((gt x1.2.2.2.2 y1).1) t1 et1 _ _) fun ch4 m le1 a w S => ?_)
     replace le := le.trans le1
     refine CL.bk hw S (.c0 .n) le fun hw => ?_
     replace CL := CL.add (t := 34) (d := (.b t1)) S rfl rfl
     refine h_not S CL hw le (subR rfl) rfl rfl rfl ⟨_, _, rfl, rfl, c5⟩ fun a S CL => h_pick S CL hw le (subR rfl) (b := true) (hc_of rfl c5) rfl rfl rfl trivial fun a S CL => ?_
     refine h_done ?_; clear CL hw le
     refine x_thenN ?_
     exact j2 _ (!t1) g9 a w (S.sb rfl (.c0 .n)) h6
    ·refine h_skip S CL rfl rfl rfl (ne_bool c5) rfl fun a S CL => h_skip S CL rfl rfl rfl (ne_bool c5) rfl fun a S CL => h_skip S CL rfl rfl rfl (ne_bool c5) rfl fun a S CL => h_skip S CL rfl rfl rfl (ne_bool c5) rfl fun a S CL => h_skip S CL rfl rfl rfl (ne_bool c5) rfl fun a S CL => h_skip S CL rfl rfl rfl (ne_bool c5) rfl fun a S CL => h_skip S CL rfl rfl rfl (ne_bool c5) rfl fun a S CL => h_skip S CL rfl rfl rfl (ne_bool c5) rfl fun a S CL => h_skip S CL rfl rfl rfl (ne_bool c5) rfl fun a S CL => h_skip S CL rfl rfl rfl (ne_bool c5) rfl fun a S CL => h_skip S CL rfl rfl rfl (ne_bool c5) rfl fun a S CL => h_skip S CL rfl rfl rfl (ne_bool c5) rfl fun a S CL => h_skip S CL rfl rfl rfl (ne_bool c5) rfl fun a S CL => h_skipRt S rfl rfl rfl (ne_bool c5) rfl fun a S => CL.bk hw S (.c0 .n) le fun hw => ?_
     replace CL := CL.add (t := 34) (d := .u) S rfl rfl
     refine h_skip S CL rfl rfl rfl (ne_bool c5) rfl fun a S CL => h_pick S CL hw le (subR rfl) (b := false) (hc_of rfl c5) rfl rfl rfl trivial fun a S CL => ?_
     refine h_done ?_; clear CL hw le
     refine x_thenN ?_
     exact j2 _ false g9 a w (S.sb rfl (.c0 .n)) h4
  ·refine c_condF S rfl c1 (wp_exit (x_thenX (x_thenX (x_blockX (x_thenN ?_)))))
   exact j1 _ a w (S.sub trivial .nil) h1
abbrev smithyref13_Find.Ty : Type := (List L34) → (List Int) → Option ((L34) × Bool)
def smithyref13_Find.Ctr (s : smithyref13_Find.Ty) : Prop := ∀ (x1 : List L34) (x2 : List Int) (ch_0_0 : Option Addr) (ch_0_1 : Nat) (r : (L34) × Bool), Ct (C := ((Option Addr) × Nat × (Option Addr) × Nat)) Try.prog 11 (s x1 x2 = some r) [] [(.q Y34 ch_0_0 ch_0_1 x1), (.agg [.b20 x2])] (fun ch => (.tup [(true, [.b20 r.1.1, .w r.1.2.1, .w4 r.1.2.2.1, .q yb ch.1 ch.2.1 r.1.2.2.2.1, .q Y71 ch.2.2.1 ch.2.2.2 r.1.2.2.2.2]), (false, [.b r.2])])) fun _ => []
def smithyref13_Find.j1 : Option ((L34) × Bool) := some (zt1, false)
def smithyref13_Find.b1 (x1 : List L34) (x2 : List Int) (rec1 : Int → Option ((L34) × Bool)) (y1 : Int) : Option ((L34) × Bool) := if (decide (y1 < ((x1).length : Int))) = true then (if (0 : Int) ≤ y1 ∧ y1 < ((x1).length : Int) then (if (decide ((gt x1 y1).1 = x2)) = true then (some (gt x1 y1, true)) else (rec1 (wr .i64 (y1 + 1)))) else none) else smithyref13_Find.j1
def smithyref13_Find.l1 (x1 : List L34) (x2 : List Int) : Nat → Int → Option ((L34) × Bool)
  | 0, _ => none
  | q + 1, y1 => smithyref13_Find.b1 x1 x2 (smithyref13_Find.l1 x1 x2 q) y1
def smithyref13_Find.f (k : Nat) (x1 : List L34) (x2 : List Int) : Option ((L34) × Bool) := smithyref13_Find.l1 x1 x2 k 0
theorem smithyref13_Find.ok (k : Nat) : smithyref13_Find.Ctr (smithyref13_Find.f k) := by
 intro x1 x2 ch_0_0 ch_0_1 r h0 mi w0 ok hm
 delta smithyref13_Find.f at h0
 refine c_enterZ (n := 25) ok hm func11 rfl rfl rfl fun b0 hb a S => c_region (s_box S rfl rfl rfl fun g1 a w S => s_alloc S Z34 rfl ⟨rfl, rfl, rfl, rfl, rfl, trivial⟩ rfl fun g2 a w S => s_assign S rfl rfl fun a S => c_end (wp_seq_k fun K1 hK1 => ?_))
 have j1 : ∀ m g9 a w, St 25 m b0 [(4, (.p g9))] [Res.cells g9 34 [.b20 z20, .w 0, .w4 [0, 0, 0, 0], .s none 0 0, .s none 0 0]] a w → smithyref13_Find.j1 = some r → K1 a w := by
  intro m g9 a w S h0
  delta smithyref13_Find.j1 at h0
  refine hK1 a w (c_region (s_bldS S (ds := []) (zs := [.b20 z20, .w 0, .w4 [0, 0, 0, 0], .s none 0 0, .s none 0 0]) (s' := [.b20 z20, .w 0, .w4 [0, 0, 0, 0], .s none 0 0, .s none 0 0]) rfl underlying34 P34 Z34 ⟨rfl, rfl, rfl, rfl, rfl, trivial⟩ rfl rfl fun a S => s_store S rfl rfl rfl (s' := [.b20 z20, .w 0, .w4 [0, 0, 0, 0], .s none 0 0, .s none 0 0]) .h T34 rfl rfl fun w S => s_assign S rfl rfl fun a S => c_end (wp_ret ?_)))
  replace S := S.cellro (s' := [.b20 z20, .w 0, .w4 [0, 0, 0, 0], .q yb none 0 ([] : List Int), .s none 0 0]) .h rfl (fun h => ⟨h.1, h.2.1, h.2.2.1, ok_nil, h.2.2.2.2.1, trivial⟩)
  replace S := S.cellro (s' := [.b20 z20, .w 0, .w4 [0, 0, 0, 0], .q yb none 0 ([] : List Int), .q Y71 none 0 ([] : List ((List Int) × (List Int)))]) .h rfl (fun h => ⟨h.1, h.2.1, h.2.2.1, h.2.2.2.1, ok_nil, trivial⟩)
  obtain rfl := Option.some.inj h0
  exact b_ret2 (d1 := (.agg [.b20 z20, .w 0, .w4 [0, 0, 0, 0], .q yb none 0 ([] : List Int), .q Y71 none 0 ([] : List ((List Int) × (List Int)))])) (d2 := (.b false)) S rfl (resD_cell rfl .h T34 rfl rfl) rfl fun ok1 ok2 => S.retX (Hx := []) hb _ _ ((none, 0, none, 0) : (Option Addr) × Nat × (Option Addr) × Nat) .nil ⟨ok1, ⟨ok2, trivial⟩, trivial⟩
 refine c_region (s_move S rfl rfl fun a S => s_lenS S rfl underlying22 rfl fun a S => s_move S rfl rfl fun a S => c_end (wp_block ?_))
 refine c_loop (fun q1 a w => ∃ m y1 g14 g15, St 25 m b0 [(9, (.i y1)), (8, (.i ((x1).length : Int))), (4, (.p g14)), (3, (.p g15)), (0, (.q Y34 ch_0_0 ch_0_1 x1))] [Res.cells g14 34 [.b20 z20, .w 0, .w4 [0, 0, 0, 0], .s none 0 0, .s none 0 0], Res.cells g15 28 [.b20 x2]] a w ∧ smithyref13_Find.l1 x1 x2 q1 y1 = some r) ?_ ?_ (k := k) ⟨_, 0, g2, g1, (S.sb rfl (.c0 (.c0 .n))), h0⟩
 ·rintro a w ⟨m, y1, g14, g15, S, h0⟩
  exact (nomatch (show (none : Option ((L34) × Bool)) = some r from h0))
 ·clear S h0
  rintro q1 a w ⟨m, y1, g14, g15, S, h0⟩
  replace h0 : smithyref13_Find.b1 x1 x2 (smithyref13_Find.l1 x1 x2 q1) y1 = some r := h0
  delta smithyref13_Find.b1 at h0
  refine c_region (s_bin S rfl rfl rfl rfl fun a S => c_end (wp_seq ?_))
  rcases ite_of h0 with ⟨c1, h1⟩ | ⟨c1, h1⟩
  ·refine c_condT S rfl c1 (wp_skip (x_thenN (wp_seq (wp_block (c_region (s_move S rfl rfl fun a S => s_assign S rfl rfl fun a S => c_end ?_))))))
   refine wp_seq (c_heldS S (.take 0 (.take 1 (.take 2 (.take 3 (.take 4 (.take 5 (.take 6 .done))))))) 7 [Res.cells g14 34 [.b20 z20, .w 0, .w4 [0, 0, 0, 0], .s none 0 0, .s none 0 0], Res.cells g15 28 [.b20 x2]] (.c0 (.c0 .n)) ⟨Res.stay_cells, Res.stay_cells, trivial⟩ [(6, (.i y1)), (3, (.p g15)), (0, (.q Y34 ch_0_0 ch_0_1 x1))] (subR rfl) (by kernel_rfl) (by kernel_rfl) ?_); clear S; intro w S CL hw le
   refine h_move S CL hw le (subR rfl) rfl rfl rfl trivial fun a S CL => h_move S CL hw le (subR rfl) rfl rfl rfl trivial fun a S CL => ?_
   obtain ⟨c2, h2⟩ := chk_of h1; clear h1
   refine h_iaddrS S CL hw le (subR rfl) rfl rfl rfl underlying22 T34 c2.1 c2.2 rfl rfl trivial fun p1 a S CL => h_faddrP S CL hw le (subR rfl) (tF := (Ty.arr .u8 20)) (y := (gt x1 y1).1) rfl I34_0 T28 (by decide) (fun m h => (at_fst (at_0 h))) rfl rfl trivial fun a S CL => h_ldA S CL hw le (subR rfl) (fun (c : Unit) => [.b20 ((gt x1 y1).1)]) rfl T28 (fun _ => rfl) rfl rfl trivial fun ch1 a S CL => ?_
   refine h_loada S CL hw le (subR rfl) rfl .h1 T28 (s' := [.b20 x2]) rfl rfl rfl trivial fun a S CL => h_eqa S CL hw le (subR rfl) rfl rfl underlying28 underlying5 T5 Q28 rfl rfl trivial fun a S CL => ?_
   refine h_done ?_; clear CL hw le
   refine x_thenN ?_
   rcases ite_of h2 with ⟨c3, h3⟩ | ⟨c3, h3⟩
   ·refine c_condT S rfl c3 (c_region (s_move S rfl rfl fun a S => s_move S rfl rfl fun a S => s_iaddrS S rfl rfl rfl underlying22 T34 c2.1 c2.2 rfl fun p2 a S => s_ldA S (fun (c : Unit × Unit × Unit × (Option Addr × Nat) × (Option Addr × Nat)) => [.b20 ((gt x1 y1).1), .w ((gt x1 y1).2.1), .w4 ((gt x1 y1).2.2.1), .q yb c.2.2.2.1.1 c.2.2.2.1.2 ((gt x1 y1).2.2.2.1), .q Y71 c.2.2.2.2.1 c.2.2.2.2.2 ((gt x1 y1).2.2.2.2)]) rfl T34 (fun _ => rfl) rfl fun ch2 a S => ?_))
    refine s_store S rfl rfl rfl (s' := [.b20 ((gt x1 y1).1), .w ((gt x1 y1).2.1), .w4 ((gt x1 y1).2.2.1), .q yb ch2.2.2.2.1.1 ch2.2.2.2.1.2 ((gt x1 y1).2.2.2.1), .q Y71 ch2.2.2.2.2.1 ch2.2.2.2.2.2 ((gt x1 y1).2.2.2.2)]) .h T34 rfl rfl fun w S => s_assign S rfl rfl fun a S => c_end (wp_ret (x_blockR (x_thenR (x_thenR (x_blockR (x_thenR ?_))))))
    obtain rfl := Option.some.inj h3
    exact b_ret2 (d1 := (.agg [.b20 ((gt x1 y1).1), .w ((gt x1 y1).2.1), .w4 ((gt x1 y1).2.2.1), .q yb ch2.2.2.2.1.1 ch2.2.2.2.1.2 ((gt x1 y1).2.2.2.1), .q Y71 ch2.2.2.2.2.1 ch2.2.2.2.2.2 ((gt x1 y1).2.2.2.2)])) (d2 := (.b true)) S rfl (resD_cell rfl .h T34 rfl rfl) rfl fun ok1 ok2 => S.retX (Hx := []) hb _ _ ((ch2.2.2.2.1.1, ch2.2.2.2.1.2, ch2.2.2.2.2.1, ch2.2.2.2.2.2) : (Option Addr) × Nat × (Option Addr) × Nat) .nil ⟨ok1, ⟨ok2, trivial⟩, trivial⟩
   ·refine c_condF S rfl c3 (wp_skip (x_blockN (x_thenN (c_region' (s_bin S rfl rfl rfl rfl fun a S => s_move S rfl rfl fun a S => c_end' (x_thenN ?_))))))
    exact ⟨_, (wr .i64 (y1 + 1)), g14, g15, (S.sb rfl (.c0 (.c0 .n))), h3⟩
  ·refine c_condF S rfl c1 (wp_exit (x_thenX (x_thenX (x_blockX (x_thenN ?_)))))
   exact j1 _ g14 a w (S.sub ⟨rfl, trivial⟩ (.c0 .n)) h1
abbrev word_Compare.Ty : Type := (List Int) → (List Int) → Option Int
def word_Compare.Ctr (s : word_Compare.Ty) : Prop := ∀ (x1 : List Int) (x2 : List Int) (r : Int), Ct (C := Unit) Try.prog 42 (s x1 x2 = some r) [] [(.a4 x1), (.a4 x2)] (fun _ => (.i r)) fun _ => []
def word_Compare.j1 (x1 : List Int) (x2 : List Int) (y1 : Int) : Option Int := if (0 : Int) ≤ y1 ∧ y1 < 4 then (if (decide ((rd x1 y1) < (rd x2 y1))) = true then (some (-1)) else (some 1)) else none
def word_Compare.b1 (x1 : List Int) (x2 : List Int) (rec1 : Int → Option Int) (y3 : Int) : Option Int := if (0 : Int) ≤ y3 ∧ y3 < 4 then (if ((rd x1 y3) == (rd x2 y3)) = true then (rec1 (wr .i64 (y3 - 1))) else (word_Compare.j1 x1 x2 y3)) else none
def word_Compare.l1 (x1 : List Int) (x2 : List Int) : Nat → Int → Option Int
  | 0, _ => none
  | q + 1, y3 => word_Compare.b1 x1 x2 (word_Compare.l1 x1 x2 q) y3
def word_Compare.f (k : Nat) (x1 : List Int) (x2 : List Int) : Option Int := if (decide (x1 = x2)) = true then (some 0) else (word_Compare.l1 x1 x2 k 3)
theorem word_Compare.ok (k : Nat) : word_Compare.Ctr (word_Compare.f k) := by
 intro x1 x2 r h0 mi w0 ok hm
 delta word_Compare.f at h0
 refine c_enterZ (n := 25) ok hm func42 rfl rfl rfl fun b0 hb a S => c_region (s_box S rfl rfl rfl fun g1 a w S => s_box S rfl rfl rfl fun g2 a w S => s_assign S rfl rfl fun a S => c_end (wp_seq (c_region (s_loada S rfl .h1 T31 (s' := [.w4 x1]) rfl rfl fun a S => s_loada S rfl .h T31 (s' := [.w4 x2]) rfl rfl fun a S => s_eqa S rfl rfl underlying31 underlying29 T29 Q31 rfl fun a S => c_end ?_))))
 rcases ite_of h0 with ⟨c1, h1⟩ | ⟨c1, h1⟩
 ·refine c_condT S rfl c1 (c_region (s_assign S rfl rfl fun a S => c_end (wp_ret (x_thenR ?_))))
  obtain rfl := Option.some.inj h1
  exact b_ret1 (d := (.i 0)) S rfl rfl (S.rt hb)
 ·refine c_condF S rfl c1 (wp_skip (x_thenN (c_region (s_assign S rfl rfl fun a S => c_end (wp_seq_k fun K1 hK1 => ?_)))))
  have j1 : ∀ m y1 g9 g10 a w, St 25 m b0 [(5, (.i y1)), (3, (.p g9)), (2, (.p g10))] [Res.cells g9 31 [.w4 x2], Res.cells g10 31 [.w4 x1]] a w → word_Compare.j1 x1 x2 y1 = some r → K1 a w := by
   intro m y1 g9 g10 a w S h0
   delta word_Compare.j1 at h0
   refine hK1 a w (wp_seq ?_)
   refine wp_seq (c_heldS S (.take 0 (.take 1 (.take 2 (.take 3 (.take 4 (.take 5 (.take 6 .done))))))) 7 [Res.cells g9 31 [.w4 x2], Res.cells g10 31 [.w4 x1]] (.c0 (.c0 .n)) ⟨Res.stay_cells, Res.stay_cells, trivial⟩ [(5, (.i y1)), (3, (.p g9)), (2, (.p g10))] (subR rfl) (by kernel_rfl) (by kernel_rfl) ?_); clear S; intro w S CL hw le
   refine h_move S CL hw le (subR rfl) rfl rfl rfl trivial fun a S CL => ?_
   obtain ⟨c2, h1⟩ := chk_of h0; clear h0
   refine h_iaddr S CL hw le (subR rfl) rfl rfl underlying31 T29 c2.1 c2.2 (mul1 _ _) rfl rfl trivial fun a S CL => h_loadi S CL hw le (subR rfl) (i := y1) rfl .h1 T29 .h rfl c2.1 c2.2 rfl rfl trivial fun a S CL => h_move S CL hw le (subR rfl) rfl rfl rfl trivial fun a S CL => h_iaddr S CL hw le (subR rfl) rfl rfl underlying31 T29 c2.1 c2.2 (mul1 _ _) rfl rfl trivial fun a S CL => h_loadi S CL hw le (subR rfl) (i := y1) rfl .h T29 .h rfl c2.1 c2.2 rfl rfl trivial fun a S CL => h_bin S CL hw le (subR rfl) rfl rfl rfl rfl rfl trivial fun a S CL => ?_
   refine h_done ?_; clear CL hw le
   refine x_thenN ?_
   rcases ite_of h1 with ⟨c3, h2⟩ | ⟨c3, h2⟩
   ·refine c_condT S rfl c3 (c_region (s_assign S rfl rfl fun a S => c_end (wp_ret (x_thenR ?_))))
    obtain rfl := Option.some.inj h2
    exact b_ret1 (d := (.i (-1))) S rfl rfl (S.rt hb)
   ·refine c_condF S rfl c3 (wp_skip (x_thenN (c_region (s_assign S rfl rfl fun a S => c_end (wp_ret ?_)))))
    obtain rfl := Option.some.inj h2
    exact b_ret1 (d := (.i 1)) S rfl rfl (S.rt hb)
  refine wp_block ?_
  refine c_loop (fun q1 a w => ∃ m y3 g15 g16, St 25 m b0 [(5, (.i y3)), (3, (.p g15)), (2, (.p g16))] [Res.cells g15 31 [.w4 x2], Res.cells g16 31 [.w4 x1]] a w ∧ word_Compare.l1 x1 x2 q1 y3 = some r) ?_ ?_ (k := k) ⟨_, 3, g2, g1, (S.sb rfl (.c0 (.c0 .n))), h1⟩
  ·rintro a w ⟨m, y3, g15, g16, S, h0⟩
   exact (nomatch (show (none : Option Int) = some r from h0))
  ·clear S h1
   rintro q1 a w ⟨m, y3, g15, g16, S, h0⟩
   replace h0 : word_Compare.b1 x1 x2 (word_Compare.l1 x1 x2 q1) y3 = some r := h0
   delta word_Compare.b1 at h0
   refine wp_seq ?_
   refine wp_seq (c_heldS S (.take 0 (.take 1 (.take 2 (.take 3 (.take 4 (.take 5 (.take 6 .done))))))) 7 [Res.cells g15 31 [.w4 x2], Res.cells g16 31 [.w4 x1]] (.c0 (.c0 .n)) ⟨Res.stay_cells, Res.stay_cells, trivial⟩ [(5, (.i y3)), (3, (.p g15)), (2, (.p g16))] (subR rfl) (by kernel_rfl) (by kernel_rfl) ?_); clear S; intro w S CL hw le
   refine h_move S CL hw le (subR rfl) rfl rfl rfl trivial fun a S CL => ?_
   obtain ⟨c4, h1⟩ := chk_of h0; clear h0
   refine h_iaddr S CL hw le (subR rfl) rfl rfl underlying31 T29 c4.1 c4.2 (mul1 _ _) rfl rfl trivial fun a S CL => h_loadi S CL hw le (subR rfl) (i := y3) rfl .h1 T29 .h rfl c4.1 c4.2 rfl rfl trivial fun a S CL => h_move S CL hw le (subR rfl) rfl rfl rfl trivial fun a S CL => h_iaddr S CL hw le (subR rfl) rfl rfl underlying31 T29 c4.1 c4.2 (mul1 _ _) rfl rfl trivial fun a S CL => h_loadi S CL hw le (subR rfl) (i := y3) rfl .h T29 .h rfl c4.1 c4.2 rfl rfl trivial fun a S CL => h_bin S CL hw le (subR rfl) rfl rfl rfl rfl rfl trivial fun a S CL => ?_
   refine h_done ?_; clear CL hw le
   refine x_thenN ?_
   rcases ite_of h1 with ⟨c5, h2⟩ | ⟨c5, h2⟩
   ·refine c_condT S rfl c5 (wp_skip (x_thenN (wp_block (c_region' (s_move S rfl rfl fun a S => s_bin S rfl rfl rfl rfl fun a S => s_assign S rfl rfl fun a S => c_end' (x_blockN (x_thenN ?_)))))))
    exact ⟨_, (wr .i64 (y3 - 1)), g15, g16, (S.sb rfl (.c0 (.c0 .n))), h2⟩
   ·refine c_condF S rfl c5 (wp_exit (x_thenX (x_thenX (x_blockX (x_thenN ?_)))))
    exact j1 _ y3 g15 g16 a w (S.sb rfl (.c0 (.c0 .n))) h2
abbrev store_Right.Ty : Type := (L34) → Option Bool
def store_Right.Ctr (s : store_Right.Ty) : Prop := ∀ (x1 : L34) (ch_0_0 : Option Addr) (ch_0_1 : Nat) (ch_0_2 : Option Addr) (ch_0_3 : Nat) (r : Bool), Ct (C := Unit) Try.prog 30 (s x1 = some r) [] [(.agg [.b20 x1.1, .w x1.2.1, .w4 x1.2.2.1, .q yb ch_0_0 ch_0_1 x1.2.2.2.1, .q Y71 ch_0_2 ch_0_3 x1.2.2.2.2])] (fun _ => (.b r)) fun _ => []
def store_Right.j1 : Option Bool := some true
def store_Right.j2 (y1 : Int) (rec1 : Int → Option Bool) (y2 : Bool) : Option Bool := if y2 = true then (some false) else (rec1 (wr .i64 (y1 + 1)))
def store_Right.b1 (k : Nat) (x1 : L34) (rec1 : Int → Option Bool) (y1 : Int) : Option Bool := if (decide (y1 < ((x1.2.2.2.2).length : Int))) = true then (if (0 : Int) ≤ y1 ∧ y1 < ((x1.2.2.2.2).length : Int) then (if (decide ((gt x1.2.2.2.2 y1).2 = [0, 0, 0, 0])) = true then (store_Right.j2 y1 rec1 true) else (if (decide (0 < y1)) = true then (if (0 : Int) ≤ (wr .i64 (y1 - 1)) ∧ (wr .i64 (y1 - 1)) < ((x1.2.2.2.2).length : Int) then ((word_Compare.f k ((gt x1.2.2.2.2 (wr .i64 (y1 - 1))).1) ((gt x1.2.2.2.2 y1).1)).bind fun t1 => (store_Right.j2 y1 rec1 (decide (0 ≤ t1)))) else none) else (store_Right.j2 y1 rec1 false))) else none) else store_Right.j1
def store_Right.l1 (k : Nat) (x1 : L34) : Nat → Int → Option Bool
  | 0, _ => none
  | q + 1, y1 => store_Right.b1 k x1 (store_Right.l1 k x1 q) y1
def store_Right.f (k : Nat) (x1 : L34) : Option Bool := store_Right.l1 k x1 k 0
theorem store_Right.ok (k : Nat) : store_Right.Ctr (store_Right.f k) := by
 intro x1 ch_0_0 ch_0_1 ch_0_2 ch_0_3 r h0 mi w0 ok hm
 delta store_Right.f at h0
 refine c_enterZ (n := 35) ok hm func30 rfl rfl rfl fun b0 hb a S => c_region (s_box S rfl rfl rfl fun g1 a w S => s_assign S rfl rfl fun a S => c_end (wp_seq_k fun K1 hK1 => ?_))
 have j1 : ∀ m a w, St 35 m b0 [] [] a w → store_Right.j1 = some r → K1 a w := by
  intro m a w S h0
  delta store_Right.j1 at h0
  refine hK1 a w (c_region (s_assign S rfl rfl fun a S => c_end (wp_ret ?_)))
  obtain rfl := Option.some.inj h0
  exact b_ret1 (d := (.b true)) S rfl rfl (S.rt hb)
 refine c_region (s_fieldAddr S rfl I34_4 T32 (by decide) rfl rfl fun a S => s_loadSl S rfl .h T32 (A := ch_0_2) (len := (x1.2.2.2.2).length) (cap := ch_0_3) rfl rfl fun a S => s_lenS S rfl underlying32 rfl fun a S => s_move S rfl rfl fun a S => c_end (wp_block ?_))
 refine c_loop (fun q1 a w => ∃ m y1 g15, St 35 m b0 [(8, (.i y1)), (7, (.i ((x1.2.2.2.2).length : Int))), (6, (.q Y71 ch_0_2 ch_0_3 x1.2.2.2.2)), (1, (.p g15))] [Res.cells g15 34 [.b20 x1.1, .w x1.2.1, .w4 x1.2.2.1, .q yb ch_0_0 ch_0_1 x1.2.2.2.1, .q Y71 ch_0_2 ch_0_3 x1.2.2.2.2]] a w ∧ store_Right.l1 k x1 q1 y1 = some r) ?_ ?_ (k := k) ⟨_, 0, g1, (S.sb rfl (.c0 .n)), h0⟩
 ·rintro a w ⟨m, y1, g15, S, h0⟩
  exact (nomatch (show (none : Option Bool) = some r from h0))
 ·clear S h0
  rintro q1 a w ⟨m, y1, g15, S, h0⟩
  replace h0 : store_Right.b1 k x1 (store_Right.l1 k x1 q1) y1 = some r := h0
  delta store_Right.b1 at h0
  refine c_region (s_bin S rfl rfl rfl rfl fun a S => c_end (wp_seq ?_))
  rcases ite_of h0 with ⟨c1, h1⟩ | ⟨c1, h1⟩
  ·refine c_condT S rfl c1 (wp_skip (x_thenN (wp_seq (wp_block (c_region (s_move S rfl rfl fun a S => ?_))))))
   obtain ⟨c2, h2⟩ := chk_of h1; clear h1
   refine s_iaddrS S rfl rfl rfl underlying32 T71 c2.1 c2.2 rfl fun p1 a S => s_ldA S (fun (c : Unit × Unit) => [.w4 ((gt x1.2.2.2.2 y1).1), .w4 ((gt x1.2.2.2.2 y1).2)]) rfl T71 (fun _ => rfl) rfl fun ch1 a S => ?_
   refine s_alloc S Z71 rfl ⟨rfl, rfl, trivial⟩ rfl fun g16 a w S => s_assign S rfl rfl fun a S => s_store S rfl rfl rfl (s' := [.w4 ((gt x1.2.2.2.2 y1).1), .w4 ((gt x1.2.2.2.2 y1).2)]) .h T71 rfl rfl fun w S => c_end (wp_seq_k fun K2 hK2 => ?_)
   have j2 : ∀ m y2 g17 a w, St 35 m b0 [(33, (.b y2)), (8, (.i y1)), (7, (.i ((x1.2.2.2.2).length : Int))), (6, (.q Y71 ch_0_2 ch_0_3 x1.2.2.2.2)), (1, (.p g17))] [Res.cells g17 34 [.b20 x1.1, .w x1.2.1, .w4 x1.2.2.1, .q yb ch_0_0 ch_0_1 x1.2.2.2.1, .q Y71 ch_0_2 ch_0_3 x1.2.2.2.2]] a w → store_Right.j2 y1 (store_Right.l1 k x1 q1) y2 = some r → K2 a w := by
    intro m y2 g17 a w S h0
    delta store_Right.j2 at h0
    refine hK2 a w ?_
    rcases ite_of h0 with ⟨c3, h1⟩ | ⟨c3, h1⟩
    ·refine c_condT S rfl c3 (c_region (s_assign S rfl rfl fun a S => c_end (wp_ret (x_blockR (x_thenR (x_thenR (x_blockR (x_thenR ?_))))))))
     obtain rfl := Option.some.inj h1
     exact b_ret1 (d := (.b false)) S rfl rfl (S.rt hb)
    ·refine c_condF S rfl c3 (wp_skip (x_blockN (x_thenN (c_region' (s_bin S rfl rfl rfl rfl fun a S => s_move S rfl rfl fun a S => c_end' (x_thenN ?_))))))
     exact ⟨_, (wr .i64 (y1 + 1)), g17, (S.sb rfl (.c0 .n)), h1⟩
   refine c_heldS S (.take 0 (.take 1 (.take 2 (.take 3 (.take 4 (.take 5 (.take 6 (.take 7 (.take 8 (.take 9 (.take 10 (.take 11 (.take 12 (.take 13 (.take 14 (.take 15 (.take 16 (.alts (.run 17 true (.take 18 (.take 19 (.take 20 .done))) .nil))))))))))))))))))) 21 [Res.cells g16 71 [.w4 ((gt x1.2.2.2.2 y1).1), .w4 ((gt x1.2.2.2.2 y1).2)], Res.cells g15 34 [.b20 x1.1, .w x1.2.1, .w4 x1.2.2.1, .q yb ch_0_0 ch_0_1 x1.2.2.2.1, .q Y71 ch_0_2 ch_0_3 x1.2.2.2.2]] (.c0 (.c0 .n)) ⟨Res.stay_cells, Res.stay_cells, trivial⟩ [(3, (.i y1)), (4, (.p g16)), (1, (.p g15))] (subR rfl) (by kernel_rfl) (by kernel_rfl) fun w S CL hw le => ?_
   refine h_fieldAddr S CL hw le (subR rfl) rfl I71_1 T31 (by decide) rfl rfl rfl trivial fun a S CL => h_loada S CL hw le (subR rfl) rfl .h T31 (s' := [.w4 ((gt x1.2.2.2.2 y1).2)]) rfl rfl rfl trivial fun a S CL => h_build S CL hw le (subR rfl) (ds := []) (dv := (.a4 [0, 0, 0, 0])) rfl (fun _ => by kernel_rfl) ⟨rfl, trivial⟩ rfl rfl trivial fun a S CL => h_eqa S CL hw le (subR rfl) rfl rfl underlying31 underlying29 T29 Q31 rfl rfl trivial fun a S CL => h_move S CL hw le (subR rfl) rfl rfl rfl trivial fun a S CL => ?_
   rcases ite_of h2 with ⟨c4, h3⟩ | ⟨c4, h3⟩
   ·refine h_skip S CL rfl rfl rfl (ne_bool c4) rfl fun a S CL => h_skip S CL rfl rfl rfl (ne_bool c4) rfl fun a S CL => h_skip S CL rfl rfl rfl (ne_bool c4) rfl fun a S CL => h_skip S CL rfl rfl rfl ne_undef rfl fun a S CL => h_skip S CL rfl rfl rfl ne_undef rfl fun a S CL => h_skip S CL rfl rfl rfl ne_undef rfl fun a S CL => h_skip S CL rfl rfl rfl ne_undef rfl fun a S CL => h_skip S CL rfl rfl rfl ne_undef rfl fun a S CL => h_skip S CL rfl rfl rfl ne_undef rfl fun a S CL => h_skip S CL rfl rfl rfl ne_undef rfl fun a S CL => h_skip S CL rfl rfl rfl ne_undef rfl fun a S CL => h_skip S CL rfl rfl rfl ne_undef rfl fun a S CL => h_skipRt S rfl rfl rfl ne_undef rfl fun a S => CL.bk hw S (.c0 (.c0 .n)) le fun hw => ?_
    replace CL := CL.add (t := 30) (d := .u) S rfl rfl
    refine h_skip S CL rfl rfl rfl ne_undef rfl fun a S CL => h_skip S CL rfl rfl rfl (ne_bool c4) rfl fun a S CL => h_pick S CL hw le (subR rfl) (b := true) (hc_of rfl c4) rfl rfl rfl trivial fun a S CL => ?_
    refine h_done ?_; clear CL hw le
    refine x_thenN ?_
    exact j2 _ true g15 a w (S.sb rfl (.c1 .n)) h3
   ·refine h_move S CL hw le (subR rfl) rfl rfl rfl ⟨_, _, rfl, rfl, c4⟩ fun a S CL => h_bin S CL hw le (subR rfl) rfl rfl rfl rfl rfl ⟨_, _, rfl, rfl, c4⟩ fun a S CL => h_move S CL hw le (subR rfl) rfl rfl rfl ⟨_, _, rfl, rfl, c4⟩ fun a S CL => ?_
    rcases ite_of h3 with ⟨c5, h4⟩ | ⟨c5, h4⟩
    ·refine h_fieldAddr S CL hw le (subR rfl) rfl I34_4 T32 (by decide) rfl rfl rfl ⟨_, _, rfl, rfl, c5⟩ fun a S CL => h_loadSl S CL hw le (subR rfl) rfl .h1 T32 (A := ch_0_2) (len := (x1.2.2.2.2).length) (cap := ch_0_3) rfl rfl rfl ⟨_, _, rfl, rfl, c5⟩ fun a S CL => h_move S CL hw le (subR rfl) rfl rfl rfl ⟨_, _, rfl, rfl, c5⟩ fun a S CL => h_bin S CL hw le (subR rfl) rfl rfl rfl rfl rfl ⟨_, _, rfl, rfl, c5⟩ fun a S CL => ?_
     obtain ⟨c6, h5⟩ := chk_of h4; clear h4
     refine h_iaddrS S CL hw le (subR rfl) rfl rfl rfl underlying32 T71 c6.1 c6.2 rfl rfl ⟨_, _, rfl, rfl, c5⟩ fun p3 a S CL => h_faddrP S CL hw le (subR rfl) (tF := (Ty.arr .u64 4)) (y := (gt x1.2.2.2.2 (wr .i64 (y1 - 1))).1) rfl I71_0 T31 (by decide) (fun m h => (at_fst (at_0 h))) rfl rfl ⟨_, _, rfl, rfl, c5⟩ fun a S CL => h_ldA S CL hw le (subR rfl) (fun (c : Unit) => [.w4 ((gt x1.2.2.2.2 (wr .i64 (y1 - 1))).1)]) rfl T31 (fun _ => rfl) rfl rfl ⟨_, _, rfl, rfl, c5⟩ fun ch2 a S CL => ?_
     refine h_fieldAddr S CL hw le (subR rfl) rfl I71_0 T31 (by decide) rfl rfl rfl ⟨_, _, rfl, rfl, c5⟩ fun a S CL => h_loada S CL hw le (subR rfl) rfl .h T31 (s' := [.w4 ((gt x1.2.2.2.2 y1).1)]) rfl rfl rfl ⟨_, _, rfl, rfl, c5⟩ fun a S CL => h_run' S rfl ⟨_, _, rfl, rfl, c5⟩ (bindX h5 fun t1 et1 h6 => s_callP S _ N42 rfl rfl (word_Compare.ok k ((gt x1.2.2.2.2 (wr .i64 (y1 - 1))).1) ((gt x1.2.2.2.2 y1).1) t1 et1 _ _) fun ch3 m le1 a w S => ?_)
     replace le := le.trans le1
     refine CL.bk hw S (.c0 (.c0 .n)) le fun hw => ?_
     replace CL := CL.add (t := 30) (d := (.i t1)) S rfl rfl
     refine h_bin S CL hw le (subR rfl) rfl rfl rfl rfl rfl ⟨_, _, rfl, rfl, c5⟩ fun a S CL => h_pick S CL hw le (subR rfl) (b := true) (hc_of rfl c5) rfl rfl rfl ⟨_, _, rfl, rfl, c4⟩ fun a S CL => h_pick S CL hw le (subR rfl) (b := false) (hc_of rfl c4) rfl rfl rfl trivial fun a S CL => ?_
     refine h_done ?_; clear CL hw le
     refine x_thenN ?_
     exact j2 _ (decide (0 ≤ t1)) g15 a w (S.sb rfl (.c1 .n)) h6
    ·refine h_skip S CL rfl rfl rfl (ne_bool c5) rfl fun a S CL => h_skip S CL rfl rfl rfl (ne_bool c5) rfl fun a S CL => h_skip S CL rfl rfl rfl (ne_bool c5) rfl fun a S CL => h_skip S CL rfl rfl rfl (ne_bool c5) rfl fun a S CL => h_skip S CL rfl rfl rfl (ne_bool c5) rfl fun a S CL => h_skip S CL rfl rfl rfl (ne_bool c5) rfl fun a S CL => h_skip S CL rfl rfl rfl (ne_bool c5) rfl fun a S CL => h_skip S CL rfl rfl rfl (ne_bool c5) rfl fun a S CL => h_skip S CL rfl rfl rfl (ne_bool c5) rfl fun a S CL => h_skipRt S rfl rfl rfl (ne_bool c5) rfl fun a S => CL.bk hw S (.c0 (.c0 .n)) le fun hw => ?_
     replace CL := CL.add (t := 30) (d := .u) S rfl rfl
     refine h_skip S CL rfl rfl rfl (ne_bool c5) rfl fun a S CL => h_pick S CL hw le (subR rfl) (b := false) (hc_of rfl c5) rfl rfl rfl ⟨_, _, rfl, rfl, c4⟩ fun a S CL => h_pick S CL hw le (subR rfl) (b := false) (hc_of rfl c4) rfl rfl rfl trivial fun a S CL => ?_
     refine h_done ?_; clear CL hw le
     refine x_thenN ?_
     exact j2 _ false g15 a w (S.sb rfl (.c1 .n)) h4
  ·refine c_condF S rfl c1 (wp_exit (x_thenX (x_thenX (x_blockX (x_thenN ?_)))))
   exact j1 _ a w (S.sub trivial .nil) h1
abbrev slices_Clone_byte_byte.Ty : Type := (List Int) → Option ((List Int))
def slices_Clone_byte_byte.Ctr (s : slices_Clone_byte_byte.Ty) : Prop := ∀ (x1 : List Int) (ch_0_0 : Option Addr) (ch_0_1 : Nat) (r : (List Int)), Ct (C := ((Option Addr) × Nat × Nat)) Try.prog 43 (s x1 = some r) [] [(.q yb ch_0_0 ch_0_1 x1)] (fun ch => (.s ch.1 ch.2.1 ch.2.2)) fun ch => [Res.row yb 5 ch.1 ch.2.1 ch.2.2 r]
def slices_Clone_byte_byte.f (x1 : List Int) : Option ((List Int)) := if ((([] : List Int)).length + (x1).length) * 1 ≤ 140737488355328 then (some (([] : List Int) ++ x1)) else none
theorem slices_Clone_byte_byte.ok : slices_Clone_byte_byte.Ctr (slices_Clone_byte_byte.f) := by
 intro x1 ch_0_0 ch_0_1 r h0 mi w0 ok hm
 delta slices_Clone_byte_byte.f at h0
 refine c_enterZ (n := 8) ok hm func43 rfl rfl rfl fun b0 hb a S => c_region (s_assign S rfl rfl fun a S => c_end (wp_seq (c_region (s_move S rfl rfl fun a S => s_eqnil S (b := (ch_0_0).isNone) (d := (.q yb ch_0_0 ch_0_1 x1)) rfl rfl underlying24 rfl rfl rfl fun a S => c_end ?_))))
 cases hc : (ch_0_0).isNone
 ·refine c_condF S rfl hc (wp_skip (x_thenN (c_region (s_bldSl S (ty' := yb) (ds := []) (z := 0) (c0 := ()) (ys := ([] : List Int)) (cs := []) rfl underlying24 J5 Z5 rfl ⟨rfl, trivial⟩ rfl rfl rfl rfl rfl rfl fun g1 a w S => s_move S rfl rfl fun a S => ?_))))
  obtain ⟨c1, h1⟩ := chk_of h0; clear h0
  refine s_app S (k2 := ((x1).length)) (ys := x1) rfl (fun _ _ => .h) rfl rfl rfl (RdS.src (S.get 6 (.q yb ch_0_0 ch_0_1 x1) rfl).2.2.2.1 (by decide) S.frz) underlying24 J5 c1 rfl fun A1 cp1 a w S => s_assign S rfl rfl fun a S => c_end (wp_ret ?_)
  obtain rfl := Option.some.inj h1
  exact b_ret1 (d := (.s A1 (0 + ((x1).length)) cp1)) S rfl rfl fun ok => S.retX (Hx := []) hb _ _ ((A1, 0 + ((x1).length), cp1) : (Option Addr) × Nat × Nat) (.c0 .n) ok
 ·have hxs : x1 = [] := rd_nil hc (S.get 3 (.q yb ch_0_0 ch_0_1 x1) rfl).2.2.2.1
  have h1 : (some ([] : List Int)) = some r := by simpa [hxs] using h0
  clear h0
  refine c_condT S rfl hc (c_region (s_assign S rfl rfl fun a S => c_end (wp_ret (x_thenR ?_))))
  replace S := S.nilrow yb 5
  replace S := S.slot (u := 2) (d' := (.s none 0 0)) rfl rfl (S.get 2 (.s none 0 0) rfl).2
  obtain rfl := Option.some.inj h1
  exact b_ret1 (d := (.s none 0 0)) S rfl rfl fun ok => S.retX (Hx := []) hb _ _ ((none, 0, 0) : (Option Addr) × Nat × Nat) (.c0 .n) ok
abbrev api_Slot.Ty : Type := (List ((List Int) × (List Int))) → Option ((List ((List Int) × (List Int))))
def api_Slot.Ctr (s : api_Slot.Ty) : Prop := ∀ (x1 : List ((List Int) × (List Int))) (ch_0_0 : Option Addr) (ch_0_1 : Nat) (r : (List ((List Int) × (List Int)))), Ct (C := ((Option Addr) × Nat × Nat)) Try.prog 44 (s x1 = some r) [] [(.q Y71 ch_0_0 ch_0_1 x1)] (fun ch => (.s ch.1 ch.2.1 ch.2.2)) fun ch => [Res.row Y71 71 ch.1 ch.2.1 ch.2.2 r]
def api_Slot.f (x1 : List ((List Int) × (List Int))) : Option ((List ((List Int) × (List Int)))) := if ((([] : List ((List Int) × (List Int)))).length + (x1).length) * 64 ≤ 140737488355328 then (some (([] : List ((List Int) × (List Int))) ++ x1)) else none
theorem api_Slot.ok : api_Slot.Ctr (api_Slot.f) := by
 intro x1 ch_0_0 ch_0_1 r h0 mi w0 ok hm
 delta api_Slot.f at h0
 refine c_enterZ (n := 8) ok hm func44 rfl rfl rfl fun b0 hb a S => c_region (s_assign S rfl rfl fun a S => c_end (wp_seq (c_region (s_move S rfl rfl fun a S => s_eqnil S (b := (ch_0_0).isNone) (d := (.q Y71 ch_0_0 ch_0_1 x1)) rfl rfl underlying32 rfl rfl rfl fun a S => c_end ?_))))
 cases hc : (ch_0_0).isNone
 ·refine c_condF S rfl hc (wp_skip (x_thenN (c_region (s_bldSl S (ty' := Y71) (ds := []) (z := ([0, 0, 0, 0], [0, 0, 0, 0])) (c0 := ((), ())) (ys := ([] : List ((List Int) × (List Int)))) (cs := []) rfl underlying32 J71 Z71 rfl ⟨rfl, rfl, trivial⟩ rfl rfl rfl rfl rfl rfl fun g1 a w S => s_move S rfl rfl fun a S => ?_))))
  obtain ⟨c1, h1⟩ := chk_of h0; clear h0
  refine s_app S (k2 := ((x1).length)) (ys := x1) rfl (fun _ _ => .h) rfl rfl rfl (RdS.src (S.get 6 (.q Y71 ch_0_0 ch_0_1 x1) rfl).2.2.2.1 (by decide) S.frz) underlying32 J71 c1 rfl fun A1 cp1 a w S => s_assign S rfl rfl fun a S => c_end (wp_ret ?_)
  obtain rfl := Option.some.inj h1
  exact b_ret1 (d := (.s A1 (0 + ((x1).length)) cp1)) S rfl rfl fun ok => S.retX (Hx := []) hb _ _ ((A1, 0 + ((x1).length), cp1) : (Option Addr) × Nat × Nat) (.c0 .n) ok
 ·have hxs : x1 = [] := rd_nil hc (S.get 3 (.q Y71 ch_0_0 ch_0_1 x1) rfl).2.2.2.1
  have h1 : (some ([] : List ((List Int) × (List Int)))) = some r := by simpa [hxs] using h0
  clear h0
  refine c_condT S rfl hc (c_region (s_assign S rfl rfl fun a S => c_end (wp_ret (x_thenR ?_))))
  replace S := S.nilrow Y71 71
  replace S := S.slot (u := 2) (d' := (.s none 0 0)) rfl rfl (S.get 2 (.s none 0 0) rfl).2
  obtain rfl := Option.some.inj h1
  exact b_ret1 (d := (.s none 0 0)) S rfl rfl fun ok => S.retX (Hx := []) hb _ _ ((none, 0, 0) : (Option Addr) × Nat × Nat) (.c0 .n) ok
abbrev fork_own.Ty : Type := (L34) → Option ((L34))
def fork_own.Ctr (s : fork_own.Ty) : Prop := ∀ (x1 : L34) (ch_0_0 : Option Addr) (ch_0_1 : Nat) (ch_0_2 : Option Addr) (ch_0_3 : Nat) (r : (L34)), Ct (C := ((Option Addr) × Nat × Nat × (Option Addr) × Nat × Nat)) Try.prog 31 (s x1 = some r) [] [(.agg [.b20 x1.1, .w x1.2.1, .w4 x1.2.2.1, .q yb ch_0_0 ch_0_1 x1.2.2.2.1, .q Y71 ch_0_2 ch_0_3 x1.2.2.2.2])] (fun ch => (.agg [.b20 r.1, .w r.2.1, .w4 r.2.2.1, .s ch.1 ch.2.1 ch.2.2.1, .s ch.2.2.2.1 ch.2.2.2.2.1 ch.2.2.2.2.2])) fun ch => [Res.row yb 5 ch.1 ch.2.1 ch.2.2.1 r.2.2.2.1, Res.row Y71 71 ch.2.2.2.1 ch.2.2.2.2.1 ch.2.2.2.2.2 r.2.2.2.2]
def fork_own.f (x1 : L34) : Option ((L34)) := (slices_Clone_byte_byte.f x1.2.2.2.1).bind fun t1 => ((api_Slot.f x1.2.2.2.2).bind fun t2 => (some (x1.1, x1.2.1, x1.2.2.1, t1, t2)))
theorem fork_own.ok : fork_own.Ctr (fork_own.f) := by
 intro x1 ch_0_0 ch_0_1 ch_0_2 ch_0_3 r h0 mi w0 ok hm
 delta fork_own.f at h0
 refine c_enterZ (n := 12) ok hm func31 rfl rfl rfl fun b0 hb a S => c_region (s_box S rfl rfl rfl fun g1 a w S => s_alloc S Z34 rfl ⟨rfl, rfl, rfl, rfl, rfl, trivial⟩ rfl fun g2 a w S => c_end (c_region (s_fieldAddr S rfl I34_3 T24 (by decide) rfl rfl fun a S => s_loadSl S rfl .h1 T24 (A := ch_0_0) (len := (x1.2.2.2.1).length) (cap := ch_0_1) rfl rfl fun a S => bindX h0 fun t1 et1 h1 => s_callR S (fun (ch : (Option Addr) × Nat × Nat) => ((.s ch.1 ch.2.1 ch.2.2) : D)) (fun (ch : (Option Addr) × Nat × Nat) => Res.row yb 5 ch.1 ch.2.1 ch.2.2 t1) N43 rfl rfl (slices_Clone_byte_byte.ok x1.2.2.2.1 ch_0_0 ch_0_1 t1 et1 _ _) fun ch1 m le1 a w S => s_fieldAddr S rfl I34_3 T24 (by decide) rfl rfl fun a S => s_store S rfl rfl rfl (s' := [.b20 x1.1, .w x1.2.1, .w4 x1.2.2.1, .s ch1.1 ch1.2.1 ch1.2.2, .q Y71 ch_0_2 ch_0_3 x1.2.2.2.2]) .h2 T24 rfl rfl fun w S => c_end (c_region (s_fieldAddr S rfl I34_4 T32 (by decide) rfl rfl fun a S => s_loadSl S rfl .h2 T32 (A := ch_0_2) (len := (x1.2.2.2.2).length) (cap := ch_0_3) rfl rfl fun a S => bindX h1 fun t2 et2 h2 => s_callR S (fun (ch : (Option Addr) × Nat × Nat) => ((.s ch.1 ch.2.1 ch.2.2) : D)) (fun (ch : (Option Addr) × Nat × Nat) => Res.row Y71 71 ch.1 ch.2.1 ch.2.2 t2) N44 rfl rfl (api_Slot.ok x1.2.2.2.2 ch_0_2 ch_0_3 t2 et2 _ _) fun ch2 m le1 a w S => s_fieldAddr S rfl I34_4 T32 (by decide) rfl rfl fun a S => s_store S rfl rfl rfl (s' := [.b20 x1.1, .w x1.2.1, .w4 x1.2.2.1, .s ch1.1 ch1.2.1 ch1.2.2, .s ch2.1 ch2.2.1 ch2.2.2]) .h3 T32 rfl rfl fun w S => c_end (c_region (s_loada S rfl .h3 T34 (s' := [.b20 x1.1, .w x1.2.1, .w4 x1.2.2.1, .s ch1.1 ch1.2.1 ch1.2.2, .s ch2.1 ch2.2.1 ch2.2.2]) rfl rfl fun a S => s_store S rfl rfl rfl (s' := [.b20 x1.1, .w x1.2.1, .w4 x1.2.2.1, .s ch1.1 ch1.2.1 ch1.2.2, .s ch2.1 ch2.2.1 ch2.2.2]) .h2 T34 rfl rfl fun w S => c_end (wp_ret ?_))))))))
 obtain rfl := Option.some.inj h2
 exact b_ret1 (d := (.agg [.b20 x1.1, .w x1.2.1, .w4 x1.2.2.1, .s ch1.1 ch1.2.1 ch1.2.2, .s ch2.1 ch2.2.1 ch2.2.2])) S rfl (resD_cell rfl .h2 T34 rfl rfl) fun ok => S.retX (Hx := []) hb _ _ ((ch1.1, ch1.2.1, ch1.2.2, ch2.1, ch2.2.1, ch2.2.2) : (Option Addr) × Nat × Nat × (Option Addr) × Nat × Nat) (.c1 (.c0 .n)) ok
abbrev fork_Cache_Fill.Ty : Type := ((List ((List Int) × L34)) × (List ((List Int) × Int))) → (L34) → Option (Bool × ((List ((List Int) × L34)) × (List ((List Int) × Int))))
def fork_Cache_Fill.Ctr (s : fork_Cache_Fill.Ty) : Prop := ∀ (x1 : (List ((List Int) × L34)) × (List ((List Int) × Int))) (x2 : L34) (ch_0_0 : Nat) (ch_0_1 : Nat) (ch_0_2 : Nat) (ch_1_0 : Option Addr) (ch_1_1 : Nat) (ch_1_2 : Option Addr) (ch_1_3 : Nat) (r : Bool × ((List ((List Int) × L34)) × (List ((List Int) × Int)))), Ct (C := (Nat × Nat)) Try.prog 14 (s x1 x2 = some r) [Res.cells ch_0_0 76 [.one (.map (some ch_0_1)), .one (.map (some ch_0_2))], Res.map true (Ty.arr .u8 20) true Y34 ch_0_1 x1.1, Res.map true (Ty.arr .u8 20) false yi ch_0_2 x1.2] [(.p ch_0_0), (.agg [.b20 x2.1, .w x2.2.1, .w4 x2.2.2.1, .q yb ch_1_0 ch_1_1 x2.2.2.2.1, .q Y71 ch_1_2 ch_1_3 x2.2.2.2.2])] (fun _ => (.b r.1)) fun ch => [Res.cells ch_0_0 76 [.one (.map (some ch.1)), .one (.map (some ch.2))], Res.map true (Ty.arr .u8 20) true Y34 ch.1 r.2.1, Res.map true (Ty.arr .u8 20) false yi ch.2 r.2.2]
def fork_Cache_Fill.f (k : Nat) (x1 : (List ((List Int) × L34)) × (List ((List Int) × Int))) (x2 : L34) : Option (Bool × ((List ((List Int) × L34)) × (List ((List Int) × Int)))) := (store_Right.f k x2).bind fun t1 => (if (!t1) = true then (some (false, x1)) else (if (!((lk (aget x1.2 x2.1) 0).2)) = true then (some (false, x1)) else ((fork_own.f x2).bind fun t2 => (some (true, (aput x1.1 x2.1 t2, adel x1.2 x2.1))))))
theorem fork_Cache_Fill.ok (k : Nat) : fork_Cache_Fill.Ctr (fork_Cache_Fill.f k) := by
 intro x1 x2 ch_0_0 ch_0_1 ch_0_2 ch_1_0 ch_1_1 ch_1_2 ch_1_3 r h0 mi w0 ok hm
 delta fork_Cache_Fill.f at h0
 refine c_enterZ (n := 40) ok hm func14 rfl rfl rfl fun b0 hb a S => c_region (s_box S rfl rfl rfl fun g1 a w S => s_assign S rfl rfl fun a S => c_end (wp_seq (c_region (s_move S rfl rfl fun a S => s_eqp S (b := false) rfl rfl underlying36 rfl rfl fun a S => s_move S rfl rfl fun a S => s_gT S (b := false) rfl rfl rfl (s_loada S rfl .h T34 (s' := [.b20 x2.1, .w x2.2.1, .w4 x2.2.2.1, .q yb ch_1_0 ch_1_1 x2.2.2.2.1, .q Y71 ch_1_2 ch_1_3 x2.2.2.2.2]) rfl rfl fun a S => s_gT S (b := false) rfl rfl rfl (bindX h0 fun t1 et1 h1 => s_callP S _ N30 rfl rfl (store_Right.ok k x2 ch_1_0 ch_1_1 ch_1_2 ch_1_3 t1 et1 _ _) fun ch1 m le1 a w S => s_gT S (b := false) rfl rfl rfl (s_not S rfl rfl fun a S => s_pick S (b := false) (hc_of rfl rfl) rfl rfl fun a S => c_end ?_)))))))
 rcases ite_of h1 with ⟨c1, h2⟩ | ⟨c1, h2⟩
 ·refine c_condT S rfl c1 (c_region (s_assign S rfl rfl fun a S => c_end (wp_ret (x_thenR ?_))))
  obtain rfl := Option.some.inj h2
  exact b_ret1 (d := (.b false)) S rfl rfl fun ok => S.retX (Hx := []) hb _ _ ((ch_0_1, ch_0_2) : Nat × Nat) (.c1 (.c1 (.c1 .n))) ok
 ·refine c_condF S rfl c1 (wp_skip (x_thenN (wp_seq ?_)))
  refine wp_seq (c_heldS S (.take 0 (.take 1 (.take 2 (.take 3 (.take 4 (.take 5 (.alts (.run 6 true (.take 7 (.take 8 (.take 9 (.take 10 (.take 11 .done))))) .nil)))))))) 12 [Res.cells g1 34 [.b20 x2.1, .w x2.2.1, .w4 x2.2.2.1, .q yb ch_1_0 ch_1_1 x2.2.2.2.1, .q Y71 ch_1_2 ch_1_3 x2.2.2.2.2], Res.cells ch_0_0 76 [.one (.map (some ch_0_1)), .one (.map (some ch_0_2))]] (.c0 (.c0 .n)) ⟨Res.stay_cells, Res.stay_cells, trivial⟩ [(3, (.p g1)), (0, (.p ch_0_0))] (subR rfl) (by kernel_rfl) (by kernel_rfl) ?_); clear S; intro w S CL hw le
  refine h_move S CL hw le (subR rfl) rfl rfl rfl trivial fun a S CL => h_nilchk S CL hw le (subR rfl) rfl rfl rfl rfl trivial fun a S CL => h_fieldAddr S CL hw le (subR rfl) rfl I76_1 T74 (by decide) rfl rfl rfl trivial fun a S CL => h_load1 S CL hw le (subR rfl) rfl .h1 T74 (v := (.map (some ch_0_2))) rfl rfl rfl trivial fun a S CL => h_fieldAddr S CL hw le (subR rfl) rfl I34_0 T28 (by decide) rfl rfl rfl trivial fun a S CL => h_loada S CL hw le (subR rfl) rfl .h T28 (s' := [.b20 x2.1]) rfl rfl rfl trivial fun a S CL => h_run' S rfl trivial (s_lookO S (z := 0) (k := x2.1) rfl .h3 () rfl (fun h => ⟨(), rfl, h⟩) underlying74 KT28 Z3 ⟨rfl, trivial⟩ rfl fun ch2 a S => CL.bk hw S (.c0 (.c0 .n)) le fun hw => ?_)
  replace CL := CL.add (t := 21) (d := (.tup [(false, [.i ((lk (aget x1.2 x2.1) 0).1)]), (false, [.b ((lk (aget x1.2 x2.1) 0).2)])])) S rfl rfl
  refine h_move S CL hw le (subR rfl) rfl rfl rfl trivial fun a S CL => h_extract S CL hw le (subR rfl) rfl rfl rfl rfl rfl trivial fun a S CL => h_extract S CL hw le (subR rfl) rfl rfl rfl rfl rfl trivial fun a S CL => h_assign S CL hw le (subR rfl) rfl rfl rfl trivial fun a S CL => h_assign S CL hw le (subR rfl) rfl rfl rfl trivial fun a S CL => ?_
  refine h_done ?_; clear CL hw le
  refine x_thenN (c_region (s_move S rfl rfl fun a S => s_not S rfl rfl fun a S => c_end ?_))
  rcases ite_of h2 with ⟨c2, h3⟩ | ⟨c2, h3⟩
  ·refine c_condT S rfl c2 (c_region (s_assign S rfl rfl fun a S => c_end (wp_ret (x_thenR ?_))))
   obtain rfl := Option.some.inj h3
   exact b_ret1 (d := (.b false)) S rfl rfl fun ok => S.retX (Hx := []) hb _ _ ((ch_0_1, ch_0_2) : Nat × Nat) (.c1 (.c1 (.c1 .n))) ok
  ·refine c_condF S rfl c2 (wp_skip (x_thenN ?_))
   refine wp_seq (c_heldS S (.take 0 (.take 1 (.take 2 (.take 3 (.take 4 (.take 5 (.alts (.run 6 true .done .nil)))))))) 7 [Res.cells g1 34 [.b20 x2.1, .w x2.2.1, .w4 x2.2.2.1, .q yb ch_1_0 ch_1_1 x2.2.2.2.1, .q Y71 ch_1_2 ch_1_3 x2.2.2.2.2], Res.cells ch_0_0 76 [.one (.map (some ch_0_1)), .one (.map (some ch_0_2))]] (.c0 (.c0 .n)) ⟨Res.stay_cells, Res.stay_cells, trivial⟩ [(3, (.p g1)), (0, (.p ch_0_0))] (subR rfl) (by kernel_rfl) (by kernel_rfl) ?_); clear S; intro w S CL hw le
   refine h_move S CL hw le (subR rfl) rfl rfl rfl trivial fun a S CL => h_nilchk S CL hw le (subR rfl) rfl rfl rfl rfl trivial fun a S CL => h_fieldAddr S CL hw le (subR rfl) rfl I76_1 T74 (by decide) rfl rfl rfl trivial fun a S CL => h_load1 S CL hw le (subR rfl) rfl .h1 T74 (v := (.map (some ch_0_2))) rfl rfl rfl trivial fun a S CL => h_fieldAddr S CL hw le (subR rfl) rfl I34_0 T28 (by decide) rfl rfl rfl trivial fun a S CL => h_loada S CL hw le (subR rfl) rfl .h T28 (s' := [.b20 x2.1]) rfl rfl rfl trivial fun a S CL => h_run' S rfl trivial (s_delOn S (k := x2.1) rfl .h3 rfl (fun h => ⟨(), rfl, h⟩) underlying74 KT28 fun w S => CL.bk hw S (.c0 (.c0 .n)) le fun hw => ?_)
   refine h_done ?_; clear CL hw le
   refine x_thenN ?_
   refine wp_seq (c_heldS S (.take 0 (.take 1 (.take 2 (.take 3 (.take 4 (.take 5 (.take 6 (.alts (.run 7 true (.alts (.run 8 true .done .nil)) .nil))))))))) 9 [Res.cells g1 34 [.b20 x2.1, .w x2.2.1, .w4 x2.2.2.1, .q yb ch_1_0 ch_1_1 x2.2.2.2.1, .q Y71 ch_1_2 ch_1_3 x2.2.2.2.2], Res.cells ch_0_0 76 [.one (.map (some ch_0_1)), .one (.map (some ch_0_2))]] (.c0 (.c0 .n)) ⟨Res.stay_cells, Res.stay_cells, trivial⟩ [(3, (.p g1)), (0, (.p ch_0_0))] (subR rfl) (by kernel_rfl) (by kernel_rfl) ?_); clear S; intro w S CL hw le
   refine h_move S CL hw le (subR rfl) rfl rfl rfl trivial fun a S CL => h_nilchk S CL hw le (subR rfl) rfl rfl rfl rfl trivial fun a S CL => h_fieldAddr S CL hw le (subR rfl) rfl I76_0 T73 (by decide) rfl rfl rfl trivial fun a S CL => h_load1 S CL hw le (subR rfl) rfl .h1 T73 (v := (.map (some ch_0_1))) rfl rfl rfl trivial fun a S CL => h_fieldAddr S CL hw le (subR rfl) rfl I34_0 T28 (by decide) rfl rfl rfl trivial fun a S CL => h_loada S CL hw le (subR rfl) rfl .h T28 (s' := [.b20 x2.1]) rfl rfl rfl trivial fun a S CL => h_loada S CL hw le (subR rfl) rfl .h T34 (s' := [.b20 x2.1, .w x2.2.1, .w4 x2.2.2.1, .q yb ch_1_0 ch_1_1 x2.2.2.2.1, .q Y71 ch_1_2 ch_1_3 x2.2.2.2.2]) rfl rfl rfl trivial fun a S CL => h_run' S rfl trivial (bindX h3 fun t2 et2 h4 => s_callX S (ds' := [(.agg [.b20 x2.1, .w x2.2.1, .w4 x2.2.2.1, .q yb ch_1_0 ch_1_1 x2.2.2.2.1, .q Y71 ch_1_2 ch_1_3 x2.2.2.2.2])]) (ds := [(.agg [.b20 x2.1, .w x2.2.1, .w4 x2.2.2.1, .q yb ch_1_0 ch_1_1 x2.2.2.2.1, .q Y71 ch_1_2 ch_1_3 x2.2.2.2.2])]) [] [Res.cells g1 34 [.b20 x2.1, .w x2.2.1, .w4 x2.2.2.1, .q yb ch_1_0 ch_1_1 x2.2.2.2.1, .q Y71 ch_1_2 ch_1_3 x2.2.2.2.2], Res.cells ch_0_0 76 [.one (.map (some ch_0_1)), .one (.map (some ch_0_2))], Res.map true (Ty.arr .u8 20) true Y34 ch_0_1 x1.1, Res.map true (Ty.arr .u8 20) false yi ch_0_2 (adel x1.2 x2.1)] (fun (ch : (Option Addr) × Nat × Nat × (Option Addr) × Nat × Nat) => ((.agg [.b20 t2.1, .w t2.2.1, .w4 t2.2.2.1, .s ch.1 ch.2.1 ch.2.2.1, .s ch.2.2.2.1 ch.2.2.2.2.1 ch.2.2.2.2.2]) : D)) (fun (ch : (Option Addr) × Nat × Nat × (Option Addr) × Nat × Nat) => [Res.row yb 5 ch.1 ch.2.1 ch.2.2.1 t2.2.2.2.1, Res.row Y71 71 ch.2.2.2.1 ch.2.2.2.2.1 ch.2.2.2.2.2 t2.2.2.2.2]) (fun (ch : (Option Addr) × Nat × Nat × (Option Addr) × Nat × Nat) => [Res.row yb 5 ch.1 ch.2.1 ch.2.2.1 t2.2.2.2.1, Res.row Y71 71 ch.2.2.2.1 ch.2.2.2.2.1 ch.2.2.2.2.2 t2.2.2.2.2, Res.cells g1 34 [.b20 x2.1, .w x2.2.1, .w4 x2.2.2.1, .q yb ch_1_0 ch_1_1 x2.2.2.2.1, .q Y71 ch_1_2 ch_1_3 x2.2.2.2.2], Res.cells ch_0_0 76 [.one (.map (some ch_0_1)), .one (.map (some ch_0_2))], Res.map true (Ty.arr .u8 20) true Y34 ch_0_1 x1.1, Res.map true (Ty.arr .u8 20) false yi ch_0_2 (adel x1.2 x2.1)]) (fun _ => rfl) N31 rfl rfl (fun ok => ok) (.c0 (.c0 (.c0 (.c0 .n)))) rfl (fork_own.ok x2 ch_1_0 ch_1_1 ch_1_2 ch_1_3 t2 et2 _ _) fun ch3 m le1 a w S => ?_)
   replace le := le.trans le1
   refine CL.bk hw S (.c2 (.c2 .n)) le fun hw => h_run' S rfl trivial ?_
   replace S := S.rowfro .h
   obtain ⟨m, le1, S, hro⟩ := S
   replace le := le.trans le1
   replace S := S.slot (u := 39) (d' := (.agg [.b20 t2.1, .w t2.2.1, .w4 t2.2.2.1, .q yb ch3.1 ch3.2.2.1 t2.2.2.2.1, .s ch3.2.2.2.1 ch3.2.2.2.2.1 ch3.2.2.2.2.2])) rfl (by simp [D.val, pd, cellsOf, Seg.cells, hro.2.1]) (by have h := (S.get 39 (.agg [.b20 t2.1, .w t2.2.1, .w4 t2.2.2.1, .s ch3.1 ch3.2.1 ch3.2.2.1, .s ch3.2.2.2.1 ch3.2.2.2.2.1 ch3.2.2.2.2.2]) rfl).2; exact ⟨h.1, h.2.1, h.2.2.1, ⟨by have := hro.2.2.1; omega, hro.2.2.2, hro.1, RdS.mono _ _ _⟩, h.2.2.2.2.1, trivial⟩)
   replace S := S.rowfro .h
   obtain ⟨m, le1, S, hro⟩ := S
   replace le := le.trans le1
   replace S := S.slot (u := 39) (d' := (.agg [.b20 t2.1, .w t2.2.1, .w4 t2.2.2.1, .q yb ch3.1 ch3.2.2.1 t2.2.2.2.1, .q Y71 ch3.2.2.2.1 ch3.2.2.2.2.2 t2.2.2.2.2])) rfl (by simp [D.val, pd, cellsOf, Seg.cells, hro.2.1]) (by have h := (S.get 39 (.agg [.b20 t2.1, .w t2.2.1, .w4 t2.2.2.1, .q yb ch3.1 ch3.2.2.1 t2.2.2.2.1, .s ch3.2.2.2.1 ch3.2.2.2.2.1 ch3.2.2.2.2.2]) rfl).2; exact ⟨h.1, h.2.1, h.2.2.1, h.2.2.2.1, ⟨by have := hro.2.2.1; omega, hro.2.2.2, hro.1, RdS.mono _ _ _⟩, trivial⟩)
   refine s_mapput S (k := x2.1) (y := t2) rfl .h2 rfl (fun h => ⟨(), rfl, h⟩) rfl (fun h => ⟨((), (), (), (ch3.1, ch3.2.2.1), (ch3.2.2.2.1, ch3.2.2.2.2.2)), rfl, h⟩) underlying73 KT28 fun w S => CL.bk hw S (.c0 (.c0 .n)) le fun hw => ?_
   refine h_done ?_; clear CL hw le
   refine x_thenN (c_region (s_assign S rfl rfl fun a S => c_end (wp_ret ?_)))
   obtain rfl := Option.some.inj h4
   exact b_ret1 (d := (.b true)) S rfl rfl fun ok => S.retX (Hx := []) hb _ _ ((ch_0_1, ch_0_2) : Nat × Nat) (.c1 (.c1 (.c1 .n))) ok
end
end GW
