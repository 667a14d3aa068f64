import Derived.Test.YtnloindmiejbeaaProg
import Derived.Test.YtnloindmiejbeaaGWBrev
set_option linter.unusedVariables false
set_option linter.unusedSimpArgs false
set_option maxRecDepth 10000
set_option maxHeartbeats 4000000
namespace GW
open Go Go.RowKit Go.Proofs Go.Proofs.Try
noncomputable section
abbrev L28 : Type := List ((List Int) × (List (List Int)))
abbrev Y63 : Ty ((List Int) × (List (List Int))) := (Ty.prod (Ty.arr .u8 20) (Ty.slice (Ty.arr .u64 4)))
abbrev L76 : Type := (List Int) × Int × (List Int) × (List Int) × (List ((List Int) × (List Int)))
abbrev Y89 : Ty ((List Int) × (List Int)) := (Ty.prod (Ty.arr .u64 4) (Ty.arr .u64 4))
abbrev Y76 : Ty L76 := (Ty.prod (Ty.arr .u8 20) (Ty.prod (Ty.int .u64) (Ty.prod (Ty.arr .u64 4) (Ty.prod (Ty.slice (Ty.int .u8)) (Ty.slice Y89)))))
theorem T30 : tyI Try.prog 30 = some (true, 57) := by kernel_rfl
abbrev L30 : Type := (List Int) × (List Int) × Bool × Int × (List Int) × (List Int) × Int × (List Int) × (List Int) × L28
abbrev Y30 : Ty L30 := (Ty.prod (Ty.arr .u8 20) (Ty.prod (Ty.arr .u8 20) (Ty.prod Ty.bool (Ty.prod (Ty.int .u64) (Ty.prod (Ty.arr .u64 4) (Ty.prod (Ty.slice (Ty.int .u8)) (Ty.prod (Ty.int .u64) (Ty.prod (Ty.arr .u64 4) (Ty.prod (Ty.arr .u64 4) (Ty.slice Y63))))))))))
theorem I30_5 : fieldI Try.prog 30 5 = some (46, 27) := by kernel_rfl
theorem T27 : tyI Try.prog 27 = some (false, 1) := by kernel_rfl
theorem I30_9 : fieldI Try.prog 30 9 = some (56, 28) := by kernel_rfl
theorem T28 : tyI Try.prog 28 = some (false, 1) := by kernel_rfl
theorem T63 : tyI Try.prog 63 = some (true, 21) := by kernel_rfl
theorem I63_1 : fieldI Try.prog 63 1 = some (20, 61) := by kernel_rfl
theorem T61 : tyI Try.prog 61 = some (false, 1) := by kernel_rfl
abbrev L47 : Type := Int × Int × Int × (List Int) × (List Int) × (List Int) × Int × (List (List Int))
abbrev Y47 : Ty L47 := (Ty.prod (Ty.int .u64) (Ty.prod (Ty.int .u64) (Ty.prod (Ty.int .u64) (Ty.prod (Ty.arr .u8 20) (Ty.prod (Ty.arr .u64 4) (Ty.prod (Ty.arr .u64 4) (Ty.prod (Ty.int .u64) (Ty.slice (Ty.arr .u8 32)))))))))
theorem N5 : Fn_ Try.prog 5 := ⟨_, func5, rfl, by decide⟩
theorem T76 : tyI Try.prog 76 = some (true, 27) := by kernel_rfl
theorem I76_3 : fieldI Try.prog 76 3 = some (25, 27) := by kernel_rfl
theorem I76_4 : fieldI Try.prog 76 4 = some (26, 74) := by kernel_rfl
theorem T74 : tyI Try.prog 74 = some (false, 1) := by kernel_rfl
theorem N35 : Fn_ Try.prog 35 := ⟨_, func35, rfl, by decide⟩
theorem Z76 : zeroI Try.prog 76 = some (D.val (.agg [.b20 z20, .w 0, .w4 [0, 0, 0, 0], .s none 0 0, .s none 0 0])) := by kernel_rfl
theorem T89 : tyI Try.prog 89 = some (true, 8) := by kernel_rfl
theorem I89_1 : fieldI Try.prog 89 1 = some (4, 26) := by kernel_rfl
theorem T26 : tyI Try.prog 26 = some (true, 4) := by kernel_rfl
theorem T24 : tyI Try.prog 24 = some (false, 1) := by kernel_rfl
theorem Q26 : Try.prog.eqGuardType Try.prog.depth 26 = false := by kernel_rfl
theorem I89_0 : fieldI Try.prog 89 0 = some (0, 26) := by kernel_rfl
theorem Z70 : zeroI Try.prog 70 = some (D.val (.agg [.ints .i64 z32 32])) := by kernel_rfl
theorem T70 : tyI Try.prog 70 = some (true, 32) := by kernel_rfl
theorem T3 : tyI Try.prog 3 = some (false, 1) := by kernel_rfl
theorem N42 : Fn_ Try.prog 42 := ⟨_, func42, rfl, by decide⟩
theorem N47 : Fn_ Try.prog 47 := ⟨_, func47, rfl, by decide⟩
theorem N51 : Fn_ Try.prog 51 := ⟨_, func51, rfl, by decide⟩
theorem N36 : Fn_ Try.prog 36 := ⟨_, func36, rfl, by decide⟩
theorem N16 : Fn_ Try.prog 16 := ⟨_, func16, rfl, by decide⟩
theorem P30 : ∀ w : World, ((match Try.prog.underlying 30 with | some (.struct fs) => fs | _ => (#[] : Array Field)).mapM fun (f : Field) => (do pure (f.offset, ← Go.sizeOf f.type) : Sem (Nat × Nat))).run Try.prog w = .ok #[(0, 20), (20, 20), (40, 1), (41, 1), (42, 4), (46, 1), (47, 1), (48, 4), (52, 4), (56, 1)] w := fun _ => by kernel_rfl
theorem Z30 : zeroI Try.prog 30 = some (D.val (.agg [.b20 z20, .b20 z20, .b false, .w 0, .w4 [0, 0, 0, 0], .s none 0 0, .w 0, .w4 [0, 0, 0, 0], .w4 [0, 0, 0, 0], .s none 0 0])) := by kernel_rfl
theorem Z26 : zeroI Try.prog 26 = some (D.val (.a4 [0, 0, 0, 0])) := by kernel_rfl
theorem I30_6 : fieldI Try.prog 30 6 = some (47, 24) := by kernel_rfl
theorem I30_7 : fieldI Try.prog 30 7 = some (48, 26) := by kernel_rfl
theorem N26 : Fn_ Try.prog 26 := ⟨_, func26, rfl, by decide⟩
theorem Z100 : zeroI Try.prog 100 = some (D.val (.agg [.ints .u64 z8 8])) := by kernel_rfl
theorem N44 : Fn_ Try.prog 44 := ⟨_, func44, rfl, by decide⟩
theorem X45 : isExt Try.prog 45 add64Entry := ⟨_, func45, by kernel_rfl, by kernel_rfl, by kernel_rfl, by kernel_rfl⟩
theorem N25 : Fn_ Try.prog 25 := ⟨_, func25, rfl, by decide⟩
theorem I30_4 : fieldI Try.prog 30 4 = some (42, 26) := by kernel_rfl
theorem N27 : Fn_ Try.prog 27 := ⟨_, func27, rfl, by decide⟩
theorem N28 : Fn_ Try.prog 28 := ⟨_, func28, rfl, by decide⟩
theorem N7 : Fn_ Try.prog 7 := ⟨_, func7, rfl, by decide⟩
theorem X46 : isExt Try.prog 46 subEntry := ⟨_, func46, by kernel_rfl, by kernel_rfl, by kernel_rfl, by kernel_rfl⟩
theorem N31 : Fn_ Try.prog 31 := ⟨_, func31, rfl, by decide⟩
theorem I30_8 : fieldI Try.prog 30 8 = some (52, 26) := by kernel_rfl
theorem N12 : Fn_ Try.prog 12 := ⟨_, func12, rfl, by decide⟩
theorem N6 : Fn_ Try.prog 6 := ⟨_, func6, rfl, by decide⟩
theorem J5 : appI Try.prog 5 = some (1, 1) := by kernel_rfl
theorem Z5 : zeroI Try.prog 5 = some (D.val (.v (.int .u8 0))) := by kernel_rfl
theorem N37 : Fn_ Try.prog 37 := ⟨_, func37, rfl, by decide⟩
theorem J89 : appI Try.prog 89 = some (8, 64) := by kernel_rfl
theorem Z89 : zeroI Try.prog 89 = some (D.val (.agg [.w4 [0, 0, 0, 0], .w4 [0, 0, 0, 0]])) := by kernel_rfl
theorem N38 : Fn_ Try.prog 38 := ⟨_, func38, rfl, by decide⟩
theorem J76 : appI Try.prog 76 = some (27, 112) := by kernel_rfl
theorem P79 : ∀ w : World, ((match Try.prog.underlying 79 with | some (.struct fs) => fs | _ => (#[] : Array Field)).mapM fun (f : Field) => (do pure (f.offset, ← Go.sizeOf f.type) : Sem (Nat × Nat))).run Try.prog w = .ok #[(0, 1)] w := fun _ => by kernel_rfl
theorem Z79 : zeroI Try.prog 79 = some (D.val (.agg [.s none 0 0])) := by kernel_rfl
theorem N18 : Fn_ Try.prog 18 := ⟨_, func18, rfl, by decide⟩
abbrev L97 : Type := L76 × L76 × Bool × Nat × Bool × Bool × Nat
abbrev YE97 (M1 M2 : List Nat) : Ty (L97) := (Ty.prod Y76 (Ty.prod Y76 (Ty.prod Ty.bool (Ty.prod (Ty.mid M1) (Ty.prod Ty.bool (Ty.prod Ty.bool (Ty.mid M2)))))))
theorem YS97_0 (M1 M2 : List Nat) (g : Nat) : SubT (YE97 M1 M2) (YE97 (M1 ++ [g]) M2) := (subT_prod (SubT.refl _) (subT_prod (SubT.refl _) (subT_prod (SubT.refl _) (subT_prod (subT_mid M1 g) (subT_prod (SubT.refl _) (subT_prod (SubT.refl _) (SubT.refl _)))))))
theorem YS97_1 (M1 M2 : List Nat) (g : Nat) : SubT (YE97 M1 M2) (YE97 M1 (M2 ++ [g])) := (subT_prod (SubT.refl _) (subT_prod (SubT.refl _) (subT_prod (SubT.refl _) (subT_prod (SubT.refl _) (subT_prod (SubT.refl _) (subT_prod (SubT.refl _) (subT_mid M2 g)))))))
abbrev L132 : Type := (List Int) × (List (List Int)) × (List Int)
abbrev Y132 : Ty L132 := (Ty.prod (Ty.arr .u8 20) (Ty.prod (Ty.slice (Ty.arr .u64 4)) (Ty.slice (Ty.int .u8))))
theorem P85 : ∀ w : World, ((match Try.prog.underlying 85 with | some (.struct fs) => fs | _ => (#[] : Array Field)).mapM fun (f : Field) => (do pure (f.offset, ← Go.sizeOf f.type) : Sem (Nat × Nat))).run Try.prog w = .ok #[(0, 1), (1, 1), (2, 1), (3, 1), (4, 1), (5, 1)] w := fun _ => by kernel_rfl
theorem Z85 : zeroI Try.prog 85 = some (D.val (.agg [.one .nilIface, .one (.map none), .i 0, .s none 0 0, .s none 0 0, .s none 0 0])) := by kernel_rfl
theorem N17 : Fn_ Try.prog 17 := ⟨_, func17, rfl, by decide⟩
theorem T47 : tyI Try.prog 47 = some (true, 33) := by kernel_rfl
theorem Z63 : zeroI Try.prog 63 = some (D.val (.agg [.b20 z20, .s none 0 0])) := by kernel_rfl
theorem N52 : Fn_ Try.prog 52 := ⟨_, func52, rfl, by decide⟩
theorem I30_2 : fieldI Try.prog 30 2 = some (40, 4) := by kernel_rfl
theorem T4 : tyI Try.prog 4 = some (false, 1) := by kernel_rfl
theorem T5 : tyI Try.prog 5 = some (false, 1) := by kernel_rfl
theorem N48 : Fn_ Try.prog 48 := ⟨_, func48, rfl, by decide⟩
theorem N49 : Fn_ Try.prog 49 := ⟨_, func49, rfl, by decide⟩
theorem N33 : Fn_ Try.prog 33 := ⟨_, func33, rfl, by decide⟩
theorem N14 : Fn_ Try.prog 14 := ⟨_, func14, rfl, by decide⟩
theorem I30_3 : fieldI Try.prog 30 3 = some (41, 24) := by kernel_rfl
theorem N39 : Fn_ Try.prog 39 := ⟨_, func39, rfl, by decide⟩
theorem I30_0 : fieldI Try.prog 30 0 = some (0, 23) := by kernel_rfl
theorem T23 : tyI Try.prog 23 = some (true, 20) := by kernel_rfl
theorem I85_1 : fieldI Try.prog 85 1 = some (1, 80) := by kernel_rfl
theorem T80 : tyI Try.prog 80 = some (false, 1) := by kernel_rfl
theorem KT23 : KeyT Try.prog 23 true (Ty.arr .u8 20) := keyT_arr underlying23 underlying5 T5 T23
theorem Z98 : zeroI Try.prog 98 = some (D.val (.v (.pointer none))) := by kernel_rfl
theorem I85_0 : fieldI Try.prog 85 0 = some (0, 52) := by kernel_rfl
theorem T52 : tyI Try.prog 52 = some (false, 1) := by kernel_rfl
theorem I79_0 : fieldI Try.prog 79 0 = some (0, 44) := by kernel_rfl
theorem T44 : tyI Try.prog 44 = some (false, 1) := by kernel_rfl
theorem I76_0 : fieldI Try.prog 76 0 = some (0, 23) := by kernel_rfl
theorem Q23 : Try.prog.eqGuardType Try.prog.depth 23 = false := by kernel_rfl
theorem P76 : ∀ w : World, ((match Try.prog.underlying 76 with | some (.struct fs) => fs | _ => (#[] : Array Field)).mapM fun (f : Field) => (do pure (f.offset, ← Go.sizeOf f.type) : Sem (Nat × Nat))).run Try.prog w = .ok #[(0, 20), (20, 1), (21, 4), (25, 1), (26, 1)] w := fun _ => by kernel_rfl
theorem N71 : Fn_ Try.prog 71 := ⟨_, func71, rfl, by decide⟩
theorem M79_Account : methI Try.prog 79 "Account" = some 71 := by kernel_rfl
theorem I85_5 : fieldI Try.prog 85 5 = some (5, 83) := by kernel_rfl
theorem T83 : tyI Try.prog 83 = some (false, 1) := by kernel_rfl
theorem J23 : appI Try.prog 23 = some (20, 20) := by kernel_rfl
theorem Z23 : zeroI Try.prog 23 = some (D.val (.agg [.b20 z20])) := by kernel_rfl
theorem P97 : ∀ w : World, ((match Try.prog.underlying 97 with | some (.struct fs) => fs | _ => (#[] : Array Field)).mapM fun (f : Field) => (do pure (f.offset, ← Go.sizeOf f.type) : Sem (Nat × Nat))).run Try.prog w = .ok #[(0, 27), (27, 27), (54, 1), (55, 1), (56, 1), (57, 1), (58, 1)] w := fun _ => by kernel_rfl
theorem Z97 : zeroI Try.prog 97 = some (D.val (.agg [.b20 z20, .w 0, .w4 [0, 0, 0, 0], .s none 0 0, .s none 0 0, .b20 z20, .w 0, .w4 [0, 0, 0, 0], .s none 0 0, .s none 0 0, .b false, .one (.map none), .b false, .b false, .one (.map none)])) := by kernel_rfl
theorem N43 : Fn_ Try.prog 43 := ⟨_, func43, rfl, by decide⟩
theorem I97_1 : fieldI Try.prog 97 1 = some (27, 76) := by kernel_rfl
theorem I76_1 : fieldI Try.prog 76 1 = some (20, 24) := by kernel_rfl
theorem N40 : Fn_ Try.prog 40 := ⟨_, func40, rfl, by decide⟩
theorem N41 : Fn_ Try.prog 41 := ⟨_, func41, rfl, by decide⟩
theorem I47_4 : fieldI Try.prog 47 4 = some (23, 26) := by kernel_rfl
theorem I47_2 : fieldI Try.prog 47 2 = some (2, 24) := by kernel_rfl
theorem I76_2 : fieldI Try.prog 76 2 = some (21, 26) := by kernel_rfl
theorem N24 : Fn_ Try.prog 24 := ⟨_, func24, rfl, by decide⟩
theorem N19 : Fn_ Try.prog 19 := ⟨_, func19, rfl, by decide⟩
theorem J3 : appI Try.prog 3 = some (1, 8) := by kernel_rfl
theorem Z3 : zeroI Try.prog 3 = some (D.val (.i 0)) := by kernel_rfl
theorem N22 : Fn_ Try.prog 22 := ⟨_, func22, rfl, by decide⟩
theorem N29 : Fn_ Try.prog 29 := ⟨_, func29, rfl, by decide⟩
theorem N21 : Fn_ Try.prog 21 := ⟨_, func21, rfl, by decide⟩
theorem N20 : Fn_ Try.prog 20 := ⟨_, func20, rfl, by decide⟩
theorem N23 : Fn_ Try.prog 23 := ⟨_, func23, rfl, by decide⟩
theorem N50 : Fn_ Try.prog 50 := ⟨_, func50, rfl, by decide⟩
theorem N34 : Fn_ Try.prog 34 := ⟨_, func34, rfl, by decide⟩
def Gd23 : (List Int) → Prop := fun xs => xs.length = 20 ∧ ∀ y ∈ xs, inK .u8 y
def Gd4 : Bool → Prop := fun _ => True
def Gd24 : Int → Prop := fun x => inK .u64 x
def Gd26 : (List Int) → Prop := fun xs => xs.length = 4 ∧ ∀ y ∈ xs, inK .u64 y
def Gd5 : Int → Prop := fun x => inK .u8 x
def Gd27 : (List Int) → Prop := fun xs => (∀ y ∈ xs, Gd5 y) ∧ xs.length ≤ maxLen
def Gd61 : (List (List Int)) → Prop := fun xs => (∀ y ∈ xs, Gd26 y) ∧ xs.length ≤ maxLen
def Gd63 : ((List Int) × (List (List Int))) → Prop := fun y => Gd23 y.1 ∧ (Gd61 y.2)
def Gd28 : L28 → Prop := fun xs => (∀ y ∈ xs, Gd63 y) ∧ xs.length ≤ maxLen
def Gd30 : L30 → Prop := fun y => Gd23 y.1 ∧ (Gd23 y.2.1 ∧ (Gd4 y.2.2.1 ∧ (Gd24 y.2.2.2.1 ∧ (Gd26 y.2.2.2.2.1 ∧ (Gd27 y.2.2.2.2.2.1 ∧ (Gd24 y.2.2.2.2.2.2.1 ∧ (Gd26 y.2.2.2.2.2.2.2.1 ∧ (Gd26 y.2.2.2.2.2.2.2.2.1 ∧ (Gd28 y.2.2.2.2.2.2.2.2.2)))))))))
def Gd89 : ((List Int) × (List Int)) → Prop := fun y => Gd26 y.1 ∧ (Gd26 y.2)
def Gd74 : (List ((List Int) × (List Int))) → Prop := fun xs => (∀ y ∈ xs, Gd89 y) ∧ xs.length ≤ maxLen
def Gd76 : L76 → Prop := fun y => Gd23 y.1 ∧ (Gd24 y.2.1 ∧ (Gd26 y.2.2.1 ∧ (Gd27 y.2.2.2.1 ∧ (Gd74 y.2.2.2.2))))
def Gd44 : (List L76) → Prop := fun xs => (∀ y ∈ xs, Gd76 y) ∧ xs.length ≤ maxLen
def Gd129 : (List Int) → Prop := fun xs => xs.length = 32 ∧ ∀ y ∈ xs, inK .u8 y
def Gd45 : (List (List Int)) → Prop := fun xs => (∀ y ∈ xs, Gd129 y) ∧ xs.length ≤ maxLen
def Gd47 : L47 → Prop := fun y => Gd24 y.1 ∧ (Gd24 y.2.1 ∧ (Gd24 y.2.2.1 ∧ (Gd23 y.2.2.2.1 ∧ (Gd26 y.2.2.2.2.1 ∧ (Gd26 y.2.2.2.2.2.1 ∧ (Gd24 y.2.2.2.2.2.2.1 ∧ (Gd45 y.2.2.2.2.2.2.2)))))))
theorem T129 : tyI Try.prog 129 = some (true, 32) := by kernel_rfl
theorem T45 : tyI Try.prog 45 = some (false, 1) := by kernel_rfl
abbrev smithyref19_Great.Ty : Type := (L30) → Option Bool
def smithyref19_Great.Ctr (s : smithyref19_Great.Ty) : Prop := ∀ (x1 : L30) (ch_0_0 : Option Addr) (ch_0_1 : Nat) (ch_0_2 : Option Addr) (ch_0_3 : Nat) (r : Bool), Ct (C := Unit) Try.prog 5 (s x1 = some r) [] [(.agg (Y30.segs x1 ((), (), (), (), (), (ch_0_0, ch_0_1), (), (), (), (ch_0_2, ch_0_3))))] (fun _ => (.b r)) fun _ => []
def smithyref19_Great.j2 : Option Bool := some false
def smithyref19_Great.b1 (x1 : L30) (rec1 : Int → Option Bool) (y5 : Int) : Option Bool := if (decide (y5 < ((x1.2.2.2.2.2.2.2.2.2).length : Int))) = true then (if (0 : Int) ≤ y5 ∧ y5 < ((x1.2.2.2.2.2.2.2.2.2).length : Int) then (if (decide (30 < (((gt x1.2.2.2.2.2.2.2.2.2 y5).2).length : Int))) = true then (some true) else (rec1 (wr .i64 (y5 + 1)))) else none) else smithyref19_Great.j2
def smithyref19_Great.l1 (x1 : L30) : Nat → Int → Option Bool
  | 0, _ => none
  | q + 1, y5 => smithyref19_Great.b1 x1 (smithyref19_Great.l1 x1 q) y5
def smithyref19_Great.j1 (k : Nat) (x1 : L30) (y1 : Bool) : Option Bool := if y1 = true then (some true) else (smithyref19_Great.l1 x1 k 0)
def smithyref19_Great.f (k : Nat) (x1 : L30) : Option Bool := if (decide (3000 < ((x1.2.2.2.2.2.1).length : Int))) = true then (smithyref19_Great.j1 k x1 true) else (smithyref19_Great.j1 k x1 (decide (30 < ((x1.2.2.2.2.2.2.2.2.2).length : Int))))
theorem smithyref19_Great.ok (k : Nat) : smithyref19_Great.Ctr (smithyref19_Great.f k) := by
 intro x1 ch_0_0 ch_0_1 ch_0_2 ch_0_3 r h0 mi w0 ok hm
 delta smithyref19_Great.f at h0
 refine c_enterZ (n := 29) ok hm func5 rfl rfl rfl fun b0 hb a S => c_region (s_box S rfl rfl rfl fun g1 a w S => s_assign S rfl rfl fun a S => c_end (wp_seq (wp_seq_k fun K1 hK1 => ?_)))
 have j1 : ∀ m y1 g2 a w, St 29 m b0 [(13, (.b y1)), (1, (.p g2))] [Res.cells g2 30 (Y30.segs x1 ((), (), (), (), (), (ch_0_0, ch_0_1), (), (), (), (ch_0_2, ch_0_3)))] a w → smithyref19_Great.j1 k x1 y1 = some r → K1 a w := by
  intro m y1 g2 a w S h0
  delta smithyref19_Great.j1 at h0
  refine hK1 a w ?_
  rcases ite_of h0 with ⟨c1, h1⟩ | ⟨c1, h1⟩
  ·refine c_condT S rfl c1 (c_region (s_assign S rfl rfl fun a S => c_end (wp_ret (x_thenR ?_))))
   obtain rfl := Option.some.inj h1
   exact b_ret1 (d := (.b true)) S rfl rfl (S.rt hb)
  ·refine c_condF S rfl c1 (wp_skip (x_thenN (wp_seq_k fun K2 hK2 => ?_)))
   have j2 : ∀ m a w, St 29 m b0 [] [] a w → smithyref19_Great.j2 = some r → K2 a w := by
    intro m a w S h0
    delta smithyref19_Great.j2 at h0
    refine hK2 a w (c_region (s_assign S rfl rfl fun a S => c_end (wp_ret ?_)))
    obtain rfl := Option.some.inj h0
    exact b_ret1 (d := (.b false)) S rfl rfl (S.rt hb)
   refine c_region (s_fieldAddr S rfl I30_9 T28 (by decide) rfl rfl fun a S => s_loadSl S rfl .h T28 (A := ch_0_2) (len := (x1.2.2.2.2.2.2.2.2.2).length) (cap := ch_0_3) rfl rfl fun a S => s_lenS S rfl underlying28 rfl fun a S => s_move S rfl rfl fun a S => c_end (wp_block ?_))
   refine c_loop (fun q1 a w => ∃ m y5 g8, St 29 m b0 [(17, (.i y5)), (16, (.i ((x1.2.2.2.2.2.2.2.2.2).length : Int))), (1, (.p g8))] [Res.cells g8 30 (Y30.segs x1 ((), (), (), (), (), (ch_0_0, ch_0_1), (), (), (), (ch_0_2, ch_0_3)))] a w ∧ smithyref19_Great.l1 x1 q1 y5 = some r) ?_ ?_ (k := k) ⟨_, 0, g2, (S.sb rfl (.c0 .n)), h1⟩
   ·rintro a w ⟨m, y5, g8, S, h0⟩
    exact (nomatch (show (none : Option Bool) = some r from h0))
   ·clear S h1
    rintro q1 a w ⟨m, y5, g8, S, h0⟩
    replace h0 : smithyref19_Great.b1 x1 (smithyref19_Great.l1 x1 q1) y5 = some r := h0
    delta smithyref19_Great.b1 at h0
    refine c_region (s_bin S rfl rfl rfl rfl fun a S => c_end (wp_seq ?_))
    rcases ite_of h0 with ⟨c2, h1⟩ | ⟨c2, h1⟩
    ·refine c_condT S rfl c2 (wp_skip (x_thenN (wp_seq (wp_block (c_region (s_move S rfl rfl fun a S => s_assign S rfl rfl fun a S => c_end (c_region (s_fieldAddr S rfl I30_9 T28 (by decide) rfl rfl fun a S => s_loadSl S rfl .h T28 (A := ch_0_2) (len := (x1.2.2.2.2.2.2.2.2.2).length) (cap := ch_0_3) rfl rfl fun a S => s_move S rfl rfl fun a S => ?_))))))))
     obtain ⟨c3, h2⟩ := chk_of h1; clear h1
     refine s_iaddrS S rfl rfl rfl underlying28 T63 c3.1 c3.2 rfl fun p1 a S => s_faddrP S (tF := (Ty.slice (Ty.arr .u64 4))) (y := (gt x1.2.2.2.2.2.2.2.2.2 y5).2) rfl I63_1 T61 (by decide) (fun m h => (at_snd (at_0 h))) rfl fun a S => s_ldS S (fun c => c) rfl T61 (fun _ => rfl) rfl fun A1 cp1 a S => s_lenS S rfl underlying61 rfl fun a S => s_bin S rfl rfl rfl rfl fun a S => c_end ?_
     rcases ite_of h2 with ⟨c4, h3⟩ | ⟨c4, h3⟩
     ·refine c_condT S rfl c4 (c_region (s_assign S rfl rfl fun a S => c_end (wp_ret (x_blockR (x_thenR (x_thenR (x_blockR (x_thenR ?_))))))))
      obtain rfl := Option.some.inj h3
      exact b_ret1 (d := (.b true)) S rfl rfl (S.rt hb)
     ·refine c_condF S rfl c4 (wp_skip (x_blockN (x_thenN (c_region' (s_bin S rfl rfl rfl rfl fun a S => s_move S rfl rfl fun a S => c_end' (x_thenN ?_))))))
      exact ⟨_, (wr .i64 (y5 + 1)), g8, (S.sb rfl (.c0 .n)), h3⟩
    ·refine c_condF S rfl c2 (wp_exit (x_thenX (x_thenX (x_blockX (x_thenN ?_)))))
     exact j2 _ a w (S.sub trivial .nil) h1
 refine c_region' (s_fieldAddr S rfl I30_5 T27 (by decide) rfl rfl fun a S => s_loadSl S rfl .h T27 (A := ch_0_0) (len := (x1.2.2.2.2.2.1).length) (cap := ch_0_1) rfl rfl fun a S => s_lenS S rfl underlying27 rfl fun a S => s_bin S rfl rfl rfl rfl fun a S => s_move S rfl rfl fun a S => ?_)
 rcases ite_of h0 with ⟨c5, h1⟩ | ⟨c5, h1⟩
 ·refine s_gF S (b := (decide (3000 < ((x1.2.2.2.2.2.1).length : Int)))) rfl rfl c5 rfl fun a S => s_gF S (b := (decide (3000 < ((x1.2.2.2.2.2.1).length : Int)))) rfl rfl c5 rfl fun a S => s_gF S (b := (decide (3000 < ((x1.2.2.2.2.2.1).length : Int)))) rfl rfl c5 rfl fun a S => s_gF S (b := (decide (3000 < ((x1.2.2.2.2.2.1).length : Int)))) rfl rfl c5 rfl fun a S => s_pick S (b := true) (hc_of rfl c5) rfl rfl fun a S => c_end' (x_thenN ?_)
  exact j1 _ true g1 a w (S.sb rfl (.c0 .n)) h1
 ·refine s_gT S (b := (decide (3000 < ((x1.2.2.2.2.2.1).length : Int)))) rfl rfl c5 (s_fieldAddr S rfl I30_9 T28 (by decide) rfl rfl fun a S => s_gT S (b := (decide (3000 < ((x1.2.2.2.2.2.1).length : Int)))) rfl rfl c5 (s_loadSl S rfl .h T28 (A := ch_0_2) (len := (x1.2.2.2.2.2.2.2.2.2).length) (cap := ch_0_3) rfl rfl fun a S => s_gT S (b := (decide (3000 < ((x1.2.2.2.2.2.1).length : Int)))) rfl rfl c5 (s_lenS S rfl underlying28 rfl fun a S => s_gT S (b := (decide (3000 < ((x1.2.2.2.2.2.1).length : Int)))) rfl rfl c5 (s_bin S rfl rfl rfl rfl fun a S => s_pick S (b := false) (hc_of rfl c5) rfl rfl fun a S => c_end' (x_thenN ?_)))))
  exact j1 _ (decide (30 < ((x1.2.2.2.2.2.2.2.2.2).length : Int))) g1 a w (S.sb rfl (.c0 .n)) h1
abbrev smithyref13_Great.Ty : Type := (List L76) → Option Bool
def smithyref13_Great.Ctr (s : smithyref13_Great.Ty) : Prop := ∀ (x1 : List L76) (ch_0_0 : Option Addr) (ch_0_1 : Nat) (r : Bool), Ct (C := Unit) Try.prog 35 (s x1 = some r) [] [(.q Y76 ch_0_0 ch_0_1 x1)] (fun _ => (.b r)) fun _ => []
def smithyref13_Great.j1 : Option Bool := some false
def smithyref13_Great.j2 (y1 : Int) (rec1 : Int → Option Bool) (y2 : Bool) : Option Bool := if y2 = true then (some true) else (rec1 (wr .i64 (y1 + 1)))
def smithyref13_Great.b1 (x1 : List L76) (rec1 : Int → Option Bool) (y1 : Int) : Option Bool := if (decide (y1 < ((x1).length : Int))) = true then (if (0 : Int) ≤ y1 ∧ y1 < ((x1).length : Int) then (if (decide (3000 < (((gt x1 y1).2.2.2.1).length : Int))) = true then (smithyref13_Great.j2 y1 rec1 true) else (smithyref13_Great.j2 y1 rec1 (decide (100 < (((gt x1 y1).2.2.2.2).length : Int))))) else none) else smithyref13_Great.j1
def smithyref13_Great.l1 (x1 : List L76) : Nat → Int → Option Bool
  | 0, _ => none
  | q + 1, y1 => smithyref13_Great.b1 x1 (smithyref13_Great.l1 x1 q) y1
def smithyref13_Great.f (k : Nat) (x1 : List L76) : Option Bool := if (decide (50 < ((x1).length : Int))) = true then (some true) else (smithyref13_Great.l1 x1 k 0)
theorem smithyref13_Great.ok (k : Nat) : smithyref13_Great.Ctr (smithyref13_Great.f k) := by
 intro x1 ch_0_0 ch_0_1 r h0 mi w0 ok hm
 delta smithyref13_Great.f at h0
 refine c_enterZ (n := 29) ok hm func35 rfl rfl rfl fun b0 hb a S => c_region (s_assign S rfl rfl fun a S => c_end (wp_seq (c_region (s_move S rfl rfl fun a S => s_lenS S rfl underlying44 rfl fun a S => s_bin S rfl rfl rfl rfl fun a S => c_end ?_))))
 rcases ite_of h0 with ⟨c1, h1⟩ | ⟨c1, h1⟩
 ·refine c_condT S rfl c1 (c_region (s_assign S rfl rfl fun a S => c_end (wp_ret (x_thenR ?_))))
  obtain rfl := Option.some.inj h1
  exact b_ret1 (d := (.b true)) S rfl rfl (S.rt hb)
 ·refine c_condF S rfl c1 (wp_skip (x_thenN (wp_seq_k fun K1 hK1 => ?_)))
  have j1 : ∀ m a w, St 29 m b0 [] [] a w → smithyref13_Great.j1 = some r → K1 a w := by
   intro m a w S h0
   delta smithyref13_Great.j1 at h0
   refine hK1 a w (c_region (s_assign S rfl rfl fun a S => c_end (wp_ret ?_)))
   obtain rfl := Option.some.inj h0
   exact b_ret1 (d := (.b false)) S rfl rfl (S.rt hb)
  refine c_region (s_move S rfl rfl fun a S => s_lenS S rfl underlying44 rfl fun a S => s_move S rfl rfl fun a S => c_end (wp_block ?_))
  refine c_loop (fun q1 a w => ∃ m y1, St 29 m b0 [(9, (.i y1)), (8, (.i ((x1).length : Int))), (0, (.q Y76 ch_0_0 ch_0_1 x1))] [] a w ∧ smithyref13_Great.l1 x1 q1 y1 = some r) ?_ ?_ (k := k) ⟨_, 0, (S.sb rfl .nil), h1⟩
  ·rintro a w ⟨m, y1, S, h0⟩
   exact (nomatch (show (none : Option Bool) = some r from h0))
  ·clear S h1
   rintro q1 a w ⟨m, y1, S, h0⟩
   replace h0 : smithyref13_Great.b1 x1 (smithyref13_Great.l1 x1 q1) y1 = some r := h0
   delta smithyref13_Great.b1 at h0
   refine c_region (s_bin S rfl rfl rfl rfl fun a S => c_end (wp_seq ?_))
   rcases ite_of h0 with ⟨c2, h1⟩ | ⟨c2, h1⟩
   ·refine c_condT S rfl c2 (wp_skip (x_thenN (wp_seq (wp_block (c_region (s_move S rfl rfl fun a S => s_assign S rfl rfl fun a S => c_end (wp_seq_k fun K2 hK2 => ?_)))))))
    have j2 : ∀ m y2 a w, St 29 m b0 [(27, (.b y2)), (9, (.i y1)), (8, (.i ((x1).length : Int))), (0, (.q Y76 ch_0_0 ch_0_1 x1))] [] a w → smithyref13_Great.j2 y1 (smithyref13_Great.l1 x1 q1) y2 = some r → K2 a w := by
     intro m y2 a w S h0
     delta smithyref13_Great.j2 at h0
     refine hK2 a w ?_
     rcases ite_of h0 with ⟨c3, h1⟩ | ⟨c3, h1⟩
     ·refine c_condT S rfl c3 (c_region (s_assign S rfl rfl fun a S => c_end (wp_ret (x_blockR (x_thenR (x_thenR (x_blockR (x_thenR ?_))))))))
      obtain rfl := Option.some.inj h1
      exact b_ret1 (d := (.b true)) S rfl rfl (S.rt hb)
     ·refine c_condF S rfl c3 (wp_skip (x_blockN (x_thenN (c_region' (s_bin S rfl rfl rfl rfl fun a S => s_move S rfl rfl fun a S => c_end' (x_thenN ?_))))))
      exact ⟨_, (wr .i64 (y1 + 1)), (S.sb rfl .nil), h1⟩
    refine c_region' (s_move S rfl rfl fun a S => s_move S rfl rfl fun a S => ?_)
    obtain ⟨c4, h2⟩ := chk_of h1; clear h1
    refine s_iaddrS S rfl rfl rfl underlying44 T76 c4.1 c4.2 rfl fun p1 a S => s_faddrP S (tF := (Ty.slice yb)) (y := (gt x1 y1).2.2.2.1) rfl I76_3 T27 (by decide) (fun m h => (at_fst (at_snd (at_snd (at_snd (at_0 h)))))) rfl fun a S => s_ldS S (fun c => c) rfl T27 (fun _ => rfl) rfl fun A1 cp1 a S => s_lenS S rfl underlying27 rfl fun a S => s_bin S rfl rfl rfl rfl fun a S => s_move S rfl rfl fun a S => ?_
    rcases ite_of h2 with ⟨c5, h3⟩ | ⟨c5, h3⟩
    ·refine s_gF S (b := (decide (3000 < (((gt x1 y1).2.2.2.1).length : Int)))) rfl rfl c5 rfl fun a S => s_gF S (b := (decide (3000 < (((gt x1 y1).2.2.2.1).length : Int)))) rfl rfl c5 rfl fun a S => s_gF S (b := (decide (3000 < (((gt x1 y1).2.2.2.1).length : Int)))) rfl rfl c5 rfl fun a S => s_gF S (b := (decide (3000 < (((gt x1 y1).2.2.2.1).length : Int)))) rfl rfl c5 rfl fun a S => s_gF S (b := (decide (3000 < (((gt x1 y1).2.2.2.1).length : Int)))) rfl rfl c5 rfl fun a S => s_gF S (b := (decide (3000 < (((gt x1 y1).2.2.2.1).length : Int)))) rfl rfl c5 rfl fun a S => s_gF S (b := (decide (3000 < (((gt x1 y1).2.2.2.1).length : Int)))) rfl rfl c5 rfl fun a S => s_pick S (b := true) (hc_of rfl c5) rfl rfl fun a S => c_end' (x_thenN ?_)
     exact j2 _ true a w (S.sb rfl .nil) h3
    ·refine s_gT S (b := (decide (3000 < (((gt x1 y1).2.2.2.1).length : Int)))) rfl rfl c5 (s_move S rfl rfl fun a S => s_gT S (b := (decide (3000 < (((gt x1 y1).2.2.2.1).length : Int)))) rfl rfl c5 (s_move S rfl rfl fun a S => s_gT S (b := (decide (3000 < (((gt x1 y1).2.2.2.1).length : Int)))) rfl rfl c5 (s_iaddrS S rfl rfl rfl underlying44 T76 c4.1 c4.2 rfl fun p2 a S => s_gT S (b := (decide (3000 < (((gt x1 y1).2.2.2.1).length : Int)))) rfl rfl c5 (s_faddrP S (tF := (Ty.slice Y89)) (y := (gt x1 y1).2.2.2.2) rfl I76_4 T74 (by decide) (fun m h => (at_snd (at_snd (at_snd (at_snd (at_0 h)))))) rfl fun a S => s_gT S (b := (decide (3000 < (((gt x1 y1).2.2.2.1).length : Int)))) rfl rfl c5 (s_ldS S (fun c => c) rfl T74 (fun _ => rfl) rfl fun A2 cp2 a S => s_gT S (b := (decide (3000 < (((gt x1 y1).2.2.2.1).length : Int)))) rfl rfl c5 (s_lenS S rfl underlying74 rfl fun a S => s_gT S (b := (decide (3000 < (((gt x1 y1).2.2.2.1).length : Int)))) rfl rfl c5 (s_bin S rfl rfl rfl rfl fun a S => s_pick S (b := false) (hc_of rfl c5) rfl rfl fun a S => c_end' (x_thenN ?_))))))))
     exact j2 _ (decide (100 < (((gt x1 y1).2.2.2.2).length : Int))) a w (S.sb rfl .nil) h3
   ·refine c_condF S rfl c2 (wp_exit (x_thenX (x_thenX (x_blockX (x_thenN ?_)))))
    exact j1 _ a w (S.sub trivial .nil) h1
abbrev smithyref01_Of.Ty : Type := (List Int) → Option ((List Int))
def smithyref01_Of.Ctr (s : smithyref01_Of.Ty) : Prop := ∀ (x1 : List Int) (r : (List Int)), Ct (C := Unit) Try.prog 42 (s x1 = some r) [] [(.a4 x1)] (fun _ => (.agg [.ints .i64 r 32])) fun _ => []
def smithyref01_Of.j1 (y1 : List Int) : Option ((List Int)) := some y1
def smithyref01_Of.b1 (x1 : List Int) (rec1 : Int → (List Int) → Option ((List Int))) (y4 : Int) (y5 : List Int) : Option ((List Int)) := if (decide (y4 < 32)) = true then (if (0 : Int) ≤ (wr .i64 (Int.tdiv y4 8)) ∧ (wr .i64 (Int.tdiv y4 8)) < 4 then (if (0 : Int) ≤ (wr .i64 (8 * (Int.tmod y4 8))) then (if (0 : Int) ≤ y4 ∧ y4 < 32 then (rec1 (wr .i64 (y4 + 1)) (y5.set (Int.toNat y4) (wr .i64 (Int.tmod (shr (rd x1 (wr .i64 (Int.tdiv y4 8))) (min (Int.toNat (wr .i64 (8 * (Int.tmod y4 8)))) 64)) 256)))) else none) else none) else none) else (smithyref01_Of.j1 y5)
def smithyref01_Of.l1 (x1 : List Int) : Nat → Int → (List Int) → Option ((List Int))
  | 0, _, _ => none
  | q + 1, y4, y5 => smithyref01_Of.b1 x1 (smithyref01_Of.l1 x1 q) y4 y5
def smithyref01_Of.f (k : Nat) (x1 : List Int) : Option ((List Int)) := smithyref01_Of.l1 x1 k 0 [0, 0, 0, 0, 0, 0, 0, 0, 0, 0, 0, 0, 0, 0, 0, 0, 0, 0, 0, 0, 0, 0, 0, 0, 0, 0, 0, 0, 0, 0, 0, 0]
theorem smithyref01_Of.ok (k : Nat) : smithyref01_Of.Ctr (smithyref01_Of.f k) := by
 intro x1 r h0 mi w0 ok hm
 delta smithyref01_Of.f at h0
 refine c_enterZ (n := 23) ok hm func42 rfl rfl rfl fun b0 hb a S => c_region (s_box S rfl rfl rfl fun g1 a w S => s_alloc S Z70 rfl ⟨rfl, trivial⟩ rfl fun g2 a w S => c_end (c_region (s_build S (ds := []) (dv := (.agg [.ints .i64 z32 32])) rfl (fun _ => by kernel_rfl) ⟨rfl, trivial⟩ rfl fun a S => s_alloc S Z70 rfl ⟨rfl, trivial⟩ rfl fun g3 a w S => s_store S rfl rfl rfl (s' := [.ints .i64 z32 32]) .h T70 rfl rfl fun w S => c_end (wp_seq_k fun K1 hK1 => ?_))))
 have j1 : ∀ m g13 g14 y1 a w, St 23 m b0 [(3, (.p g13)), (2, (.p g14))] [Res.cells g13 70 [.ints .i64 y1 32], Res.cells g14 70 [.ints .i64 z32 32]] a w → smithyref01_Of.j1 y1 = some r → K1 a w := by
  intro m g13 g14 y1 a w S h0
  delta smithyref01_Of.j1 at h0
  refine hK1 a w (c_region (s_loada S rfl .h T70 (s' := [.ints .i64 y1 32]) rfl rfl fun a S => s_store S rfl rfl rfl (s' := [.ints .i64 y1 32]) .h1 T70 rfl rfl fun w S => c_end (wp_ret ?_)))
  obtain rfl := Option.some.inj h0
  exact b_ret1 (d := (.agg [.ints .i64 y1 32])) S rfl (resD_cell rfl .h1 T70 rfl rfl) (S.rt hb)
 refine c_region (s_assign S rfl rfl fun a S => c_end (wp_block ?_))
 refine c_loop (fun q1 a w => ∃ m y4 g21 g22 g23 y5, St 23 m b0 [(4, (.i y4)), (3, (.p g21)), (2, (.p g22)), (1, (.p g23))] [Res.cells g21 70 [.ints .i64 y5 32], Res.cells g22 70 [.ints .i64 z32 32], Res.cells g23 26 [.w4 x1]] a w ∧ smithyref01_Of.l1 x1 q1 y4 y5 = some r) ?_ ?_ (k := k) ⟨_, 0, g3, g2, g1, z32, (S.sb rfl (.c0 (.c0 (.c0 .n)))), h0⟩
 ·rintro a w ⟨m, y4, g21, g22, g23, y5, S, h0⟩
  exact (nomatch (show (none : Option ((List Int))) = some r from h0))
 ·clear S h0
  rintro q1 a w ⟨m, y4, g21, g22, g23, y5, S, h0⟩
  replace h0 : smithyref01_Of.b1 x1 (smithyref01_Of.l1 x1 q1) y4 y5 = some r := h0
  delta smithyref01_Of.b1 at h0
  refine wp_seq (c_region (s_move S rfl rfl fun a S => s_bin S rfl rfl rfl rfl fun a S => c_end ?_))
  rcases ite_of h0 with ⟨c1, h1⟩ | ⟨c1, h1⟩
  ·refine c_condT S rfl c1 (wp_skip (x_thenN (wp_seq (wp_block (c_region' (s_move S rfl rfl fun a S => s_move S rfl rfl fun a S => s_quo S rfl rfl (by decide) rfl fun a S => ?_))))))
   obtain ⟨c2, h2⟩ := chk_of h1; clear h1
   refine s_iaddr S rfl rfl underlying26 T24 c2.1 c2.2 (mul1 _ _) rfl fun a S => s_loadi S (i := (wr .i64 (Int.tdiv y4 8))) rfl .h2 T24 .h rfl c2.1 c2.2 rfl fun a S => s_move S rfl rfl fun a S => s_rem S rfl rfl (by decide) rfl fun a S => s_bin S rfl rfl rfl rfl fun a S => ?_
   obtain ⟨c3, h3⟩ := chk_of h2; clear h2
   refine s_shr S (e := (min (Int.toNat (wr .i64 (8 * (Int.tmod y4 8)))) 64)) rfl rfl c3 rfl rfl fun a S => s_rem S rfl rfl (by decide) rfl fun a S => s_conv S rfl rfl underlying3 rfl fun a S => ?_
   obtain ⟨c4, h4⟩ := chk_of h3; clear h3
   refine s_iaddr S rfl rfl underlying70 T3 c4.1 c4.2 (mul1 _ _) rfl fun a S => s_storei S (i := y4) rfl rfl .h T3 .h rfl c4.1 c4.2 fun w S => c_end' (x_blockN (x_thenN (c_region' (s_move S rfl rfl fun a S => s_bin S rfl rfl rfl rfl fun a S => s_assign S rfl rfl fun a S => c_end' (x_thenN ?_)))))
   exact ⟨_, (wr .i64 (y4 + 1)), g21, g22, g23, (y5.set (Int.toNat y4) (wr .i64 (Int.tmod (shr (rd x1 (wr .i64 (Int.tdiv y4 8))) (min (Int.toNat (wr .i64 (8 * (Int.tmod y4 8)))) 64)) 256))), (S.sb rfl (.c0 (.c0 (.c0 .n)))), h4⟩
  ·refine c_condF S rfl c1 (wp_exit (x_thenX (x_thenX (x_blockX (x_thenN ?_)))))
   exact j1 _ g21 g22 y5 a w (S.sb rfl (.c0 (.c0 .n))) h1
abbrev smithyref01_Compare.Ty : Type := (List Int) → (List Int) → Option Int
def smithyref01_Compare.Ctr (s : smithyref01_Compare.Ty) : Prop := ∀ (x1 : List Int) (x2 : List Int) (r : Int), Ct (C := Unit) Try.prog 47 (s x1 x2 = some r) [] [(.agg [.ints .i64 x1 32]), (.agg [.ints .i64 x2 32])] (fun _ => (.i r)) fun _ => []
def smithyref01_Compare.j1 : Option Int := some 0
def smithyref01_Compare.b1 (x1 : List Int) (x2 : List Int) (rec1 : Int → Option Int) (y1 : Int) : Option Int := if (decide (0 ≤ y1)) = true then (if (0 : Int) ≤ y1 ∧ y1 < 32 then (if (decide ((rd x1 y1) < (rd x2 y1))) = true then (some (-1)) else (if (decide ((rd x2 y1) < (rd x1 y1))) = true then (some 1) else (rec1 (wr .i64 (y1 - 1))))) else none) else smithyref01_Compare.j1
def smithyref01_Compare.l1 (x1 : List Int) (x2 : List Int) : Nat → Int → Option Int
  | 0, _ => none
  | q + 1, y1 => smithyref01_Compare.b1 x1 x2 (smithyref01_Compare.l1 x1 x2 q) y1
def smithyref01_Compare.f (k : Nat) (x1 : List Int) (x2 : List Int) : Option Int := smithyref01_Compare.l1 x1 x2 k 31
theorem smithyref01_Compare.ok (k : Nat) : smithyref01_Compare.Ctr (smithyref01_Compare.f k) := by
 intro x1 x2 r h0 mi w0 ok hm
 delta smithyref01_Compare.f at h0
 refine c_enterZ (n := 24) ok hm func47 rfl rfl rfl fun b0 hb a S => c_region (s_box S rfl rfl rfl fun g1 a w S => s_box S rfl rfl rfl fun g2 a w S => s_assign S rfl rfl fun a S => c_end (wp_seq_k fun K1 hK1 => ?_))
 have j1 : ∀ m a w, St 24 m b0 [] [] a w → smithyref01_Compare.j1 = some r → K1 a w := by
  intro m a w S h0
  delta smithyref01_Compare.j1 at h0
  refine hK1 a w (c_region (s_assign S rfl rfl fun a S => c_end (wp_ret ?_)))
  obtain rfl := Option.some.inj h0
  exact b_ret1 (d := (.i 0)) S rfl rfl (S.rt hb)
 refine c_region (s_assign S rfl rfl fun a S => c_end (wp_block ?_))
 refine c_loop (fun q1 a w => ∃ m y1 g13 g14, St 24 m b0 [(5, (.i y1)), (3, (.p g13)), (2, (.p g14))] [Res.cells g13 70 [.ints .i64 x2 32], Res.cells g14 70 [.ints .i64 x1 32]] a w ∧ smithyref01_Compare.l1 x1 x2 q1 y1 = some r) ?_ ?_ (k := k) ⟨_, 31, g2, g1, (S.sb rfl (.c0 (.c0 .n))), h0⟩
 ·rintro a w ⟨m, y1, g13, g14, S, h0⟩
  exact (nomatch (show (none : Option Int) = some r from h0))
 ·clear S h0
  rintro q1 a w ⟨m, y1, g13, g14, S, h0⟩
  replace h0 : smithyref01_Compare.b1 x1 x2 (smithyref01_Compare.l1 x1 x2 q1) y1 = some r := h0
  delta smithyref01_Compare.b1 at h0
  refine wp_seq (c_region (s_move S rfl rfl fun a S => s_bin S rfl rfl rfl rfl fun a S => c_end ?_))
  rcases ite_of h0 with ⟨c1, h1⟩ | ⟨c1, h1⟩
  ·refine c_condT S rfl c1 (wp_skip (x_thenN (wp_seq (wp_block (wp_seq ?_)))))
   refine wp_seq (c_heldS S (.take 0 (.take 1 (.take 2 (.take 3 (.take 4 (.take 5 (.take 6 .done))))))) 7 [Res.cells g13 70 [.ints .i64 x2 32], Res.cells g14 70 [.ints .i64 x1 32]] (.c0 (.c0 .n)) ⟨Res.stay_cells, Res.stay_cells, trivial⟩ [(5, (.i y1)), (3, (.p g13)), (2, (.p g14))] (subR rfl) (by kernel_rfl) (by kernel_rfl) ?_); clear S; intro w S CL hw le
   refine h_move S CL hw le (subR rfl) rfl rfl rfl trivial fun a S CL => ?_
   obtain ⟨c2, h2⟩ := chk_of h1; clear h1
   refine h_iaddr S CL hw le (subR rfl) rfl rfl underlying70 T3 c2.1 c2.2 (mul1 _ _) rfl rfl trivial fun a S CL => h_loadi S CL hw le (subR rfl) (i := y1) rfl .h1 T3 .h rfl c2.1 c2.2 rfl rfl trivial fun a S CL => h_move S CL hw le (subR rfl) rfl rfl rfl trivial fun a S CL => h_iaddr S CL hw le (subR rfl) rfl rfl underlying70 T3 c2.1 c2.2 (mul1 _ _) rfl rfl trivial fun a S CL => h_loadi S CL hw le (subR rfl) (i := y1) rfl .h T3 .h rfl c2.1 c2.2 rfl rfl trivial fun a S CL => h_bin S CL hw le (subR rfl) rfl rfl rfl rfl rfl trivial fun a S CL => ?_
   refine h_done ?_; clear CL hw le
   refine x_thenN ?_
   rcases ite_of h2 with ⟨c3, h3⟩ | ⟨c3, h3⟩
   ·refine c_condT S rfl c3 (c_region (s_assign S rfl rfl fun a S => c_end (wp_ret (x_thenR (x_blockR (x_thenR (x_thenR (x_blockR (x_thenR ?_)))))))))
    obtain rfl := Option.some.inj h3
    exact b_ret1 (d := (.i (-1))) S rfl rfl (S.rt hb)
   ·refine c_condF S rfl c3 (wp_skip (x_thenN ?_))
    refine wp_seq (c_heldS S (.take 0 (.take 1 (.take 2 (.take 3 (.take 4 (.take 5 (.take 6 .done))))))) 7 [Res.cells g13 70 [.ints .i64 x2 32], Res.cells g14 70 [.ints .i64 x1 32]] (.c0 (.c0 .n)) ⟨Res.stay_cells, Res.stay_cells, trivial⟩ [(5, (.i y1)), (3, (.p g13)), (2, (.p g14))] (subR rfl) (by kernel_rfl) (by kernel_rfl) ?_); clear S; intro w S CL hw le
    refine h_move S CL hw le (subR rfl) rfl rfl rfl trivial fun a S CL => h_iaddr S CL hw le (subR rfl) rfl rfl underlying70 T3 c2.1 c2.2 (mul1 _ _) rfl rfl trivial fun a S CL => h_loadi S CL hw le (subR rfl) (i := y1) rfl .h1 T3 .h rfl c2.1 c2.2 rfl rfl trivial fun a S CL => h_move S CL hw le (subR rfl) rfl rfl rfl trivial fun a S CL => h_iaddr S CL hw le (subR rfl) rfl rfl underlying70 T3 c2.1 c2.2 (mul1 _ _) rfl rfl trivial fun a S CL => h_loadi S CL hw le (subR rfl) (i := y1) rfl .h T3 .h rfl c2.1 c2.2 rfl rfl trivial fun a S CL => h_bin S CL hw le (subR rfl) rfl rfl rfl rfl rfl trivial fun a S CL => ?_
    refine h_done ?_; clear CL hw le
    refine x_thenN ?_
    rcases ite_of h3 with ⟨c4, h4⟩ | ⟨c4, h4⟩
    ·refine c_condT S rfl c4 (c_region (s_assign S rfl rfl fun a S => c_end (wp_ret (x_blockR (x_thenR (x_thenR (x_blockR (x_thenR ?_))))))))
     obtain rfl := Option.some.inj h4
     exact b_ret1 (d := (.i 1)) S rfl rfl (S.rt hb)
    ·refine c_condF S rfl c4 (wp_skip (x_blockN (x_thenN (c_region' (s_move S rfl rfl fun a S => s_bin S rfl rfl rfl rfl fun a S => s_assign S rfl rfl fun a S => c_end' (x_thenN ?_))))))
     exact ⟨_, (wr .i64 (y1 - 1)), g13, g14, (S.sb rfl (.c0 (.c0 .n))), h4⟩
  ·refine c_condF S rfl c1 (wp_exit (x_thenX (x_thenX (x_blockX (x_thenN ?_)))))
   exact j1 _ a w (S.sub trivial .nil) h1
abbrev smithyref13_less.Ty : Type := (List Int) → (List Int) → Option Bool
def smithyref13_less.Ctr (s : smithyref13_less.Ty) : Prop := ∀ (x1 : List Int) (x2 : List Int) (r : Bool), Ct (C := Unit) Try.prog 51 (s x1 x2 = some r) [] [(.a4 x1), (.a4 x2)] (fun _ => (.b r)) fun _ => []
def smithyref13_less.f (k : Nat) (x1 : List Int) (x2 : List Int) : Option Bool := (smithyref01_Of.f k x1).bind fun t1 => ((smithyref01_Of.f k x2).bind fun t2 => ((smithyref01_Compare.f k t1 t2).bind fun t3 => (some (decide (t3 < 0)))))
theorem smithyref13_less.ok (k : Nat) : smithyref13_less.Ctr (smithyref13_less.f k) := by
 intro x1 x2 r h0 mi w0 ok hm
 delta smithyref13_less.f at h0
 refine c_enterZ (n := 11) ok hm func51 rfl rfl rfl fun b0 hb a S => c_region (s_box S rfl rfl rfl fun g1 a w S => s_box S rfl rfl rfl fun g2 a w S => s_assign S rfl rfl fun a S => c_end ?_)
 refine wp_seq (c_heldS S (.take 0 (.take 2 (.alts (.run 1 true (.alts (.run 3 true (.alts (.run 4 true (.take 5 (.take 6 .done)) .nil)) .nil)) .nil)))) 7 [Res.cells g2 26 [.w4 x2], Res.cells g1 26 [.w4 x1]] (.c0 (.c0 .n)) ⟨Res.stay_cells, Res.stay_cells, trivial⟩ [(3, (.p g2)), (2, (.p g1))] (subR rfl) (by kernel_rfl) (by kernel_rfl) ?_); clear S; intro w S CL hw le
 refine h_loada S CL hw le (subR rfl) rfl .h1 T26 (s' := [.w4 x1]) rfl rfl rfl trivial fun a S CL => h_loada S CL hw le (subR rfl) rfl .h T26 (s' := [.w4 x2]) rfl rfl rfl trivial fun a S CL => h_run' S rfl trivial (bindX h0 fun t1 et1 h1 => s_callP S _ N42 rfl rfl (smithyref01_Of.ok k x1 t1 et1 _ _) fun ch1 m le1 a w S => ?_)
 replace le := le.trans le1
 refine CL.bk hw S (.c0 (.c0 .n)) le fun hw => h_run' S rfl trivial (bindX h1 fun t2 et2 h2 => s_callP S _ N42 rfl rfl (smithyref01_Of.ok k x2 t2 et2 _ _) fun ch2 m le1 a w S => ?_)
 replace le := le.trans le1
 refine CL.bk hw S (.c0 (.c0 .n)) le fun hw => h_run' S rfl trivial (bindX h2 fun t3 et3 h3 => s_callP S _ N47 rfl rfl (smithyref01_Compare.ok k t1 t2 t3 et3 _ _) fun ch3 m le1 a w S => ?_)
 replace le := le.trans le1
 refine CL.bk hw S (.c0 (.c0 .n)) le fun hw => ?_
 replace CL := CL.add (t := 9) (d := (.i t3)) S rfl rfl
 refine h_bin S CL hw le (subR rfl) rfl rfl rfl rfl rfl trivial fun a S CL => h_assign S CL hw le (subR rfl) rfl rfl rfl trivial fun a S CL => ?_
 refine h_done ?_; clear CL hw le
 refine x_thenN (wp_ret ?_)
 obtain rfl := Option.some.inj h3
 exact b_ret1 (d := (.b (decide (t3 < 0)))) S rfl rfl (S.rt hb)
abbrev smithyref13_Right.Ty : Type := (L76) → Option Bool
def smithyref13_Right.Ctr (s : smithyref13_Right.Ty) : Prop := ∀ (x1 : L76) (ch_0_0 : Option Addr) (ch_0_1 : Nat) (ch_0_2 : Option Addr) (ch_0_3 : Nat) (r : Bool), Ct (C := Unit) Try.prog 36 (s x1 = some r) [] [(.agg (Y76.segs x1 ((), (), (), (ch_0_0, ch_0_1), (ch_0_2, ch_0_3))))] (fun _ => (.b r)) fun _ => []
def smithyref13_Right.j1 : Option Bool := some true
def smithyref13_Right.j2 (y1 : Int) (rec1 : Int → Option Bool) (y2 : Bool) : Option Bool := if y2 = true then (some false) else (rec1 (wr .i64 (y1 + 1)))
def smithyref13_Right.b1 (k : Nat) (x1 : L76) (rec1 : Int → Option Bool) (y1 : Int) : Option Bool := if (decide (y1 < ((x1.2.2.2.2).length : Int))) = true then (if (0 : Int) ≤ y1 ∧ y1 < ((x1.2.2.2.2).length : Int) then (if (decide ((gt x1.2.2.2.2 y1).2 = [0, 0, 0, 0])) = true then (some false) else (if (decide (0 < y1)) = true then (if (0 : Int) ≤ (wr .i64 (y1 - 1)) ∧ (wr .i64 (y1 - 1)) < ((x1.2.2.2.2).length : Int) then ((smithyref13_less.f k ((gt x1.2.2.2.2 (wr .i64 (y1 - 1))).1) ((gt x1.2.2.2.2 y1).1)).bind fun t1 => (smithyref13_Right.j2 y1 rec1 (!t1))) else none) else (smithyref13_Right.j2 y1 rec1 false))) else none) else smithyref13_Right.j1
def smithyref13_Right.l1 (k : Nat) (x1 : L76) : Nat → Int → Option Bool
  | 0, _ => none
  | q + 1, y1 => smithyref13_Right.b1 k x1 (smithyref13_Right.l1 k x1 q) y1
def smithyref13_Right.f (k : Nat) (x1 : L76) : Option Bool := smithyref13_Right.l1 k x1 k 0
theorem smithyref13_Right.ok (k : Nat) : smithyref13_Right.Ctr (smithyref13_Right.f k) := by
 intro x1 ch_0_0 ch_0_1 ch_0_2 ch_0_3 r h0 mi w0 ok hm
 delta smithyref13_Right.f at h0
 refine c_enterZ (n := 38) ok hm func36 rfl rfl rfl fun b0 hb a S => c_region (s_box S rfl rfl rfl fun g1 a w S => s_assign S rfl rfl fun a S => c_end (wp_seq_k fun K1 hK1 => ?_))
 have j1 : ∀ m a w, St 38 m b0 [] [] a w → smithyref13_Right.j1 = some r → K1 a w := by
  intro m a w S h0
  delta smithyref13_Right.j1 at h0
  refine hK1 a w (c_region (s_assign S rfl rfl fun a S => c_end (wp_ret ?_)))
  obtain rfl := Option.some.inj h0
  exact b_ret1 (d := (.b true)) S rfl rfl (S.rt hb)
 refine c_region (s_fieldAddr S rfl I76_4 T74 (by decide) rfl rfl fun a S => s_loadSl S rfl .h T74 (A := ch_0_2) (len := (x1.2.2.2.2).length) (cap := ch_0_3) rfl rfl fun a S => s_lenS S rfl underlying74 rfl fun a S => s_move S rfl rfl fun a S => c_end (wp_block ?_))
 refine c_loop (fun q1 a w => ∃ m y1 g9, St 38 m b0 [(7, (.i y1)), (6, (.i ((x1.2.2.2.2).length : Int))), (1, (.p g9))] [Res.cells g9 76 (Y76.segs x1 ((), (), (), (ch_0_0, ch_0_1), (ch_0_2, ch_0_3)))] a w ∧ smithyref13_Right.l1 k x1 q1 y1 = some r) ?_ ?_ (k := k) ⟨_, 0, g1, (S.sb rfl (.c0 .n)), h0⟩
 ·rintro a w ⟨m, y1, g9, S, h0⟩
  exact (nomatch (show (none : Option Bool) = some r from h0))
 ·clear S h0
  rintro q1 a w ⟨m, y1, g9, S, h0⟩
  replace h0 : smithyref13_Right.b1 k x1 (smithyref13_Right.l1 k x1 q1) y1 = some r := h0
  delta smithyref13_Right.b1 at h0
  refine c_region (s_bin S rfl rfl rfl rfl fun a S => c_end (wp_seq ?_))
  rcases ite_of h0 with ⟨c1, h1⟩ | ⟨c1, h1⟩
  ·refine c_condT S rfl c1 (wp_skip (x_thenN (wp_seq (wp_block (c_region (s_move S rfl rfl fun a S => s_assign S rfl rfl fun a S => c_end (wp_seq (c_region (s_fieldAddr S rfl I76_4 T74 (by decide) rfl rfl fun a S => s_loadSl S rfl .h T74 (A := ch_0_2) (len := (x1.2.2.2.2).length) (cap := ch_0_3) rfl rfl fun a S => s_move S rfl rfl fun a S => ?_)))))))))
   obtain ⟨c2, h2⟩ := chk_of h1; clear h1
   refine s_iaddrS S rfl rfl rfl underlying74 T89 c2.1 c2.2 rfl fun p1 a S => s_faddrP S (tF := (Ty.arr .u64 4)) (y := (gt x1.2.2.2.2 y1).2) rfl I89_1 T26 (by decide) (fun m h => (at_snd (at_0 h))) rfl fun a S => s_ldA S (fun (c : Unit) => [.w4 ((gt x1.2.2.2.2 y1).2)]) rfl T26 (fun _ => rfl) rfl fun ch1 a S => ?_
   refine s_build S (ds := []) (dv := (.a4 [0, 0, 0, 0])) rfl (fun _ => by kernel_rfl) ⟨rfl, trivial⟩ rfl fun a S => s_eqa S rfl rfl underlying26 underlying24 T24 Q26 rfl fun a S => c_end ?_
   rcases ite_of h2 with ⟨c3, h3⟩ | ⟨c3, h3⟩
   ·refine c_condT S rfl c3 (c_region (s_assign S rfl rfl fun a S => c_end (wp_ret (x_thenR (x_blockR (x_thenR (x_thenR (x_blockR (x_thenR ?_)))))))))
    obtain rfl := Option.some.inj h3
    exact b_ret1 (d := (.b false)) S rfl rfl (S.rt hb)
   ·refine c_condF S rfl c3 (wp_skip (x_thenN (wp_seq_k fun K2 hK2 => ?_)))
    have j2 : ∀ m y2 g10 a w, St 38 m b0 [(36, (.b y2)), (7, (.i y1)), (6, (.i ((x1.2.2.2.2).length : Int))), (1, (.p g10))] [Res.cells g10 76 (Y76.segs x1 ((), (), (), (ch_0_0, ch_0_1), (ch_0_2, ch_0_3)))] a w → smithyref13_Right.j2 y1 (smithyref13_Right.l1 k x1 q1) y2 = some r → K2 a w := by
     intro m y2 g10 a w S h0
     delta smithyref13_Right.j2 at h0
     refine hK2 a w ?_
     rcases ite_of h0 with ⟨c4, h1⟩ | ⟨c4, h1⟩
     ·refine c_condT S rfl c4 (c_region (s_assign S rfl rfl fun a S => c_end (wp_ret (x_blockR (x_thenR (x_thenR (x_blockR (x_thenR ?_))))))))
      obtain rfl := Option.some.inj h1
      exact b_ret1 (d := (.b false)) S rfl rfl (S.rt hb)
     ·refine c_condF S rfl c4 (wp_skip (x_blockN (x_thenN (c_region' (s_bin S rfl rfl rfl rfl fun a S => s_move S rfl rfl fun a S => c_end' (x_thenN ?_))))))
      exact ⟨_, (wr .i64 (y1 + 1)), g10, (S.sb rfl (.c0 .n)), h1⟩
    refine c_heldS S (.take 0 (.take 1 (.take 2 (.take 3 (.take 4 (.take 5 (.take 6 (.take 7 (.take 8 (.take 9 (.take 10 (.take 11 (.take 12 (.take 13 (.take 14 (.take 15 (.alts (.run 16 true (.take 17 (.take 18 .done)) .nil)))))))))))))))))) 19 [Res.cells g9 76 (Y76.segs x1 ((), (), (), (ch_0_0, ch_0_1), (ch_0_2, ch_0_3)))] (.c0 .n) ⟨Res.stay_cells, trivial⟩ [(3, (.i y1)), (1, (.p g9))] (subR rfl) (by kernel_rfl) (by kernel_rfl) fun w S CL hw le => ?_
    refine h_move S CL hw le (subR rfl) rfl rfl rfl trivial fun a S CL => h_bin S CL hw le (subR rfl) rfl rfl rfl rfl rfl trivial fun a S CL => h_move S CL hw le (subR rfl) rfl rfl rfl trivial fun a S CL => ?_
    rcases ite_of h3 with ⟨c5, h4⟩ | ⟨c5, h4⟩
    ·refine h_fieldAddr S CL hw le (subR rfl) rfl I76_4 T74 (by decide) rfl rfl rfl ⟨_, _, rfl, rfl, c5⟩ fun a S CL => h_loadSl S CL hw le (subR rfl) rfl .h T74 (A := ch_0_2) (len := (x1.2.2.2.2).length) (cap := ch_0_3) rfl rfl rfl ⟨_, _, rfl, rfl, c5⟩ fun a S CL => h_move S CL hw le (subR rfl) rfl rfl rfl ⟨_, _, rfl, rfl, c5⟩ fun a S CL => h_bin S CL hw le (subR rfl) rfl rfl rfl rfl rfl ⟨_, _, rfl, rfl, c5⟩ fun a S CL => ?_
     obtain ⟨c6, h5⟩ := chk_of h4; clear h4
     refine h_iaddrS S CL hw le (subR rfl) rfl rfl rfl underlying74 T89 c6.1 c6.2 rfl rfl ⟨_, _, rfl, rfl, c5⟩ fun p4 a S CL => h_faddrP S CL hw le (subR rfl) (tF := (Ty.arr .u64 4)) (y := (gt x1.2.2.2.2 (wr .i64 (y1 - 1))).1) rfl I89_0 T26 (by decide) (fun m h => (at_fst (at_0 h))) rfl rfl ⟨_, _, rfl, rfl, c5⟩ fun a S CL => h_ldA S CL hw le (subR rfl) (fun (c : Unit) => [.w4 ((gt x1.2.2.2.2 (wr .i64 (y1 - 1))).1)]) rfl T26 (fun _ => rfl) rfl rfl ⟨_, _, rfl, rfl, c5⟩ fun ch2 a S CL => ?_
     refine h_fieldAddr S CL hw le (subR rfl) rfl I76_4 T74 (by decide) rfl rfl rfl ⟨_, _, rfl, rfl, c5⟩ fun a S CL => h_loadSl S CL hw le (subR rfl) rfl .h T74 (A := ch_0_2) (len := (x1.2.2.2.2).length) (cap := ch_0_3) rfl rfl rfl ⟨_, _, rfl, rfl, c5⟩ fun a S CL => h_move S CL hw le (subR rfl) rfl rfl rfl ⟨_, _, rfl, rfl, c5⟩ fun a S CL => h_iaddrS S CL hw le (subR rfl) rfl rfl rfl underlying74 T89 c2.1 c2.2 rfl rfl ⟨_, _, rfl, rfl, c5⟩ fun p5 a S CL => h_faddrP S CL hw le (subR rfl) (tF := (Ty.arr .u64 4)) (y := (gt x1.2.2.2.2 y1).1) rfl I89_0 T26 (by decide) (fun m h => (at_fst (at_0 h))) rfl rfl ⟨_, _, rfl, rfl, c5⟩ fun a S CL => h_ldA S CL hw le (subR rfl) (fun (c : Unit) => [.w4 ((gt x1.2.2.2.2 y1).1)]) rfl T26 (fun _ => rfl) rfl rfl ⟨_, _, rfl, rfl, c5⟩ fun ch3 a S CL => ?_
     refine h_run' S rfl ⟨_, _, rfl, rfl, c5⟩ (bindX h5 fun t1 et1 h6 => s_callP S _ N51 rfl rfl (smithyref13_less.ok k ((gt x1.2.2.2.2 (wr .i64 (y1 - 1))).1) ((gt x1.2.2.2.2 y1).1) t1 et1 _ _) fun ch4 m le1 a w S => ?_)
     replace le := le.trans le1
     refine CL.bk hw S (.c0 .n) le fun hw => ?_
     replace CL := CL.add (t := 34) (d := (.b t1)) S rfl rfl
     refine h_not S CL hw le (subR rfl) rfl rfl rfl ⟨_, _, rfl, rfl, c5⟩ fun a S CL => h_pick S CL hw le (subR rfl) (b := true) (hc_of rfl c5) rfl rfl rfl trivial fun a S CL => ?_
     refine h_done ?_; clear CL hw le
     refine x_thenN ?_
     exact j2 _ (!t1) g9 a w (S.sb rfl (.c0 .n)) h6
    ·refine h_skip S CL rfl rfl rfl (ne_bool c5) rfl fun a S CL => h_skip S CL rfl rfl rfl (ne_bool c5) rfl fun a S CL => h_skip S CL rfl rfl rfl (ne_bool c5) rfl fun a S CL => h_skip S CL rfl rfl rfl (ne_bool c5) rfl fun a S CL => h_skip S CL rfl rfl rfl (ne_bool c5) rfl fun a S CL => h_skip S CL rfl rfl rfl (ne_bool c5) rfl fun a S CL => h_skip S CL rfl rfl rfl (ne_bool c5) rfl fun a S CL => h_skip S CL rfl rfl rfl (ne_bool c5) rfl fun a S CL => h_skip S CL rfl rfl rfl (ne_bool c5) rfl fun a S CL => h_skip S CL rfl rfl rfl (ne_bool c5) rfl fun a S CL => h_skip S CL rfl rfl rfl (ne_bool c5) rfl fun a S CL => h_skip S CL rfl rfl rfl (ne_bool c5) rfl fun a S CL => h_skip S CL rfl rfl rfl (ne_bool c5) rfl fun a S CL => h_skipRt S rfl rfl rfl (ne_bool c5) rfl fun a S => CL.bk hw S (.c0 .n) le fun hw => ?_
     replace CL := CL.add (t := 34) (d := .u) S rfl rfl
     refine h_skip S CL rfl rfl rfl (ne_bool c5) rfl fun a S CL => h_pick S CL hw le (subR rfl) (b := false) (hc_of rfl c5) rfl rfl rfl trivial fun a S CL => ?_
     refine h_done ?_; clear CL hw le
     refine x_thenN ?_
     exact j2 _ false g9 a w (S.sb rfl (.c0 .n)) h4
  ·refine c_condF S rfl c1 (wp_exit (x_thenX (x_thenX (x_blockX (x_thenN ?_)))))
   exact j1 _ a w (S.sub trivial .nil) h1
abbrev smithylaw19_right.Ty : Type := (List L76) → Option Bool
def smithylaw19_right.Ctr (s : smithylaw19_right.Ty) : Prop := ∀ (x1 : List L76) (ch_0_0 : Option Addr) (ch_0_1 : Nat) (r : Bool), Ct (C := Unit) Try.prog 16 (s x1 = some r) [] [(.q Y76 ch_0_0 ch_0_1 x1)] (fun _ => (.b r)) fun _ => []
def smithylaw19_right.j1 : Option Bool := some true
def smithylaw19_right.b1 (k : Nat) (x1 : List L76) (rec1 : Int → Option Bool) (y1 : Int) : Option Bool := if (decide (y1 < ((x1).length : Int))) = true then (if (0 : Int) ≤ y1 ∧ y1 < ((x1).length : Int) then ((smithyref13_Right.f k (gt x1 y1)).bind fun t4 => (if (!t4) = true then (some false) else (rec1 (wr .i64 (y1 + 1))))) else none) else smithylaw19_right.j1
def smithylaw19_right.l1 (k : Nat) (x1 : List L76) : Nat → Int → Option Bool
  | 0, _ => none
  | q + 1, y1 => smithylaw19_right.b1 k x1 (smithylaw19_right.l1 k x1 q) y1
def smithylaw19_right.f (k : Nat) (x1 : List L76) : Option Bool := (smithyref13_Great.f k x1).bind fun t1 => (if t1 = true then (some false) else (smithylaw19_right.l1 k x1 k 0))
theorem smithylaw19_right.ok (k : Nat) : smithylaw19_right.Ctr (smithylaw19_right.f k) := by
 intro x1 ch_0_0 ch_0_1 r h0 mi w0 ok hm
 delta smithylaw19_right.f at h0
 refine c_enterZ (n := 17) ok hm func16 rfl rfl rfl fun b0 hb a S => c_region (s_assign S rfl rfl fun a S => c_end (wp_seq (c_region (s_move S rfl rfl fun a S => bindX h0 fun t1 et1 h1 => s_callP S _ N35 rfl rfl (smithyref13_Great.ok k x1 ch_0_0 ch_0_1 t1 et1 _ _) fun ch1 m le1 a w S => c_end ?_))))
 rcases ite_of h1 with ⟨c1, h2⟩ | ⟨c1, h2⟩
 ·refine c_condT S rfl c1 (c_region (s_assign S rfl rfl fun a S => c_end (wp_ret (x_thenR ?_))))
  obtain rfl := Option.some.inj h2
  exact b_ret1 (d := (.b false)) S rfl rfl (S.rt hb)
 ·refine c_condF S rfl c1 (wp_skip (x_thenN (wp_seq_k fun K1 hK1 => ?_)))
  have j1 : ∀ m a w, St 17 m b0 [] [] a w → smithylaw19_right.j1 = some r → K1 a w := by
   intro m a w S h0
   delta smithylaw19_right.j1 at h0
   refine hK1 a w (c_region (s_assign S rfl rfl fun a S => c_end (wp_ret ?_)))
   obtain rfl := Option.some.inj h0
   exact b_ret1 (d := (.b true)) S rfl rfl (S.rt hb)
  refine c_region (s_move S rfl rfl fun a S => s_lenS S rfl underlying44 rfl fun a S => s_move S rfl rfl fun a S => c_end (wp_block ?_))
  refine c_loop (fun q1 a w => ∃ m y1, St 17 m b0 [(9, (.i y1)), (8, (.i ((x1).length : Int))), (7, (.q Y76 ch_0_0 ch_0_1 x1))] [] a w ∧ smithylaw19_right.l1 k x1 q1 y1 = some r) ?_ ?_ (k := k) ⟨_, 0, (S.sb rfl .nil), h2⟩
  ·rintro a w ⟨m, y1, S, h0⟩
   exact (nomatch (show (none : Option Bool) = some r from h0))
  ·clear S h2
   rintro q1 a w ⟨m, y1, S, h0⟩
   replace h0 : smithylaw19_right.b1 k x1 (smithylaw19_right.l1 k x1 q1) y1 = some r := h0
   delta smithylaw19_right.b1 at h0
   refine c_region (s_bin S rfl rfl rfl rfl fun a S => c_end (wp_seq ?_))
   rcases ite_of h0 with ⟨c2, h1⟩ | ⟨c2, h1⟩
   ·refine c_condT S rfl c2 (wp_skip (x_thenN (wp_seq (wp_block (c_region ?_)))))
    obtain ⟨c3, h2⟩ := chk_of h1; clear h1
    refine s_iaddrS S rfl rfl rfl underlying44 T76 c3.1 c3.2 rfl fun p1 a S => s_ldA S (fun (c : Unit × Unit × Unit × (Option Addr × Nat) × (Option Addr × Nat)) => (Y76.segs (gt x1 y1) c)) rfl T76 (fun _ => rfl) rfl fun ch4 a S => ?_
    refine s_alloc S Z76 rfl ⟨rfl, rfl, rfl, rfl, rfl, trivial⟩ rfl fun g1 a w S => s_store S rfl rfl rfl (s' := [.b20 ((gt x1 y1).1), .w ((gt x1 y1).2.1), .w4 ((gt x1 y1).2.2.1), .q yb ch4.2.2.2.1.1 ch4.2.2.2.1.2 ((gt x1 y1).2.2.2.1), .q Y89 ch4.2.2.2.2.1 ch4.2.2.2.2.2 ((gt x1 y1).2.2.2.2)]) .h T76 rfl rfl fun w S => c_end (c_region (s_loada S rfl .h T76 (s' := (Y76.segs (gt x1 y1) ch4)) rfl rfl fun a S => bindX h2 fun t4 et4 h3 => s_callP S _ N36 rfl rfl (smithyref13_Right.ok k (gt x1 y1) ch4.2.2.2.1.1 ch4.2.2.2.1.2 ch4.2.2.2.2.1 ch4.2.2.2.2.2 t4 et4 _ _) fun ch5 m le1 a w S => s_not S rfl rfl fun a S => c_end ?_))
    rcases ite_of h3 with ⟨c4, h4⟩ | ⟨c4, h4⟩
    ·refine c_condT S rfl c4 (c_region (s_assign S rfl rfl fun a S => c_end (wp_ret (x_blockR (x_thenR (x_thenR (x_blockR (x_thenR ?_))))))))
     obtain rfl := Option.some.inj h4
     exact b_ret1 (d := (.b false)) S rfl rfl (S.rt hb)
    ·refine c_condF S rfl c4 (wp_skip (x_blockN (x_thenN (c_region' (s_bin S rfl rfl rfl rfl fun a S => s_move S rfl rfl fun a S => c_end' (x_thenN ?_))))))
     exact ⟨_, (wr .i64 (y1 + 1)), (S.sb rfl .nil), h4⟩
   ·refine c_condF S rfl c2 (wp_exit (x_thenX (x_thenX (x_blockX (x_thenN ?_)))))
    exact j1 _ a w (S.sub trivial .nil) h1
abbrev word_Of.Ty : Type := Int → Option ((List Int))
def word_Of.Ctr (s : word_Of.Ty) : Prop := ∀ (x1 : Int) (r : (List Int)), Ct (C := Unit) Try.prog 26 (s x1 = some r) [] [(.w x1)] (fun _ => (.a4 r)) fun _ => []
def word_Of.f (x1 : Int) : Option ((List Int)) := some [x1, 0, 0, 0]
theorem word_Of.ok : word_Of.Ctr (word_Of.f) := by
 intro x1 r h0 mi w0 ok hm
 delta word_Of.f at h0
 refine c_enterZ (n := 5) ok hm func26 rfl rfl rfl fun b0 hb a S => c_region (s_alloc S Z26 rfl ⟨rfl, trivial⟩ rfl fun g1 a w S => c_end (c_region (s_move S rfl rfl fun a S => s_build S (ds := [(0, (.w x1))]) (dv := (.a4 [x1, 0, 0, 0])) rfl (fun _ => by kernel_rfl) ⟨rfl, trivial⟩ rfl fun a S => s_store S rfl rfl rfl (s' := [.w4 [x1, 0, 0, 0]]) .h T26 rfl rfl fun w S => c_end (wp_ret ?_))))
 obtain rfl := Option.some.inj h0
 exact b_ret1 (d := (.a4 [x1, 0, 0, 0])) S rfl (resD_cell rfl .h T26 rfl rfl) (S.rt hb)
abbrev bits_Mul64.Ty : Type := Int → Int → Option (Int × Int)
def bits_Mul64.Ctr (s : bits_Mul64.Ty) : Prop := ∀ (x1 : Int) (x2 : Int) (r : Int × Int), Ct (C := Unit) Try.prog 44 (s x1 x2 = some r) [] [(.w x1), (.w x2)] (fun _ => (.tup [(false, [.w r.1]), (false, [.w r.2])])) fun _ => []
def bits_Mul64.f (x1 : Int) (x2 : Int) : Option (Int × Int) := some (wr .u64 ((wr .u64 ((wr .u64 ((shr x1 32) * (shr x2 32))) + (shr (wr .u64 ((wr .u64 ((shr x1 32) * (bits .and .u64 x2 4294967295))) + (shr (wr .u64 ((bits .and .u64 x1 4294967295) * (bits .and .u64 x2 4294967295))) 32))) 32))) + (shr (wr .u64 ((bits .and .u64 (wr .u64 ((wr .u64 ((shr x1 32) * (bits .and .u64 x2 4294967295))) + (shr (wr .u64 ((bits .and .u64 x1 4294967295) * (bits .and .u64 x2 4294967295))) 32))) 4294967295) + (wr .u64 ((bits .and .u64 x1 4294967295) * (shr x2 32))))) 32)), wr .u64 (x1 * x2))
theorem bits_Mul64.ok : bits_Mul64.Ctr (bits_Mul64.f) := by
 intro x1 x2 r h0 mi w0 ok hm
 delta bits_Mul64.f at h0
 refine c_enterZ (n := 51) ok hm func44 rfl rfl rfl fun b0 hb a S => c_region (s_assign S rfl rfl fun a S => s_assign S rfl rfl fun a S => c_end (c_region (s_move S rfl rfl fun a S => s_bin S rfl rfl rfl rfl fun a S => s_assign S rfl rfl fun a S => c_end (c_region (s_move S rfl rfl fun a S => s_shr S (e := 32) rfl rfl (by decide) rfl rfl fun a S => s_assign S rfl rfl fun a S => c_end (c_region (s_move S rfl rfl fun a S => s_bin S rfl rfl rfl rfl fun a S => s_assign S rfl rfl fun a S => c_end (c_region (s_move S rfl rfl fun a S => s_shr S (e := 32) rfl rfl (by decide) rfl rfl fun a S => s_assign S rfl rfl fun a S => c_end (c_region (s_move S rfl rfl fun a S => s_move S rfl rfl fun a S => s_bin S rfl rfl rfl rfl fun a S => s_assign S rfl rfl fun a S => c_end (c_region (s_move S rfl rfl fun a S => s_move S rfl rfl fun a S => s_bin S rfl rfl rfl rfl fun a S => s_move S rfl rfl fun a S => s_shr S (e := 32) rfl rfl (by decide) rfl rfl fun a S => s_bin S rfl rfl rfl rfl fun a S => s_assign S rfl rfl fun a S => c_end (c_region (s_move S rfl rfl fun a S => s_bin S rfl rfl rfl rfl fun a S => s_assign S rfl rfl fun a S => c_end (c_region (s_move S rfl rfl fun a S => s_shr S (e := 32) rfl rfl (by decide) rfl rfl fun a S => s_assign S rfl rfl fun a S => c_end (c_region (s_move S rfl rfl fun a S => s_move S rfl rfl fun a S => s_move S rfl rfl fun a S => s_bin S rfl rfl rfl rfl fun a S => s_bin S rfl rfl rfl rfl fun a S => s_assign S rfl rfl fun a S => c_end (c_region (s_move S rfl rfl fun a S => ?_)))))))))))))))))))))
 refine s_move S rfl rfl fun a S => s_bin S rfl rfl rfl rfl fun a S => s_move S rfl rfl fun a S => s_bin S rfl rfl rfl rfl fun a S => s_move S rfl rfl fun a S => s_shr S (e := 32) rfl rfl (by decide) rfl rfl fun a S => s_bin S rfl rfl rfl rfl fun a S => s_assign S rfl rfl fun a S => c_end (c_region (s_move S rfl rfl fun a S => s_move S rfl rfl fun a S => s_bin S rfl rfl rfl rfl fun a S => s_assign S rfl rfl fun a S => c_end (wp_ret ?_)))
 obtain rfl := Option.some.inj h0
 exact b_ret2 (d1 := (.w (wr .u64 ((wr .u64 ((wr .u64 ((shr x1 32) * (shr x2 32))) + (shr (wr .u64 ((wr .u64 ((shr x1 32) * (bits .and .u64 x2 4294967295))) + (shr (wr .u64 ((bits .and .u64 x1 4294967295) * (bits .and .u64 x2 4294967295))) 32))) 32))) + (shr (wr .u64 ((bits .and .u64 (wr .u64 ((wr .u64 ((shr x1 32) * (bits .and .u64 x2 4294967295))) + (shr (wr .u64 ((bits .and .u64 x1 4294967295) * (bits .and .u64 x2 4294967295))) 32))) 4294967295) + (wr .u64 ((bits .and .u64 x1 4294967295) * (shr x2 32))))) 32))))) (d2 := (.w (wr .u64 (x1 * x2)))) S rfl rfl rfl fun ok1 ok2 => S.retX (Hx := []) hb _ _ (() : Unit) .nil ⟨⟨ok1, trivial⟩, ⟨ok2, trivial⟩, trivial⟩
abbrev wide_Product.Ty : Type := (List Int) → (List Int) → Option ((List Int) × (List Int))
def wide_Product.Ctr (s : wide_Product.Ty) : Prop := ∀ (x1 : List Int) (x2 : List Int) (r : (List Int) × (List Int)), Ct (C := Unit) Try.prog 25 (s x1 x2 = some r) [] [(.a4 x1), (.a4 x2)] (fun _ => (.tup [(true, [.w4 r.1]), (true, [.w4 r.2])])) fun _ => []
def wide_Product.j1 (y1 : List Int) : Option ((List Int) × (List Int)) := some (((y1).drop 0).take 4, ((y1).drop 4).take 4)
def wide_Product.j2 (y22 : Int) (rec1 : Int → (List Int) → Option ((List Int) × (List Int))) (y32 : List Int) : Option ((List Int) × (List Int)) := rec1 (wr .i64 (y22 + 1)) y32
def wide_Product.j3 (y22 : Int) (rec1 : Int → (List Int) → Option ((List Int) × (List Int))) (y39 : Int) (y40 : List Int) : Option ((List Int) × (List Int)) := if (0 : Int) ≤ (wr .i64 (y22 + 4)) ∧ (wr .i64 (y22 + 4)) < 8 then (wide_Product.j2 y22 rec1 (y40.set (Int.toNat (wr .i64 (y22 + 4))) y39)) else none
def wide_Product.b2 (x1 : List Int) (x2 : List Int) (y22 : Int) (rec1 : Int → (List Int) → Option ((List Int) × (List Int))) (rec2 : Int → Int → (List Int) → Option ((List Int) × (List Int))) (y44 : Int) (y45 : Int) (y46 : List Int) : Option ((List Int) × (List Int)) := if (decide (y44 < 4)) = true then (if (0 : Int) ≤ y22 ∧ y22 < 4 then (if (0 : Int) ≤ y44 ∧ y44 < 4 then ((bits_Mul64.f (rd x1 y22) (rd x2 y44)).bind fun t1 => (if (0 : Int) ≤ (wr .i64 (y22 + y44)) ∧ (wr .i64 (y22 + y44)) < 8 then (if (0 : Int) ≤ t1.2 ∧ (0 : Int) ≤ (rd y46 (wr .i64 (y22 + y44))) ∧ (0 : Int) ≤ 0 ∧ (0 : Int) ≤ 1 then (if (0 : Int) ≤ ((t1.2 + (rd y46 (wr .i64 (y22 + y44))) + 0) % 18446744073709551616) ∧ (0 : Int) ≤ y45 ∧ (0 : Int) ≤ 0 ∧ (0 : Int) ≤ 1 then (rec2 (wr .i64 (y44 + 1)) (wr .u64 ((wr .u64 (t1.1 + ((t1.2 + (rd y46 (wr .i64 (y22 + y44))) + 0) / 18446744073709551616))) + ((((t1.2 + (rd y46 (wr .i64 (y22 + y44))) + 0) % 18446744073709551616) + y45 + 0) / 18446744073709551616))) (y46.set (Int.toNat (wr .i64 (y22 + y44))) ((((t1.2 + (rd y46 (wr .i64 (y22 + y44))) + 0) % 18446744073709551616) + y45 + 0) % 18446744073709551616))) else none) else none) else none)) else none) else none) else (wide_Product.j3 y22 rec1 y45 y46)
def wide_Product.l2 (x1 : List Int) (x2 : List Int) (y22 : Int) (rec1 : Int → (List Int) → Option ((List Int) × (List Int))) : Nat → Int → Int → (List Int) → Option ((List Int) × (List Int))
  | 0, _, _, _ => none
  | q + 1, y44, y45, y46 => wide_Product.b2 x1 x2 y22 rec1 (wide_Product.l2 x1 x2 y22 rec1 q) y44 y45 y46
def wide_Product.b1 (k : Nat) (x1 : List Int) (x2 : List Int) (rec1 : Int → (List Int) → Option ((List Int) × (List Int))) (y22 : Int) (y23 : List Int) : Option ((List Int) × (List Int)) := if (decide (y22 < 4)) = true then (wide_Product.l2 x1 x2 y22 rec1 k 0 0 y23) else (wide_Product.j1 y23)
def wide_Product.l1 (k : Nat) (x1 : List Int) (x2 : List Int) : Nat → Int → (List Int) → Option ((List Int) × (List Int))
  | 0, _, _ => none
  | q + 1, y22, y23 => wide_Product.b1 k x1 x2 (wide_Product.l1 k x1 x2 q) y22 y23
def wide_Product.f (k : Nat) (x1 : List Int) (x2 : List Int) : Option ((List Int) × (List Int)) := wide_Product.l1 k x1 x2 k 0 [0, 0, 0, 0, 0, 0, 0, 0]
theorem wide_Product.ok (k : Nat) : wide_Product.Ctr (wide_Product.f k) := by
 intro x1 x2 r h0 mi w0 ok hm
 delta wide_Product.f at h0
 refine c_enterZ (n := 68) ok hm func25 rfl rfl rfl fun b0 hb a S => c_region (s_box S rfl rfl rfl fun g1 a w S => s_box S rfl rfl rfl fun g2 a w S => s_alloc S Z26 rfl ⟨rfl, trivial⟩ rfl fun g3 a w S => s_alloc S Z26 rfl ⟨rfl, trivial⟩ rfl fun g4 a w S => c_end (c_region (s_alloc S Z100 rfl ⟨rfl, trivial⟩ rfl fun g5 a w S => c_end (wp_seq_k fun K1 hK1 => ?_))))
 have j1 : ∀ m g71 g72 g73 y1 a w, St 68 m b0 [(6, (.p g71)), (5, (.p g72)), (4, (.p g73))] [Res.cells g71 100 [.ints .u64 y1 8], Res.cells g72 26 [.w4 [0, 0, 0, 0]], Res.cells g73 26 [.w4 [0, 0, 0, 0]]] a w → wide_Product.j1 y1 = some r → K1 a w := by
  intro m g71 g72 g73 y1 a w S h0
  delta wide_Product.j1 at h0
  refine hK1 a w ?_
  refine wp_seq (c_heldS S (.take 0 (.take 1 (.take 2 (.take 3 (.take 4 (.take 5 (.alts (.run 6 true (.alts (.run 7 false .done .nil)) .nil)))))))) 7 [Res.cells g71 100 [.ints .u64 y1 8], Res.cells g72 26 [.w4 [0, 0, 0, 0]]] (.c0 (.c0 .n)) ⟨Res.stay_cells, Res.stay_cells, trivial⟩ [(6, (.p g71))] ⟨rfl, trivial⟩ (by kernel_rfl) (by kernel_rfl) ?_); clear S; intro w S CL hw le
  refine h_sliceA S CL hw le ⟨rfl, trivial⟩ (i := 0) (j := 4) (o' := 0) (len := 4) (cap := 8) rfl underlying100 T24 (.inl ⟨rfl, rfl⟩) (.inr ⟨_, _, rfl, rfl⟩) (by decide) rfl rfl rfl rfl rfl trivial fun a S CL => h_arrp S CL hw le (subR rfl) rfl underlying26 (by decide) rfl rfl trivial fun a S CL => h_ldInts S CL hw le (subR rfl) (lo := 0) (ys := ((y1).drop 0).take 4) rfl .h T26 .h rfl (by decide) rfl rfl rfl trivial fun a S CL => h_sliceA S CL hw le (subR rfl) (i := 4) (j := 8) (o' := 4) (len := 4) (cap := 4) rfl underlying100 T24 (.inr ⟨_, _, rfl, rfl⟩) (.inl ⟨rfl, rfl⟩) (by decide) rfl rfl rfl rfl rfl trivial fun a S CL => h_arrp S CL hw le (subR rfl) rfl underlying26 (by decide) rfl rfl trivial fun a S CL => h_ldInts S CL hw le (subR rfl) (lo := 4) (ys := ((y1).drop 4).take 4) rfl .h T26 .h rfl (by decide) rfl rfl rfl trivial fun a S CL => h_run' S rfl trivial (s_store S rfl rfl rfl (s' := [.w4 (((y1).drop 0).take 4)]) .h2 T26 rfl rfl fun w S => CL.bk hw S (.c0 (.c0 .n)) le fun hw => h_run' S rfl trivial (s_store S rfl rfl rfl (s' := [.w4 (((y1).drop 4).take 4)]) .h1 T26 rfl rfl fun w S => ?_))
  refine h_back ⟨fun h => (nomatch h), ?_⟩
  refine h_done ?_; clear CL hw le
  refine x_thenN (wp_ret ?_)
  obtain rfl := Option.some.inj h0
  exact b_ret2 (d1 := (.a4 (((y1).drop 0).take 4))) (d2 := (.a4 (((y1).drop 4).take 4))) S rfl (resD_cell rfl .h2 T26 rfl rfl) (resD_cell rfl .h1 T26 rfl rfl) fun ok1 ok2 => S.retX (Hx := []) hb _ _ (() : Unit) .nil ⟨ok1, ok2, trivial⟩
 refine c_region (s_move S rfl rfl fun a S => c_end (wp_block ?_))
 refine c_loop (fun q1 a w => ∃ m y22 g134 g135 g136 g137 g138 y23, St 68 m b0 [(13, (.i y22)), (6, (.p g134)), (5, (.p g135)), (4, (.p g136)), (3, (.p g137)), (2, (.p g138))] [Res.cells g134 100 [.ints .u64 y23 8], Res.cells g135 26 [.w4 [0, 0, 0, 0]], Res.cells g136 26 [.w4 [0, 0, 0, 0]], Res.cells g137 26 [.w4 x2], Res.cells g138 26 [.w4 x1]] a w ∧ wide_Product.l1 k x1 x2 q1 y22 y23 = some r) ?_ ?_ (k := k) ⟨_, 0, g5, g4, g3, g2, g1, z8, (S.sb rfl (.c0 (.c0 (.c0 (.c0 (.c0 .n)))))), h0⟩
 ·rintro a w ⟨m, y22, g134, g135, g136, g137, g138, y23, S, h0⟩
  exact (nomatch (show (none : Option ((List Int) × (List Int))) = some r from h0))
 ·clear S h0
  rintro q1 a w ⟨m, y22, g134, g135, g136, g137, g138, y23, S, h0⟩
  replace h0 : wide_Product.b1 k x1 x2 (wide_Product.l1 k x1 x2 q1) y22 y23 = some r := h0
  delta wide_Product.b1 at h0
  refine c_region (s_bin S rfl rfl rfl rfl fun a S => c_end (wp_seq ?_))
  rcases ite_of h0 with ⟨c1, h1⟩ | ⟨c1, h1⟩
  ·refine c_condT S rfl c1 (wp_skip (x_thenN (wp_seq_k fun K2 hK2 => ?_)))
   have j2 : ∀ m g159 g160 g161 g162 g163 y32 a w, St 68 m b0 [(13, (.i y22)), (6, (.p g159)), (5, (.p g160)), (4, (.p g161)), (3, (.p g162)), (2, (.p g163))] [Res.cells g159 100 [.ints .u64 y32 8], Res.cells g160 26 [.w4 [0, 0, 0, 0]], Res.cells g161 26 [.w4 [0, 0, 0, 0]], Res.cells g162 26 [.w4 x2], Res.cells g163 26 [.w4 x1]] a w → wide_Product.j2 y22 (wide_Product.l1 k x1 x2 q1) y32 = some r → K2 a w := by
    intro m g159 g160 g161 g162 g163 y32 a w S h0
    delta wide_Product.j2 at h0
    refine hK2 a w (c_region' (s_bin S rfl rfl rfl rfl fun a S => s_move S rfl rfl fun a S => c_end' (x_thenN ?_)))
    exact ⟨_, (wr .i64 (y22 + 1)), g159, g160, g161, g162, g163, y32, (S.sb rfl (.c0 (.c0 (.c0 (.c0 (.c0 .n)))))), h0⟩
   refine wp_block (c_region (s_move S rfl rfl fun a S => s_assign S rfl rfl fun a S => c_end (c_region (s_assign S rfl rfl fun a S => c_end (wp_seq_k fun K3 hK3 => ?_)))))
   have j3 : ∀ m y39 g179 g180 g181 g182 g183 y40 a w, St 68 m b0 [(8, (.w y39)), (7, (.i y22)), (13, (.i y22)), (6, (.p g179)), (5, (.p g180)), (4, (.p g181)), (3, (.p g182)), (2, (.p g183))] [Res.cells g179 100 [.ints .u64 y40 8], Res.cells g180 26 [.w4 [0, 0, 0, 0]], Res.cells g181 26 [.w4 [0, 0, 0, 0]], Res.cells g182 26 [.w4 x2], Res.cells g183 26 [.w4 x1]] a w → wide_Product.j3 y22 (wide_Product.l1 k x1 x2 q1) y39 y40 = some r → K3 a w := by
    intro m y39 g179 g180 g181 g182 g183 y40 a w S h0
    delta wide_Product.j3 at h0
    refine hK3 a w (c_region' (s_move S rfl rfl fun a S => s_bin S rfl rfl rfl rfl fun a S => s_move S rfl rfl fun a S => ?_))
    obtain ⟨c2, h1⟩ := chk_of h0; clear h0
    refine s_iaddr S rfl rfl underlying100 T24 c2.1 c2.2 (mul1 _ _) rfl fun a S => s_storei S (i := (wr .i64 (y22 + 4))) rfl rfl .h T24 .h rfl c2.1 c2.2 fun w S => c_end' (x_blockN (x_thenN ?_))
    exact j2 _ g179 g180 g181 g182 g183 (y40.set (Int.toNat (wr .i64 (y22 + 4))) y39) a w (S.sb rfl (.c0 (.c0 (.c0 (.c0 (.c0 .n)))))) h1
   refine c_region (s_move S rfl rfl fun a S => c_end (wp_block ?_))
   refine c_loop (fun q2 a w => ∃ m y44 y45 g194 g195 g196 g197 g198 y46, St 68 m b0 [(16, (.i y44)), (8, (.w y45)), (7, (.i y22)), (13, (.i y22)), (6, (.p g194)), (5, (.p g195)), (4, (.p g196)), (3, (.p g197)), (2, (.p g198))] [Res.cells g194 100 [.ints .u64 y46 8], Res.cells g195 26 [.w4 [0, 0, 0, 0]], Res.cells g196 26 [.w4 [0, 0, 0, 0]], Res.cells g197 26 [.w4 x2], Res.cells g198 26 [.w4 x1]] a w ∧ wide_Product.l2 x1 x2 y22 (wide_Product.l1 k x1 x2 q1) q2 y44 y45 y46 = some r) ?_ ?_ (k := k) ⟨_, 0, 0, g134, g135, g136, g137, g138, y23, (S.sb rfl (.c0 (.c0 (.c0 (.c0 (.c0 .n)))))), h1⟩
   ·rintro a w ⟨m, y44, y45, g194, g195, g196, g197, g198, y46, S, h0⟩
    exact (nomatch (show (none : Option ((List Int) × (List Int))) = some r from h0))
   ·clear S h1
    rintro q2 a w ⟨m, y44, y45, g194, g195, g196, g197, g198, y46, S, h0⟩
    replace h0 : wide_Product.b2 x1 x2 y22 (wide_Product.l1 k x1 x2 q1) (wide_Product.l2 x1 x2 y22 (wide_Product.l1 k x1 x2 q1) q2) y44 y45 y46 = some r := h0
    delta wide_Product.b2 at h0
    refine c_region (s_bin S rfl rfl rfl rfl fun a S => c_end (wp_seq ?_))
    rcases ite_of h0 with ⟨c3, h1⟩ | ⟨c3, h1⟩
    ·refine c_condT S rfl c3 (wp_skip (x_thenN (wp_seq (wp_block (c_region (s_move S rfl rfl fun a S => s_assign S rfl rfl fun a S => c_end ?_))))))
     refine wp_seq (c_heldS S (.take 0 (.take 1 (.take 2 (.take 3 (.take 4 (.take 5 (.alts (.run 6 true (.take 7 (.take 8 (.take 9 (.take 10 (.take 11 .done))))) .nil)))))))) 12 [Res.cells g194 100 [.ints .u64 y46 8], Res.cells g195 26 [.w4 [0, 0, 0, 0]], Res.cells g196 26 [.w4 [0, 0, 0, 0]], Res.cells g197 26 [.w4 x2], Res.cells g198 26 [.w4 x1]] (.c0 (.c0 (.c0 (.c0 (.c0 .n))))) ⟨Res.stay_cells, Res.stay_cells, Res.stay_cells, Res.stay_cells, Res.stay_cells, trivial⟩ [(9, (.i y44)), (7, (.i y22)), (3, (.p g197)), (2, (.p g198))] (subR rfl) (by kernel_rfl) (by kernel_rfl) ?_); clear S; intro w S CL hw le
     refine h_move S CL hw le (subR rfl) rfl rfl rfl trivial fun a S CL => ?_
     obtain ⟨c4, h2⟩ := chk_of h1; clear h1
     refine h_iaddr S CL hw le (subR rfl) rfl rfl underlying26 T24 c4.1 c4.2 (mul1 _ _) rfl rfl trivial fun a S CL => h_loadi S CL hw le (subR rfl) (i := y22) rfl .h4 T24 .h rfl c4.1 c4.2 rfl rfl trivial fun a S CL => h_move S CL hw le (subR rfl) rfl rfl rfl trivial fun a S CL => ?_
     obtain ⟨c5, h3⟩ := chk_of h2; clear h2
     refine h_iaddr S CL hw le (subR rfl) rfl rfl underlying26 T24 c5.1 c5.2 (mul1 _ _) rfl rfl trivial fun a S CL => h_loadi S CL hw le (subR rfl) (i := y44) rfl .h3 T24 .h rfl c5.1 c5.2 rfl rfl trivial fun a S CL => h_run' S rfl trivial (bindX h3 fun t1 et1 h4 => s_callP S _ N44 rfl rfl (bits_Mul64.ok (rd x1 y22) (rd x2 y44) t1 et1 _ _) fun ch1 m le1 a w S => ?_)
     replace le := le.trans le1
     refine CL.bk hw S (.c0 (.c0 (.c0 (.c0 (.c0 .n))))) le fun hw => ?_
     replace CL := CL.add (t := 26) (d := (.tup [(false, [.w t1.1]), (false, [.w t1.2])])) S rfl rfl
     refine h_move S CL hw le (subR rfl) rfl rfl rfl trivial fun a S CL => h_extract S CL hw le (subR rfl) rfl rfl rfl rfl rfl trivial fun a S CL => h_extract S CL hw le (subR rfl) rfl rfl rfl rfl rfl trivial fun a S CL => h_assign S CL hw le (subR rfl) rfl rfl rfl trivial fun a S CL => h_assign S CL hw le (subR rfl) rfl rfl rfl trivial fun a S CL => ?_
     refine h_done ?_; clear CL hw le
     refine x_thenN (c_region (s_move S rfl rfl fun a S => s_move S rfl rfl fun a S => s_move S rfl rfl fun a S => s_bin S rfl rfl rfl rfl fun a S => ?_))
     obtain ⟨c6, h5⟩ := chk_of h4; clear h4
     refine s_iaddr S rfl rfl underlying100 T24 c6.1 c6.2 (mul1 _ _) rfl fun a S => s_loadi S (i := (wr .i64 (y22 + y44))) rfl .h T24 .h rfl c6.1 c6.2 rfl fun a S => ?_
     obtain ⟨c7, h6⟩ := chk_of h5; clear h5
     refine s_extAdd S X45 rfl rfl rfl c7 rfl fun a S => s_move S rfl rfl fun a S => s_extract S rfl rfl rfl rfl fun a S => s_extract S rfl rfl rfl rfl fun a S => s_assign S rfl rfl fun a S => s_assign S rfl rfl fun a S => c_end (c_region (s_move S rfl rfl fun a S => s_move S rfl rfl fun a S => s_bin S rfl rfl rfl rfl fun a S => s_assign S rfl rfl fun a S => c_end (c_region (s_move S rfl rfl fun a S => s_move S rfl rfl fun a S => ?_))))
     obtain ⟨c8, h7⟩ := chk_of h6; clear h6
     refine s_extAdd S X45 rfl rfl rfl c8 rfl fun a S => s_move S rfl rfl fun a S => s_extract S rfl rfl rfl rfl fun a S => s_extract S rfl rfl rfl rfl fun a S => s_assign S rfl rfl fun a S => s_assign S rfl rfl fun a S => c_end (c_region (s_move S rfl rfl fun a S => s_move S rfl rfl fun a S => s_bin S rfl rfl rfl rfl fun a S => s_move S rfl rfl fun a S => s_iaddr S rfl rfl underlying100 T24 c6.1 c6.2 (mul1 _ _) rfl fun a S => s_storei S (i := (wr .i64 (y22 + y44))) rfl rfl .h T24 .h rfl c6.1 c6.2 fun w S => c_end (c_region' (s_move S rfl rfl fun a S => s_move S rfl rfl fun a S => s_bin S rfl rfl rfl rfl fun a S => s_assign S rfl rfl fun a S => c_end' (x_blockN (x_thenN (c_region' (s_bin S rfl rfl rfl rfl fun a S => s_move S rfl rfl fun a S => c_end' (x_thenN ?_)))))))))
     exact ⟨_, (wr .i64 (y44 + 1)), (wr .u64 ((wr .u64 (t1.1 + ((t1.2 + (rd y46 (wr .i64 (y22 + y44))) + 0) / 18446744073709551616))) + ((((t1.2 + (rd y46 (wr .i64 (y22 + y44))) + 0) % 18446744073709551616) + y45 + 0) / 18446744073709551616))), g194, g195, g196, g197, g198, (y46.set (Int.toNat (wr .i64 (y22 + y44))) ((((t1.2 + (rd y46 (wr .i64 (y22 + y44))) + 0) % 18446744073709551616) + y45 + 0) % 18446744073709551616)), (S.sb rfl (.c0 (.c0 (.c0 (.c0 (.c0 .n)))))), h7⟩
    ·refine c_condF S rfl c3 (wp_exit (x_thenX (x_thenX (x_blockX (x_thenN ?_)))))
     exact j3 _ y45 g194 g195 g196 g197 g198 y46 a w (S.sb rfl (.c0 (.c0 (.c0 (.c0 (.c0 .n)))))) h1
  ·refine c_condF S rfl c1 (wp_exit (x_thenX (x_thenX (x_blockX (x_thenN ?_)))))
   exact j1 _ g134 g135 g136 y23 a w (S.sb rfl (.c0 (.c0 (.c0 .n)))) h1
abbrev word_Add.Ty : Type := (List Int) → (List Int) → Option ((List Int))
def word_Add.Ctr (s : word_Add.Ty) : Prop := ∀ (x1 : List Int) (x2 : List Int) (r : (List Int)), Ct (C := Unit) Try.prog 27 (s x1 x2 = some r) [] [(.a4 x1), (.a4 x2)] (fun _ => (.a4 r)) fun _ => []
def word_Add.j1 (y1 : List Int) : Option ((List Int)) := some y1
def word_Add.b1 (x1 : List Int) (x2 : List Int) (rec1 : Int → Int → (List Int) → Option ((List Int))) (y5 : Int) (y6 : Int) (y7 : List Int) : Option ((List Int)) := if (decide (y5 < 4)) = true then (if (0 : Int) ≤ y5 ∧ y5 < 4 then (if (0 : Int) ≤ (rd x1 y5) ∧ (0 : Int) ≤ (rd x2 y5) ∧ (0 : Int) ≤ y6 ∧ (y6 : Int) ≤ 1 then (rec1 (wr .i64 (y5 + 1)) (((rd x1 y5) + (rd x2 y5) + y6) / 18446744073709551616) (y7.set (Int.toNat y5) (((rd x1 y5) + (rd x2 y5) + y6) % 18446744073709551616))) else none) else none) else (word_Add.j1 y7)
def word_Add.l1 (x1 : List Int) (x2 : List Int) : Nat → Int → Int → (List Int) → Option ((List Int))
  | 0, _, _, _ => none
  | q + 1, y5, y6, y7 => word_Add.b1 x1 x2 (word_Add.l1 x1 x2 q) y5 y6 y7
def word_Add.f (k : Nat) (x1 : List Int) (x2 : List Int) : Option ((List Int)) := word_Add.l1 x1 x2 k 0 0 [0, 0, 0, 0]
theorem word_Add.ok (k : Nat) : word_Add.Ctr (word_Add.f k) := by
 intro x1 x2 r h0 mi w0 ok hm
 delta word_Add.f at h0
 refine c_enterZ (n := 30) ok hm func27 rfl rfl rfl fun b0 hb a S => c_region (s_box S rfl rfl rfl fun g1 a w S => s_box S rfl rfl rfl fun g2 a w S => s_alloc S Z26 rfl ⟨rfl, trivial⟩ rfl fun g3 a w S => c_end (c_region (s_alloc S Z26 rfl ⟨rfl, trivial⟩ rfl fun g4 a w S => c_end (c_region (s_assign S rfl rfl fun a S => c_end (wp_seq_k fun K1 hK1 => ?_))))))
 have j1 : ∀ m g17 g18 y1 a w, St 30 m b0 [(5, (.p g17)), (4, (.p g18))] [Res.cells g17 26 [.w4 y1], Res.cells g18 26 [.w4 [0, 0, 0, 0]]] a w → word_Add.j1 y1 = some r → K1 a w := by
  intro m g17 g18 y1 a w S h0
  delta word_Add.j1 at h0
  refine hK1 a w (c_region (s_loada S rfl .h T26 (s' := [.w4 y1]) rfl rfl fun a S => s_store S rfl rfl rfl (s' := [.w4 y1]) .h1 T26 rfl rfl fun w S => c_end (wp_ret ?_)))
  obtain rfl := Option.some.inj h0
  exact b_ret1 (d := (.a4 y1)) S rfl (resD_cell rfl .h1 T26 rfl rfl) (S.rt hb)
 refine c_region (s_move S rfl rfl fun a S => c_end (wp_block ?_))
 refine c_loop (fun q1 a w => ∃ m y5 y6 g27 g28 g29 g30 y7, St 30 m b0 [(10, (.i y5)), (6, (.w y6)), (5, (.p g27)), (4, (.p g28)), (3, (.p g29)), (2, (.p g30))] [Res.cells g27 26 [.w4 y7], Res.cells g28 26 [.w4 [0, 0, 0, 0]], Res.cells g29 26 [.w4 x2], Res.cells g30 26 [.w4 x1]] a w ∧ word_Add.l1 x1 x2 q1 y5 y6 y7 = some r) ?_ ?_ (k := k) ⟨_, 0, 0, g4, g3, g2, g1, [0, 0, 0, 0], (S.sb rfl (.c0 (.c0 (.c0 (.c0 .n))))), h0⟩
 ·rintro a w ⟨m, y5, y6, g27, g28, g29, g30, y7, S, h0⟩
  exact (nomatch (show (none : Option ((List Int))) = some r from h0))
 ·clear S h0
  rintro q1 a w ⟨m, y5, y6, g27, g28, g29, g30, y7, S, h0⟩
  replace h0 : word_Add.b1 x1 x2 (word_Add.l1 x1 x2 q1) y5 y6 y7 = some r := h0
  delta word_Add.b1 at h0
  refine c_region (s_bin S rfl rfl rfl rfl fun a S => c_end (wp_seq ?_))
  rcases ite_of h0 with ⟨c1, h1⟩ | ⟨c1, h1⟩
  ·refine c_condT S rfl c1 (wp_skip (x_thenN (wp_seq (wp_block (c_region (s_move S rfl rfl fun a S => s_assign S rfl rfl fun a S => c_end ?_))))))
   refine wp_seq (c_heldS S (.take 0 (.take 1 (.take 2 (.take 3 (.take 4 (.take 5 (.take 6 (.alts (.run 7 true (.take 8 (.take 9 (.take 10 (.take 11 (.take 12 .done))))) .nil))))))))) 13 [Res.cells g27 26 [.w4 y7], Res.cells g28 26 [.w4 [0, 0, 0, 0]], Res.cells g29 26 [.w4 x2], Res.cells g30 26 [.w4 x1]] (.c0 (.c0 (.c0 (.c0 .n)))) ⟨Res.stay_cells, Res.stay_cells, Res.stay_cells, Res.stay_cells, trivial⟩ [(7, (.i y5)), (6, (.w y6)), (3, (.p g29)), (2, (.p g30))] (subR rfl) (by kernel_rfl) (by kernel_rfl) ?_); clear S; intro w S CL hw le
   refine h_move S CL hw le (subR rfl) rfl rfl rfl trivial fun a S CL => ?_
   obtain ⟨c2, h2⟩ := chk_of h1; clear h1
   refine h_iaddr S CL hw le (subR rfl) rfl rfl underlying26 T24 c2.1 c2.2 (mul1 _ _) rfl rfl trivial fun a S CL => h_loadi S CL hw le (subR rfl) (i := y5) rfl .h3 T24 .h rfl c2.1 c2.2 rfl rfl trivial fun a S CL => h_move S CL hw le (subR rfl) rfl rfl rfl trivial fun a S CL => h_iaddr S CL hw le (subR rfl) rfl rfl underlying26 T24 c2.1 c2.2 (mul1 _ _) rfl rfl trivial fun a S CL => h_loadi S CL hw le (subR rfl) (i := y5) rfl .h2 T24 .h rfl c2.1 c2.2 rfl rfl trivial fun a S CL => h_move S CL hw le (subR rfl) rfl rfl rfl trivial fun a S CL => h_run' S rfl trivial ?_
   obtain ⟨c3, h3⟩ := chk_of h2; clear h2
   refine s_extAdd S X45 rfl rfl rfl c3 rfl fun a S => CL.bk hw S (.c0 (.c0 (.c0 (.c0 .n)))) le fun hw => ?_
   replace CL := CL.add (t := 21) (d := (.tup [(false, [.w (((rd x1 y5) + (rd x2 y5) + y6) % 18446744073709551616)]), (false, [.w (((rd x1 y5) + (rd x2 y5) + y6) / 18446744073709551616)])])) S rfl rfl
   refine h_move S CL hw le (subR rfl) rfl rfl rfl trivial fun a S CL => h_extract S CL hw le (subR rfl) rfl rfl rfl rfl rfl trivial fun a S CL => h_extract S CL hw le (subR rfl) rfl rfl rfl rfl rfl trivial fun a S CL => h_assign S CL hw le (subR rfl) rfl rfl rfl trivial fun a S CL => h_assign S CL hw le (subR rfl) rfl rfl rfl trivial fun a S CL => ?_
   refine h_done ?_; clear CL hw le
   refine x_thenN (c_region (s_move S rfl rfl fun a S => s_move S rfl rfl fun a S => s_iaddr S rfl rfl underlying26 T24 c2.1 c2.2 (mul1 _ _) rfl fun a S => s_storei S (i := y5) rfl rfl .h T24 .h rfl c2.1 c2.2 fun w S => c_end (c_region' (s_move S rfl rfl fun a S => s_assign S rfl rfl fun a S => c_end' (x_blockN (x_thenN (c_region' (s_bin S rfl rfl rfl rfl fun a S => s_move S rfl rfl fun a S => c_end' (x_thenN ?_)))))))))
   exact ⟨_, (wr .i64 (y5 + 1)), (((rd x1 y5) + (rd x2 y5) + y6) / 18446744073709551616), g27, g28, g29, g30, (y7.set (Int.toNat y5) (((rd x1 y5) + (rd x2 y5) + y6) % 18446744073709551616)), (S.sb rfl (.c0 (.c0 (.c0 (.c0 .n))))), h3⟩
  ·refine c_condF S rfl c1 (wp_exit (x_thenX (x_thenX (x_blockX (x_thenN ?_)))))
   exact j1 _ g27 g28 y7 a w (S.sb rfl (.c0 (.c0 .n))) h1
abbrev word_Compare.Ty : Type := (List Int) → (List Int) → Option Int
def word_Compare.Ctr (s : word_Compare.Ty) : Prop := ∀ (x1 : List Int) (x2 : List Int) (r : Int), Ct (C := Unit) Try.prog 28 (s x1 x2 = some r) [] [(.a4 x1), (.a4 x2)] (fun _ => (.i r)) fun _ => []
def word_Compare.j1 (x1 : List Int) (x2 : List Int) (y1 : Int) : Option Int := if (0 : Int) ≤ y1 ∧ y1 < 4 then (if (decide ((rd x1 y1) < (rd x2 y1))) = true then (some (-1)) else (some 1)) else none
def word_Compare.b1 (x1 : List Int) (x2 : List Int) (rec1 : Int → Option Int) (y3 : Int) : Option Int := if (0 : Int) ≤ y3 ∧ y3 < 4 then (if ((rd x1 y3) == (rd x2 y3)) = true then (rec1 (wr .i64 (y3 - 1))) else (word_Compare.j1 x1 x2 y3)) else none
def word_Compare.l1 (x1 : List Int) (x2 : List Int) : Nat → Int → Option Int
  | 0, _ => none
  | q + 1, y3 => word_Compare.b1 x1 x2 (word_Compare.l1 x1 x2 q) y3
def word_Compare.f (k : Nat) (x1 : List Int) (x2 : List Int) : Option Int := if (decide (x1 = x2)) = true then (some 0) else (word_Compare.l1 x1 x2 k 3)
theorem word_Compare.ok (k : Nat) : word_Compare.Ctr (word_Compare.f k) := by
 intro x1 x2 r h0 mi w0 ok hm
 delta word_Compare.f at h0
 refine c_enterZ (n := 25) ok hm func28 rfl rfl rfl fun b0 hb a S => c_region (s_box S rfl rfl rfl fun g1 a w S => s_box S rfl rfl rfl fun g2 a w S => s_assign S rfl rfl fun a S => c_end (wp_seq (c_region (s_loada S rfl .h1 T26 (s' := [.w4 x1]) rfl rfl fun a S => s_loada S rfl .h T26 (s' := [.w4 x2]) rfl rfl fun a S => s_eqa S rfl rfl underlying26 underlying24 T24 Q26 rfl fun a S => c_end ?_))))
 rcases ite_of h0 with ⟨c1, h1⟩ | ⟨c1, h1⟩
 ·refine c_condT S rfl c1 (c_region (s_assign S rfl rfl fun a S => c_end (wp_ret (x_thenR ?_))))
  obtain rfl := Option.some.inj h1
  exact b_ret1 (d := (.i 0)) S rfl rfl (S.rt hb)
 ·refine c_condF S rfl c1 (wp_skip (x_thenN (c_region (s_assign S rfl rfl fun a S => c_end (wp_seq_k fun K1 hK1 => ?_)))))
  have j1 : ∀ m y1 g9 g10 a w, St 25 m b0 [(5, (.i y1)), (3, (.p g9)), (2, (.p g10))] [Res.cells g9 26 [.w4 x2], Res.cells g10 26 [.w4 x1]] a w → word_Compare.j1 x1 x2 y1 = some r → K1 a w := by
   intro m y1 g9 g10 a w S h0
   delta word_Compare.j1 at h0
   refine hK1 a w (wp_seq ?_)
   refine wp_seq (c_heldS S (.take 0 (.take 1 (.take 2 (.take 3 (.take 4 (.take 5 (.take 6 .done))))))) 7 [Res.cells g9 26 [.w4 x2], Res.cells g10 26 [.w4 x1]] (.c0 (.c0 .n)) ⟨Res.stay_cells, Res.stay_cells, trivial⟩ [(5, (.i y1)), (3, (.p g9)), (2, (.p g10))] (subR rfl) (by kernel_rfl) (by kernel_rfl) ?_); clear S; intro w S CL hw le
   refine h_move S CL hw le (subR rfl) rfl rfl rfl trivial fun a S CL => ?_
   obtain ⟨c2, h1⟩ := chk_of h0; clear h0
   refine h_iaddr S CL hw le (subR rfl) rfl rfl underlying26 T24 c2.1 c2.2 (mul1 _ _) rfl rfl trivial fun a S CL => h_loadi S CL hw le (subR rfl) (i := y1) rfl .h1 T24 .h rfl c2.1 c2.2 rfl rfl trivial fun a S CL => h_move S CL hw le (subR rfl) rfl rfl rfl trivial fun a S CL => h_iaddr S CL hw le (subR rfl) rfl rfl underlying26 T24 c2.1 c2.2 (mul1 _ _) rfl rfl trivial fun a S CL => h_loadi S CL hw le (subR rfl) (i := y1) rfl .h T24 .h rfl c2.1 c2.2 rfl rfl trivial fun a S CL => h_bin S CL hw le (subR rfl) rfl rfl rfl rfl rfl trivial fun a S CL => ?_
   refine h_done ?_; clear CL hw le
   refine x_thenN ?_
   rcases ite_of h1 with ⟨c3, h2⟩ | ⟨c3, h2⟩
   ·refine c_condT S rfl c3 (c_region (s_assign S rfl rfl fun a S => c_end (wp_ret (x_thenR ?_))))
    obtain rfl := Option.some.inj h2
    exact b_ret1 (d := (.i (-1))) S rfl rfl (S.rt hb)
   ·refine c_condF S rfl c3 (wp_skip (x_thenN (c_region (s_assign S rfl rfl fun a S => c_end (wp_ret ?_)))))
    obtain rfl := Option.some.inj h2
    exact b_ret1 (d := (.i 1)) S rfl rfl (S.rt hb)
  refine wp_block ?_
  refine c_loop (fun q1 a w => ∃ m y3 g15 g16, St 25 m b0 [(5, (.i y3)), (3, (.p g15)), (2, (.p g16))] [Res.cells g15 26 [.w4 x2], Res.cells g16 26 [.w4 x1]] a w ∧ word_Compare.l1 x1 x2 q1 y3 = some r) ?_ ?_ (k := k) ⟨_, 3, g2, g1, (S.sb rfl (.c0 (.c0 .n))), h1⟩
  ·rintro a w ⟨m, y3, g15, g16, S, h0⟩
   exact (nomatch (show (none : Option Int) = some r from h0))
  ·clear S h1
   rintro q1 a w ⟨m, y3, g15, g16, S, h0⟩
   replace h0 : word_Compare.b1 x1 x2 (word_Compare.l1 x1 x2 q1) y3 = some r := h0
   delta word_Compare.b1 at h0
   refine wp_seq ?_
   refine wp_seq (c_heldS S (.take 0 (.take 1 (.take 2 (.take 3 (.take 4 (.take 5 (.take 6 .done))))))) 7 [Res.cells g15 26 [.w4 x2], Res.cells g16 26 [.w4 x1]] (.c0 (.c0 .n)) ⟨Res.stay_cells, Res.stay_cells, trivial⟩ [(5, (.i y3)), (3, (.p g15)), (2, (.p g16))] (subR rfl) (by kernel_rfl) (by kernel_rfl) ?_); clear S; intro w S CL hw le
   refine h_move S CL hw le (subR rfl) rfl rfl rfl trivial fun a S CL => ?_
   obtain ⟨c4, h1⟩ := chk_of h0; clear h0
   refine h_iaddr S CL hw le (subR rfl) rfl rfl underlying26 T24 c4.1 c4.2 (mul1 _ _) rfl rfl trivial fun a S CL => h_loadi S CL hw le (subR rfl) (i := y3) rfl .h1 T24 .h rfl c4.1 c4.2 rfl rfl trivial fun a S CL => h_move S CL hw le (subR rfl) rfl rfl rfl trivial fun a S CL => h_iaddr S CL hw le (subR rfl) rfl rfl underlying26 T24 c4.1 c4.2 (mul1 _ _) rfl rfl trivial fun a S CL => h_loadi S CL hw le (subR rfl) (i := y3) rfl .h T24 .h rfl c4.1 c4.2 rfl rfl trivial fun a S CL => h_bin S CL hw le (subR rfl) rfl rfl rfl rfl rfl trivial fun a S CL => ?_
   refine h_done ?_; clear CL hw le
   refine x_thenN ?_
   rcases ite_of h1 with ⟨c5, h2⟩ | ⟨c5, h2⟩
   ·refine c_condT S rfl c5 (wp_skip (x_thenN (wp_block (c_region' (s_move S rfl rfl fun a S => s_bin S rfl rfl rfl rfl fun a S => s_assign S rfl rfl fun a S => c_end' (x_blockN (x_thenN ?_)))))))
    exact ⟨_, (wr .i64 (y3 - 1)), g15, g16, (S.sb rfl (.c0 (.c0 .n))), h2⟩
   ·refine c_condF S rfl c5 (wp_exit (x_thenX (x_thenX (x_blockX (x_thenN ?_)))))
    exact j1 _ y3 g15 g16 a w (S.sb rfl (.c0 (.c0 .n))) h2
abbrev tx_Cost.Ty : Type := (L30) → Option ((List Int) × Bool)
def tx_Cost.Ctr (s : tx_Cost.Ty) : Prop := ∀ (x1 : L30) (ch_0_0 : Option Addr) (ch_0_1 : Nat) (ch_0_2 : Option Addr) (ch_0_3 : Nat) (r : (List Int) × Bool), Ct (C := Unit) Try.prog 7 (s x1 = some r) [] [(.agg (Y30.segs x1 ((), (), (), (), (), (ch_0_0, ch_0_1), (), (), (), (ch_0_2, ch_0_3))))] (fun _ => (.tup [(true, [.w4 r.1]), (false, [.b r.2])])) fun _ => []
def tx_Cost.j2 (t1 : (List Int)) (y3 : Bool) : Option ((List Int) × Bool) := if y3 = true then (some ([0, 0, 0, 0], false)) else (some (t1, true))
def tx_Cost.j1 (k : Nat) (x1 : L30) (y1 : List Int) (y2 : List Int) : Option ((List Int) × Bool) := (word_Add.f k y2 x1.2.2.2.2.1).bind fun t1 => (if (!(decide (y1 = [0, 0, 0, 0]))) = true then (tx_Cost.j2 t1 true) else ((word_Compare.f k t1 y2).bind fun t3 => (tx_Cost.j2 t1 (decide (t3 < 0)))))
def tx_Cost.f (k : Nat) (x1 : L30) : Option ((List Int) × Bool) := (word_Of.f x1.2.2.2.2.2.2.1).bind fun t4 => ((wide_Product.f k t4 x1.2.2.2.2.2.2.2.1).bind fun t5 => (tx_Cost.j1 k x1 t5.2 t5.1))
theorem tx_Cost.ok (k : Nat) : tx_Cost.Ctr (tx_Cost.f k) := by
 intro x1 ch_0_0 ch_0_1 ch_0_2 ch_0_3 r h0 mi w0 ok hm
 delta tx_Cost.f at h0
 refine c_enterZ (n := 31) ok hm func7 rfl rfl rfl fun b0 hb a S => c_region (s_box S rfl rfl rfl fun g1 a w S => s_alloc S Z26 rfl ⟨rfl, trivial⟩ rfl fun g2 a w S => s_assign S rfl rfl fun a S => c_end (wp_seq_k fun K1 hK1 => ?_))
 have j1 : ∀ m g5 g6 g7 g8 y1 y2 a w, St 31 m b0 [(5, (.p g5)), (4, (.p g6)), (2, (.p g7)), (1, (.p g8))] [Res.cells g5 26 [.w4 y1], Res.cells g6 26 [.w4 y2], Res.cells g7 26 [.w4 [0, 0, 0, 0]], Res.cells g8 30 (Y30.segs x1 ((), (), (), (), (), (ch_0_0, ch_0_1), (), (), (), (ch_0_2, ch_0_3)))] a w → tx_Cost.j1 k x1 y1 y2 = some r → K1 a w := by
  intro m g5 g6 g7 g8 y1 y2 a w S h0
  delta tx_Cost.j1 at h0
  refine hK1 a w (c_region (s_loada S rfl .h1 T26 (s' := [.w4 y2]) rfl rfl fun a S => s_fieldAddr S rfl I30_4 T26 (by decide) rfl rfl fun a S => s_loada S rfl .h3 T26 (s' := [.w4 x1.2.2.2.2.1]) rfl rfl fun a S => bindX h0 fun t1 et1 h1 => s_callP S _ N27 rfl rfl (word_Add.ok k y2 x1.2.2.2.2.1 t1 et1 _ _) fun ch1 m le1 a w S => s_alloc S Z26 rfl ⟨rfl, trivial⟩ rfl fun g9 a w S => s_store S rfl rfl rfl (s' := [.w4 t1]) .h T26 rfl rfl fun w S => c_end (wp_seq (wp_seq_k fun K2 hK2 => ?_))))
  have j2 : ∀ m y3 g10 g11 a w, St 31 m b0 [(28, (.b y3)), (6, (.p g10)), (2, (.p g11))] [Res.cells g10 26 [.w4 t1], Res.cells g11 26 [.w4 [0, 0, 0, 0]]] a w → tx_Cost.j2 t1 y3 = some r → K2 a w := by
   intro m y3 g10 g11 a w S h0
   delta tx_Cost.j2 at h0
   refine hK2 a w ?_
   rcases ite_of h0 with ⟨c1, h1⟩ | ⟨c1, h1⟩
   ·refine c_condT S rfl c1 (c_region (s_build S (ds := []) (dv := (.a4 [0, 0, 0, 0])) rfl (fun _ => by kernel_rfl) ⟨rfl, trivial⟩ rfl fun a S => s_store S rfl rfl rfl (s' := [.w4 [0, 0, 0, 0]]) .h1 T26 rfl rfl fun w S => s_assign S rfl rfl fun a S => c_end (wp_ret (x_thenR ?_))))
    obtain rfl := Option.some.inj h1
    exact b_ret2 (d1 := (.a4 [0, 0, 0, 0])) (d2 := (.b false)) S rfl (resD_cell rfl .h1 T26 rfl rfl) rfl fun ok1 ok2 => S.retX (Hx := []) hb _ _ (() : Unit) .nil ⟨ok1, ⟨ok2, trivial⟩, trivial⟩
   ·refine c_condF S rfl c1 (wp_skip (x_thenN (c_region (s_loada S rfl .h T26 (s' := [.w4 t1]) rfl rfl fun a S => s_store S rfl rfl rfl (s' := [.w4 t1]) .h1 T26 rfl rfl fun w S => s_assign S rfl rfl fun a S => c_end (wp_ret ?_)))))
    obtain rfl := Option.some.inj h1
    exact b_ret2 (d1 := (.a4 t1)) (d2 := (.b true)) S rfl (resD_cell rfl .h1 T26 rfl rfl) rfl fun ok1 ok2 => S.retX (Hx := []) hb _ _ (() : Unit) .nil ⟨ok1, ⟨ok2, trivial⟩, trivial⟩
  refine c_region' (s_loada S rfl .h1 T26 (s' := [.w4 y1]) rfl rfl fun a S => s_build S (ds := []) (dv := (.a4 [0, 0, 0, 0])) rfl (fun _ => by kernel_rfl) ⟨rfl, trivial⟩ rfl fun a S => s_nea S rfl rfl underlying26 underlying24 T24 Q26 rfl fun a S => s_move S rfl rfl fun a S => ?_)
  rcases ite_of h1 with ⟨c2, h2⟩ | ⟨c2, h2⟩
  ·refine s_gF S (b := (!(decide (y1 = [0, 0, 0, 0])))) rfl rfl c2 rfl fun a S => s_gF S (b := (!(decide (y1 = [0, 0, 0, 0])))) rfl rfl c2 rfl fun a S => s_gF S (b := (!(decide (y1 = [0, 0, 0, 0])))) rfl rfl c2 rfl fun a S => s_gF S (b := (!(decide (y1 = [0, 0, 0, 0])))) rfl rfl c2 rfl fun a S => s_pick S (b := true) (hc_of rfl c2) rfl rfl fun a S => c_end' (x_thenN ?_)
   exact j2 _ true g9 g7 a w (S.sb rfl (.c0 (.c2 .n))) h2
  ·refine s_gT S (b := (!(decide (y1 = [0, 0, 0, 0])))) rfl rfl c2 (s_loada S rfl .h T26 (s' := [.w4 t1]) rfl rfl fun a S => s_gT S (b := (!(decide (y1 = [0, 0, 0, 0])))) rfl rfl c2 (s_loada S rfl .h2 T26 (s' := [.w4 y2]) rfl rfl fun a S => s_gT S (b := (!(decide (y1 = [0, 0, 0, 0])))) rfl rfl c2 (bindX h2 fun t3 et3 h3 => s_callP S _ N28 rfl rfl (word_Compare.ok k t1 y2 t3 et3 _ _) fun ch2 m le1 a w S => s_gT S (b := (!(decide (y1 = [0, 0, 0, 0])))) rfl rfl c2 (s_bin S rfl rfl rfl rfl fun a S => s_pick S (b := false) (hc_of rfl c2) rfl rfl fun a S => c_end' (x_thenN ?_)))))
   exact j2 _ (decide (t3 < 0)) g9 g7 a w (S.sb rfl (.c0 (.c2 .n))) h3
 refine c_heldS S (.take 0 (.take 1 (.take 3 (.take 4 (.alts (.run 2 true (.alts (.run 5 true (.take 6 (.take 7 (.take 8 (.alts (.run 9 true (.alts (.run 10 true (.alts (.run 11 true (.alts (.run 12 false .done .nil)) .nil)) .nil)) (.run 10 true (.alts (.run 9 true (.alts (.run 11 true (.alts (.run 12 false .done .nil)) .nil)) .nil)) .nil)))))) (.run 9 true (.alts (.run 5 true (.take 6 (.take 7 (.take 8 (.alts (.run 10 true (.alts (.run 11 true (.alts (.run 12 false .done .nil)) .nil)) .nil))))) (.run 10 true (.alts (.run 5 true (.take 6 (.take 7 (.take 8 (.alts (.run 11 true (.alts (.run 12 false .done .nil)) .nil))))) .nil)) .nil))) (.run 10 true (.alts (.run 5 true (.take 6 (.take 7 (.take 8 (.alts (.run 9 true (.alts (.run 11 true (.alts (.run 12 false .done .nil)) .nil)) .nil))))) (.run 9 true (.alts (.run 5 true (.take 6 (.take 7 (.take 8 (.alts (.run 11 true (.alts (.run 12 false .done .nil)) .nil))))) .nil)) .nil))) .nil)))) (.run 9 true (.alts (.run 2 true (.alts (.run 5 true (.take 6 (.take 7 (.take 8 (.alts (.run 10 true (.alts (.run 11 true (.alts (.run 12 false .done .nil)) .nil)) .nil))))) (.run 10 true (.alts (.run 5 true (.take 6 (.take 7 (.take 8 (.alts (.run 11 true (.alts (.run 12 false .done .nil)) .nil))))) .nil)) .nil))) (.run 10 true (.alts (.run 2 true (.alts (.run 5 true (.take 6 (.take 7 (.take 8 (.alts (.run 11 true (.alts (.run 12 false .done .nil)) .nil))))) .nil)) .nil)) .nil))) (.run 10 true (.alts (.run 2 true (.alts (.run 5 true (.take 6 (.take 7 (.take 8 (.alts (.run 9 true (.alts (.run 11 true (.alts (.run 12 false .done .nil)) .nil)) .nil))))) (.run 9 true (.alts (.run 5 true (.take 6 (.take 7 (.take 8 (.alts (.run 11 true (.alts (.run 12 false .done .nil)) .nil))))) .nil)) .nil))) (.run 9 true (.alts (.run 2 true (.alts (.run 5 true (.take 6 (.take 7 (.take 8 (.alts (.run 11 true (.alts (.run 12 false .done .nil)) .nil))))) .nil)) .nil)) .nil))) .nil)))))))) 12 [Res.cells g2 26 [.w4 [0, 0, 0, 0]], Res.cells g1 30 (Y30.segs x1 ((), (), (), (), (), (ch_0_0, ch_0_1), (), (), (), (ch_0_2, ch_0_3)))] (.c0 (.c0 .n)) ⟨Res.stay_cells, Res.stay_cells, trivial⟩ [(1, (.p g1))] ⟨rfl, trivial⟩ (by kernel_rfl) (by kernel_rfl) fun w S CL hw le => ?_
 refine h_fieldAddr S CL hw le ⟨rfl, trivial⟩ rfl I30_6 T24 (by decide) rfl rfl rfl trivial fun a S CL => h_load1 S CL hw le (subR rfl) rfl .h1 T24 (v := (.int .u64 x1.2.2.2.2.2.2.1)) rfl rfl rfl trivial fun a S CL => h_fieldAddr S CL hw le (subR rfl) rfl I30_7 T26 (by decide) rfl rfl rfl trivial fun a S CL => h_loada S CL hw le (subR rfl) rfl .h1 T26 (s' := [.w4 x1.2.2.2.2.2.2.2.1]) rfl rfl rfl trivial fun a S CL => bindX h0 fun t4 et4 h1 => bindX h1 fun t5 et5 h2 => h_alts ?_
 refine h_runO S rfl trivial ?_ ?_
 ·refine s_callP S _ N26 rfl rfl (word_Of.ok x1.2.2.2.2.2.2.1 t4 et4 _ _) fun ch3 m le1 a w S => ?_
  replace le := le.trans le1
  refine CL.bk hw S (.c0 (.c0 .n)) le fun hw => h_alts ?_
  refine h_runO S rfl trivial ?_ ?_
  ·refine s_callP S _ N25 rfl rfl (wide_Product.ok k t4 x1.2.2.2.2.2.2.2.1 t5 et5 _ _) fun ch4 m le1 a w S => ?_
   replace le := le.trans le1
   refine CL.bk hw S (.c0 (.c0 .n)) le fun hw => ?_
   replace CL := CL.add (t := 13) (d := (.tup [(true, [.w4 t5.1]), (true, [.w4 t5.2])])) S rfl rfl
   refine h_move S CL hw le (subR rfl) rfl rfl rfl trivial fun a S CL => h_extract S CL hw le (subR rfl) rfl rfl rfl rfl rfl trivial fun a S CL => h_extract S CL hw le (subR rfl) rfl rfl rfl rfl rfl trivial fun a S CL => h_alts ?_
   refine h_runO S rfl trivial ?_ ?_
   ·refine s_alloc S Z26 rfl ⟨rfl, trivial⟩ rfl fun g12 a w S => CL.bk hw S (.c1 (.c1 .n)) le fun hw => h_run' S rfl trivial (s_alloc S Z26 rfl ⟨rfl, trivial⟩ rfl fun g13 a w S => CL.bk hw S (.c2 (.c2 .n)) le fun hw => h_run' S rfl trivial (s_store S rfl rfl rfl (s' := [.w4 t5.1]) .h1 T26 rfl rfl fun w S => CL.bk hw S (.c2 (.c2 .n)) le fun hw => h_run' S rfl trivial (s_store S rfl rfl rfl (s' := [.w4 t5.2]) .h T26 rfl rfl fun w S => ?_)))
    refine h_back ⟨fun h => (nomatch h), ?_⟩
    refine h_done ?_; clear CL hw le
    refine x_thenN ?_
    exact j1 _ g13 g12 g2 g1 t5.2 t5.1 a w (S.sb rfl (.c0 (.c0 (.c0 (.c0 .n))))) h2
   refine h_runO S rfl trivial ?_ ?_
   ·refine s_alloc S Z26 rfl ⟨rfl, trivial⟩ rfl fun g12 a w S => CL.bk hw S (.c1 (.c1 .n)) le fun hw => h_run' S rfl trivial (s_alloc S Z26 rfl ⟨rfl, trivial⟩ rfl fun g13 a w S => CL.bk hw S (.c2 (.c2 .n)) le fun hw => h_run' S rfl trivial (s_store S rfl rfl rfl (s' := [.w4 t5.1]) .h T26 rfl rfl fun w S => CL.bk hw S (.c2 (.c2 .n)) le fun hw => h_run' S rfl trivial (s_store S rfl rfl rfl (s' := [.w4 t5.2]) .h1 T26 rfl rfl fun w S => ?_)))
    refine h_back ⟨fun h => (nomatch h), ?_⟩
    refine h_done ?_; clear CL hw le
    refine x_thenN ?_
    exact j1 _ g12 g13 g2 g1 t5.2 t5.1 a w (S.sb rfl (.c1 (.c0 (.c0 (.c0 .n))))) h2
   exact h_nil
  refine h_runO S rfl trivial ?_ ?_
  ·refine s_alloc S Z26 rfl ⟨rfl, trivial⟩ rfl fun g12 a w S => CL.bk hw S (.c1 (.c1 .n)) le fun hw => h_alts ?_
   refine h_runO S rfl trivial ?_ ?_
   ·refine s_callP S _ N25 rfl rfl (wide_Product.ok k t4 x1.2.2.2.2.2.2.2.1 t5 et5 _ _) fun ch4 m le1 a w S => ?_
    replace le := le.trans le1
    refine CL.bk hw S (.c1 (.c1 .n)) le fun hw => ?_
    replace CL := CL.add (t := 13) (d := (.tup [(true, [.w4 t5.1]), (true, [.w4 t5.2])])) S rfl rfl
    refine h_move S CL hw le (subR rfl) rfl rfl rfl trivial fun a S CL => h_extract S CL hw le (subR rfl) rfl rfl rfl rfl rfl trivial fun a S CL => h_extract S CL hw le (subR rfl) rfl rfl rfl rfl rfl trivial fun a S CL => h_run' S rfl trivial (s_alloc S Z26 rfl ⟨rfl, trivial⟩ rfl fun g13 a w S => CL.bk hw S (.c2 (.c2 .n)) le fun hw => h_run' S rfl trivial (s_store S rfl rfl rfl (s' := [.w4 t5.1]) .h1 T26 rfl rfl fun w S => CL.bk hw S (.c2 (.c2 .n)) le fun hw => h_run' S rfl trivial (s_store S rfl rfl rfl (s' := [.w4 t5.2]) .h T26 rfl rfl fun w S => ?_)))
    refine h_back ⟨fun h => (nomatch h), ?_⟩
    refine h_done ?_; clear CL hw le
    refine x_thenN ?_
    exact j1 _ g13 g12 g2 g1 t5.2 t5.1 a w (S.sb rfl (.c0 (.c0 (.c0 (.c0 .n))))) h2
   refine h_runO S rfl trivial ?_ ?_
   ·refine s_alloc S Z26 rfl ⟨rfl, trivial⟩ rfl fun g13 a w S => CL.bk hw S (.c2 (.c2 .n)) le fun hw => h_run' S rfl trivial (s_callP S _ N25 rfl rfl (wide_Product.ok k t4 x1.2.2.2.2.2.2.2.1 t5 et5 _ _) fun ch4 m le1 a w S => ?_)
    replace le := le.trans le1
    refine CL.bk hw S (.c2 (.c2 .n)) le fun hw => ?_
    replace CL := CL.add (t := 13) (d := (.tup [(true, [.w4 t5.1]), (true, [.w4 t5.2])])) S rfl rfl
    refine h_move S CL hw le (subR rfl) rfl rfl rfl trivial fun a S CL => h_extract S CL hw le (subR rfl) rfl rfl rfl rfl rfl trivial fun a S CL => h_extract S CL hw le (subR rfl) rfl rfl rfl rfl rfl trivial fun a S CL => h_run' S rfl trivial (s_store S rfl rfl rfl (s' := [.w4 t5.1]) .h1 T26 rfl rfl fun w S => CL.bk hw S (.c2 (.c2 .n)) le fun hw => h_run' S rfl trivial (s_store S rfl rfl rfl (s' := [.w4 t5.2]) .h T26 rfl rfl fun w S => ?_))
    refine h_back ⟨fun h => (nomatch h), ?_⟩
    refine h_done ?_; clear CL hw le
    refine x_thenN ?_
    exact j1 _ g13 g12 g2 g1 t5.2 t5.1 a w (S.sb rfl (.c0 (.c0 (.c0 (.c0 .n))))) h2
   exact h_nil
  refine h_runO S rfl trivial ?_ ?_
  ·refine s_alloc S Z26 rfl ⟨rfl, trivial⟩ rfl fun g12 a w S => CL.bk hw S (.c1 (.c1 .n)) le fun hw => h_alts ?_
   refine h_runO S rfl trivial ?_ ?_
   ·refine s_callP S _ N25 rfl rfl (wide_Product.ok k t4 x1.2.2.2.2.2.2.2.1 t5 et5 _ _) fun ch4 m le1 a w S => ?_
    replace le := le.trans le1
    refine CL.bk hw S (.c1 (.c1 .n)) le fun hw => ?_
    replace CL := CL.add (t := 13) (d := (.tup [(true, [.w4 t5.1]), (true, [.w4 t5.2])])) S rfl rfl
    refine h_move S CL hw le (subR rfl) rfl rfl rfl trivial fun a S CL => h_extract S CL hw le (subR rfl) rfl rfl rfl rfl rfl trivial fun a S CL => h_extract S CL hw le (subR rfl) rfl rfl rfl rfl rfl trivial fun a S CL => h_run' S rfl trivial (s_alloc S Z26 rfl ⟨rfl, trivial⟩ rfl fun g13 a w S => CL.bk hw S (.c2 (.c2 .n)) le fun hw => h_run' S rfl trivial (s_store S rfl rfl rfl (s' := [.w4 t5.1]) .h T26 rfl rfl fun w S => CL.bk hw S (.c2 (.c2 .n)) le fun hw => h_run' S rfl trivial (s_store S rfl rfl rfl (s' := [.w4 t5.2]) .h1 T26 rfl rfl fun w S => ?_)))
    refine h_back ⟨fun h => (nomatch h), ?_⟩
    refine h_done ?_; clear CL hw le
    refine x_thenN ?_
    exact j1 _ g12 g13 g2 g1 t5.2 t5.1 a w (S.sb rfl (.c1 (.c0 (.c0 (.c0 .n))))) h2
   refine h_runO S rfl trivial ?_ ?_
   ·refine s_alloc S Z26 rfl ⟨rfl, trivial⟩ rfl fun g13 a w S => CL.bk hw S (.c2 (.c2 .n)) le fun hw => h_run' S rfl trivial (s_callP S _ N25 rfl rfl (wide_Product.ok k t4 x1.2.2.2.2.2.2.2.1 t5 et5 _ _) fun ch4 m le1 a w S => ?_)
    replace le := le.trans le1
    refine CL.bk hw S (.c2 (.c2 .n)) le fun hw => ?_
    replace CL := CL.add (t := 13) (d := (.tup [(true, [.w4 t5.1]), (true, [.w4 t5.2])])) S rfl rfl
    refine h_move S CL hw le (subR rfl) rfl rfl rfl trivial fun a S CL => h_extract S CL hw le (subR rfl) rfl rfl rfl rfl rfl trivial fun a S CL => h_extract S CL hw le (subR rfl) rfl rfl rfl rfl rfl trivial fun a S CL => h_run' S rfl trivial (s_store S rfl rfl rfl (s' := [.w4 t5.1]) .h T26 rfl rfl fun w S => CL.bk hw S (.c2 (.c2 .n)) le fun hw => h_run' S rfl trivial (s_store S rfl rfl rfl (s' := [.w4 t5.2]) .h1 T26 rfl rfl fun w S => ?_))
    refine h_back ⟨fun h => (nomatch h), ?_⟩
    refine h_done ?_; clear CL hw le
    refine x_thenN ?_
    exact j1 _ g12 g13 g2 g1 t5.2 t5.1 a w (S.sb rfl (.c1 (.c0 (.c0 (.c0 .n))))) h2
   exact h_nil
  exact h_nil
 refine h_runO S rfl trivial ?_ ?_
 ·refine s_alloc S Z26 rfl ⟨rfl, trivial⟩ rfl fun g12 a w S => CL.bk hw S (.c1 (.c1 .n)) le fun hw => h_alts ?_
  refine h_runO S rfl trivial ?_ ?_
  ·refine s_callP S _ N26 rfl rfl (word_Of.ok x1.2.2.2.2.2.2.1 t4 et4 _ _) fun ch3 m le1 a w S => ?_
   replace le := le.trans le1
   refine CL.bk hw S (.c1 (.c1 .n)) le fun hw => h_alts ?_
   refine h_runO S rfl trivial ?_ ?_
   ·refine s_callP S _ N25 rfl rfl (wide_Product.ok k t4 x1.2.2.2.2.2.2.2.1 t5 et5 _ _) fun ch4 m le1 a w S => ?_
    replace le := le.trans le1
    refine CL.bk hw S (.c1 (.c1 .n)) le fun hw => ?_
    replace CL := CL.add (t := 13) (d := (.tup [(true, [.w4 t5.1]), (true, [.w4 t5.2])])) S rfl rfl
    refine h_move S CL hw le (subR rfl) rfl rfl rfl trivial fun a S CL => h_extract S CL hw le (subR rfl) rfl rfl rfl rfl rfl trivial fun a S CL => h_extract S CL hw le (subR rfl) rfl rfl rfl rfl rfl trivial fun a S CL => h_run' S rfl trivial (s_alloc S Z26 rfl ⟨rfl, trivial⟩ rfl fun g13 a w S => CL.bk hw S (.c2 (.c2 .n)) le fun hw => h_run' S rfl trivial (s_store S rfl rfl rfl (s' := [.w4 t5.1]) .h1 T26 rfl rfl fun w S => CL.bk hw S (.c2 (.c2 .n)) le fun hw => h_run' S rfl trivial (s_store S rfl rfl rfl (s' := [.w4 t5.2]) .h T26 rfl rfl fun w S => ?_)))
    refine h_back ⟨fun h => (nomatch h), ?_⟩
    refine h_done ?_; clear CL hw le
    refine x_thenN ?_
    exact j1 _ g13 g12 g2 g1 t5.2 t5.1 a w (S.sb rfl (.c0 (.c0 (.c0 (.c0 .n))))) h2
   refine h_runO S rfl trivial ?_ ?_
   ·refine s_alloc S Z26 rfl ⟨rfl, trivial⟩ rfl fun g13 a w S => CL.bk hw S (.c2 (.c2 .n)) le fun hw => h_run' S rfl trivial (s_callP S _ N25 rfl rfl (wide_Product.ok k t4 x1.2.2.2.2.2.2.2.1 t5 et5 _ _) fun ch4 m le1 a w S => ?_)
    replace le := le.trans le1
    refine CL.bk hw S (.c2 (.c2 .n)) le fun hw => ?_
    replace CL := CL.add (t := 13) (d := (.tup [(true, [.w4 t5.1]), (true, [.w4 t5.2])])) S rfl rfl
    refine h_move S CL hw le (subR rfl) rfl rfl rfl trivial fun a S CL => h_extract S CL hw le (subR rfl) rfl rfl rfl rfl rfl trivial fun a S CL => h_extract S CL hw le (subR rfl) rfl rfl rfl rfl rfl trivial fun a S CL => h_run' S rfl trivial (s_store S rfl rfl rfl (s' := [.w4 t5.1]) .h1 T26 rfl rfl fun w S => CL.bk hw S (.c2 (.c2 .n)) le fun hw => h_run' S rfl trivial (s_store S rfl rfl rfl (s' := [.w4 t5.2]) .h T26 rfl rfl fun w S => ?_))
    refine h_back ⟨fun h => (nomatch h), ?_⟩
    refine h_done ?_; clear CL hw le
    refine x_thenN ?_
    exact j1 _ g13 g12 g2 g1 t5.2 t5.1 a w (S.sb rfl (.c0 (.c0 (.c0 (.c0 .n))))) h2
   exact h_nil
  refine h_runO S rfl trivial ?_ ?_
  ·refine s_alloc S Z26 rfl ⟨rfl, trivial⟩ rfl fun g13 a w S => CL.bk hw S (.c2 (.c2 .n)) le fun hw => h_run' S rfl trivial (s_callP S _ N26 rfl rfl (word_Of.ok x1.2.2.2.2.2.2.1 t4 et4 _ _) fun ch3 m le1 a w S => ?_)
   replace le := le.trans le1
   refine CL.bk hw S (.c2 (.c2 .n)) le fun hw => h_run' S rfl trivial (s_callP S _ N25 rfl rfl (wide_Product.ok k t4 x1.2.2.2.2.2.2.2.1 t5 et5 _ _) fun ch4 m le1 a w S => ?_)
   replace le := le.trans le1
   refine CL.bk hw S (.c2 (.c2 .n)) le fun hw => ?_
   replace CL := CL.add (t := 13) (d := (.tup [(true, [.w4 t5.1]), (true, [.w4 t5.2])])) S rfl rfl
   refine h_move S CL hw le (subR rfl) rfl rfl rfl trivial fun a S CL => h_extract S CL hw le (subR rfl) rfl rfl rfl rfl rfl trivial fun a S CL => h_extract S CL hw le (subR rfl) rfl rfl rfl rfl rfl trivial fun a S CL => h_run' S rfl trivial (s_store S rfl rfl rfl (s' := [.w4 t5.1]) .h1 T26 rfl rfl fun w S => CL.bk hw S (.c2 (.c2 .n)) le fun hw => h_run' S rfl trivial (s_store S rfl rfl rfl (s' := [.w4 t5.2]) .h T26 rfl rfl fun w S => ?_))
   refine h_back ⟨fun h => (nomatch h), ?_⟩
   refine h_done ?_; clear CL hw le
   refine x_thenN ?_
   exact j1 _ g13 g12 g2 g1 t5.2 t5.1 a w (S.sb rfl (.c0 (.c0 (.c0 (.c0 .n))))) h2
  exact h_nil
 refine h_runO S rfl trivial ?_ ?_
 ·refine s_alloc S Z26 rfl ⟨rfl, trivial⟩ rfl fun g12 a w S => CL.bk hw S (.c1 (.c1 .n)) le fun hw => h_alts ?_
  refine h_runO S rfl trivial ?_ ?_
  ·refine s_callP S _ N26 rfl rfl (word_Of.ok x1.2.2.2.2.2.2.1 t4 et4 _ _) fun ch3 m le1 a w S => ?_
   replace le := le.trans le1
   refine CL.bk hw S (.c1 (.c1 .n)) le fun hw => h_alts ?_
   refine h_runO S rfl trivial ?_ ?_
   ·refine s_callP S _ N25 rfl rfl (wide_Product.ok k t4 x1.2.2.2.2.2.2.2.1 t5 et5 _ _) fun ch4 m le1 a w S => ?_
    replace le := le.trans le1
    refine CL.bk hw S (.c1 (.c1 .n)) le fun hw => ?_
    replace CL := CL.add (t := 13) (d := (.tup [(true, [.w4 t5.1]), (true, [.w4 t5.2])])) S rfl rfl
    refine h_move S CL hw le (subR rfl) rfl rfl rfl trivial fun a S CL => h_extract S CL hw le (subR rfl) rfl rfl rfl rfl rfl trivial fun a S CL => h_extract S CL hw le (subR rfl) rfl rfl rfl rfl rfl trivial fun a S CL => h_run' S rfl trivial (s_alloc S Z26 rfl ⟨rfl, trivial⟩ rfl fun g13 a w S => CL.bk hw S (.c2 (.c2 .n)) le fun hw => h_run' S rfl trivial (s_store S rfl rfl rfl (s' := [.w4 t5.1]) .h T26 rfl rfl fun w S => CL.bk hw S (.c2 (.c2 .n)) le fun hw => h_run' S rfl trivial (s_store S rfl rfl rfl (s' := [.w4 t5.2]) .h1 T26 rfl rfl fun w S => ?_)))
    refine h_back ⟨fun h => (nomatch h), ?_⟩
    refine h_done ?_; clear CL hw le
    refine x_thenN ?_
    exact j1 _ g12 g13 g2 g1 t5.2 t5.1 a w (S.sb rfl (.c1 (.c0 (.c0 (.c0 .n))))) h2
   refine h_runO S rfl trivial ?_ ?_
   ·refine s_alloc S Z26 rfl ⟨rfl, trivial⟩ rfl fun g13 a w S => CL.bk hw S (.c2 (.c2 .n)) le fun hw => h_run' S rfl trivial (s_callP S _ N25 rfl rfl (wide_Product.ok k t4 x1.2.2.2.2.2.2.2.1 t5 et5 _ _) fun ch4 m le1 a w S => ?_)
    replace le := le.trans le1
    refine CL.bk hw S (.c2 (.c2 .n)) le fun hw => ?_
    replace CL := CL.add (t := 13) (d := (.tup [(true, [.w4 t5.1]), (true, [.w4 t5.2])])) S rfl rfl
    refine h_move S CL hw le (subR rfl) rfl rfl rfl trivial fun a S CL => h_extract S CL hw le (subR rfl) rfl rfl rfl rfl rfl trivial fun a S CL => h_extract S CL hw le (subR rfl) rfl rfl rfl rfl rfl trivial fun a S CL => h_run' S rfl trivial (s_store S rfl rfl rfl (s' := [.w4 t5.1]) .h T26 rfl rfl fun w S => CL.bk hw S (.c2 (.c2 .n)) le fun hw => h_run' S rfl trivial (s_store S rfl rfl rfl (s' := [.w4 t5.2]) .h1 T26 rfl rfl fun w S => ?_))
    refine h_back ⟨fun h => (nomatch h), ?_⟩
    refine h_done ?_; clear CL hw le
    refine x_thenN ?_
    exact j1 _ g12 g13 g2 g1 t5.2 t5.1 a w (S.sb rfl (.c1 (.c0 (.c0 (.c0 .n))))) h2
   exact h_nil
  refine h_runO S rfl trivial ?_ ?_
  ·refine s_alloc S Z26 rfl ⟨rfl, trivial⟩ rfl fun g13 a w S => CL.bk hw S (.c2 (.c2 .n)) le fun hw => h_run' S rfl trivial (s_callP S _ N26 rfl rfl (word_Of.ok x1.2.2.2.2.2.2.1 t4 et4 _ _) fun ch3 m le1 a w S => ?_)
   replace le := le.trans le1
   refine CL.bk hw S (.c2 (.c2 .n)) le fun hw => h_run' S rfl trivial (s_callP S _ N25 rfl rfl (wide_Product.ok k t4 x1.2.2.2.2.2.2.2.1 t5 et5 _ _) fun ch4 m le1 a w S => ?_)
   replace le := le.trans le1
   refine CL.bk hw S (.c2 (.c2 .n)) le fun hw => ?_
   replace CL := CL.add (t := 13) (d := (.tup [(true, [.w4 t5.1]), (true, [.w4 t5.2])])) S rfl rfl
   refine h_move S CL hw le (subR rfl) rfl rfl rfl trivial fun a S CL => h_extract S CL hw le (subR rfl) rfl rfl rfl rfl rfl trivial fun a S CL => h_extract S CL hw le (subR rfl) rfl rfl rfl rfl rfl trivial fun a S CL => h_run' S rfl trivial (s_store S rfl rfl rfl (s' := [.w4 t5.1]) .h T26 rfl rfl fun w S => CL.bk hw S (.c2 (.c2 .n)) le fun hw => h_run' S rfl trivial (s_store S rfl rfl rfl (s' := [.w4 t5.2]) .h1 T26 rfl rfl fun w S => ?_))
   refine h_back ⟨fun h => (nomatch h), ?_⟩
   refine h_done ?_; clear CL hw le
   refine x_thenN ?_
   exact j1 _ g12 g13 g2 g1 t5.2 t5.1 a w (S.sb rfl (.c1 (.c0 (.c0 (.c0 .n))))) h2
  exact h_nil
 exact h_nil
abbrev word_Sub.Ty : Type := (List Int) → (List Int) → Option ((List Int))
def word_Sub.Ctr (s : word_Sub.Ty) : Prop := ∀ (x1 : List Int) (x2 : List Int) (r : (List Int)), Ct (C := Unit) Try.prog 31 (s x1 x2 = some r) [] [(.a4 x1), (.a4 x2)] (fun _ => (.a4 r)) fun _ => []
def word_Sub.j1 (y1 : List Int) : Option ((List Int)) := some y1
def word_Sub.b1 (x1 : List Int) (x2 : List Int) (rec1 : Int → Int → (List Int) → Option ((List Int))) (y5 : Int) (y6 : Int) (y7 : List Int) : Option ((List Int)) := if (decide (y5 < 4)) = true then (if (0 : Int) ≤ y5 ∧ y5 < 4 then (if (0 : Int) ≤ (rd x1 y5) ∧ ((0 : Int) ≤ (rd x2 y5) ∧ ((rd x2 y5) : Int) < 18446744073709551616) ∧ (0 : Int) ≤ y6 ∧ (y6 : Int) ≤ 1 then (rec1 (wr .i64 (y5 + 1)) (if (rd x1 y5) < (rd x2 y5) + y6 then 1 else 0) (y7.set (Int.toNat y5) (((rd x1 y5) - (rd x2 y5) - y6) % 18446744073709551616))) else none) else none) else (word_Sub.j1 y7)
def word_Sub.l1 (x1 : List Int) (x2 : List Int) : Nat → Int → Int → (List Int) → Option ((List Int))
  | 0, _, _, _ => none
  | q + 1, y5, y6, y7 => word_Sub.b1 x1 x2 (word_Sub.l1 x1 x2 q) y5 y6 y7
def word_Sub.f (k : Nat) (x1 : List Int) (x2 : List Int) : Option ((List Int)) := word_Sub.l1 x1 x2 k 0 0 [0, 0, 0, 0]
theorem word_Sub.ok (k : Nat) : word_Sub.Ctr (word_Sub.f k) := by
 intro x1 x2 r h0 mi w0 ok hm
 delta word_Sub.f at h0
 refine c_enterZ (n := 30) ok hm func31 rfl rfl rfl fun b0 hb a S => c_region (s_box S rfl rfl rfl fun g1 a w S => s_box S rfl rfl rfl fun g2 a w S => s_alloc S Z26 rfl ⟨rfl, trivial⟩ rfl fun g3 a w S => c_end (c_region (s_alloc S Z26 rfl ⟨rfl, trivial⟩ rfl fun g4 a w S => c_end (c_region (s_assign S rfl rfl fun a S => c_end (wp_seq_k fun K1 hK1 => ?_))))))
 have j1 : ∀ m g17 g18 y1 a w, St 30 m b0 [(5, (.p g17)), (4, (.p g18))] [Res.cells g17 26 [.w4 y1], Res.cells g18 26 [.w4 [0, 0, 0, 0]]] a w → word_Sub.j1 y1 = some r → K1 a w := by
  intro m g17 g18 y1 a w S h0
  delta word_Sub.j1 at h0
  refine hK1 a w (c_region (s_loada S rfl .h T26 (s' := [.w4 y1]) rfl rfl fun a S => s_store S rfl rfl rfl (s' := [.w4 y1]) .h1 T26 rfl rfl fun w S => c_end (wp_ret ?_)))
  obtain rfl := Option.some.inj h0
  exact b_ret1 (d := (.a4 y1)) S rfl (resD_cell rfl .h1 T26 rfl rfl) (S.rt hb)
 refine c_region (s_move S rfl rfl fun a S => c_end (wp_block ?_))
 refine c_loop (fun q1 a w => ∃ m y5 y6 g27 g28 g29 g30 y7, St 30 m b0 [(10, (.i y5)), (6, (.w y6)), (5, (.p g27)), (4, (.p g28)), (3, (.p g29)), (2, (.p g30))] [Res.cells g27 26 [.w4 y7], Res.cells g28 26 [.w4 [0, 0, 0, 0]], Res.cells g29 26 [.w4 x2], Res.cells g30 26 [.w4 x1]] a w ∧ word_Sub.l1 x1 x2 q1 y5 y6 y7 = some r) ?_ ?_ (k := k) ⟨_, 0, 0, g4, g3, g2, g1, [0, 0, 0, 0], (S.sb rfl (.c0 (.c0 (.c0 (.c0 .n))))), h0⟩
 ·rintro a w ⟨m, y5, y6, g27, g28, g29, g30, y7, S, h0⟩
  exact (nomatch (show (none : Option ((List Int))) = some r from h0))
 ·clear S h0
  rintro q1 a w ⟨m, y5, y6, g27, g28, g29, g30, y7, S, h0⟩
  replace h0 : word_Sub.b1 x1 x2 (word_Sub.l1 x1 x2 q1) y5 y6 y7 = some r := h0
  delta word_Sub.b1 at h0
  refine c_region (s_bin S rfl rfl rfl rfl fun a S => c_end (wp_seq ?_))
  rcases ite_of h0 with ⟨c1, h1⟩ | ⟨c1, h1⟩
  ·refine c_condT S rfl c1 (wp_skip (x_thenN (wp_seq (wp_block (c_region (s_move S rfl rfl fun a S => s_assign S rfl rfl fun a S => c_end ?_))))))
   refine wp_seq (c_heldS S (.take 0 (.take 1 (.take 2 (.take 3 (.take 4 (.take 5 (.take 6 (.alts (.run 7 true (.take 8 (.take 9 (.take 10 (.take 11 (.take 12 .done))))) .nil))))))))) 13 [Res.cells g27 26 [.w4 y7], Res.cells g28 26 [.w4 [0, 0, 0, 0]], Res.cells g29 26 [.w4 x2], Res.cells g30 26 [.w4 x1]] (.c0 (.c0 (.c0 (.c0 .n)))) ⟨Res.stay_cells, Res.stay_cells, Res.stay_cells, Res.stay_cells, trivial⟩ [(7, (.i y5)), (6, (.w y6)), (3, (.p g29)), (2, (.p g30))] (subR rfl) (by kernel_rfl) (by kernel_rfl) ?_); clear S; intro w S CL hw le
   refine h_move S CL hw le (subR rfl) rfl rfl rfl trivial fun a S CL => ?_
   obtain ⟨c2, h2⟩ := chk_of h1; clear h1
   refine h_iaddr S CL hw le (subR rfl) rfl rfl underlying26 T24 c2.1 c2.2 (mul1 _ _) rfl rfl trivial fun a S CL => h_loadi S CL hw le (subR rfl) (i := y5) rfl .h3 T24 .h rfl c2.1 c2.2 rfl rfl trivial fun a S CL => h_move S CL hw le (subR rfl) rfl rfl rfl trivial fun a S CL => h_iaddr S CL hw le (subR rfl) rfl rfl underlying26 T24 c2.1 c2.2 (mul1 _ _) rfl rfl trivial fun a S CL => h_loadi S CL hw le (subR rfl) (i := y5) rfl .h2 T24 .h rfl c2.1 c2.2 rfl rfl trivial fun a S CL => h_move S CL hw le (subR rfl) rfl rfl rfl trivial fun a S CL => h_run' S rfl trivial ?_
   obtain ⟨c3, h3⟩ := chk_of h2; clear h2
   refine s_extSub S X46 rfl rfl rfl c3 rfl fun a S => CL.bk hw S (.c0 (.c0 (.c0 (.c0 .n)))) le fun hw => ?_
   replace CL := CL.add (t := 21) (d := (.tup [(false, [.w (((rd x1 y5) - (rd x2 y5) - y6) % 18446744073709551616)]), (false, [.w (if (rd x1 y5) < (rd x2 y5) + y6 then 1 else 0)])])) S rfl rfl
   refine h_move S CL hw le (subR rfl) rfl rfl rfl trivial fun a S CL => h_extract S CL hw le (subR rfl) rfl rfl rfl rfl rfl trivial fun a S CL => h_extract S CL hw le (subR rfl) rfl rfl rfl rfl rfl trivial fun a S CL => h_assign S CL hw le (subR rfl) rfl rfl rfl trivial fun a S CL => h_assign S CL hw le (subR rfl) rfl rfl rfl trivial fun a S CL => ?_
   refine h_done ?_; clear CL hw le
   refine x_thenN (c_region (s_move S rfl rfl fun a S => s_move S rfl rfl fun a S => s_iaddr S rfl rfl underlying26 T24 c2.1 c2.2 (mul1 _ _) rfl fun a S => s_storei S (i := y5) rfl rfl .h T24 .h rfl c2.1 c2.2 fun w S => c_end (c_region' (s_move S rfl rfl fun a S => s_assign S rfl rfl fun a S => c_end' (x_blockN (x_thenN (c_region' (s_bin S rfl rfl rfl rfl fun a S => s_move S rfl rfl fun a S => c_end' (x_thenN ?_)))))))))
   exact ⟨_, (wr .i64 (y5 + 1)), (if (rd x1 y5) < (rd x2 y5) + y6 then 1 else 0), g27, g28, g29, g30, (y7.set (Int.toNat y5) (((rd x1 y5) - (rd x2 y5) - y6) % 18446744073709551616)), (S.sb rfl (.c0 (.c0 (.c0 (.c0 .n))))), h3⟩
  ·refine c_condF S rfl c1 (wp_exit (x_thenX (x_thenX (x_blockX (x_thenN ?_)))))
   exact j1 _ g27 g28 y7 a w (S.sb rfl (.c0 (.c0 .n))) h1
abbrev tx_Price.Ty : Type := (L30) → (List Int) → Option ((List Int) × Bool)
def tx_Price.Ctr (s : tx_Price.Ty) : Prop := ∀ (x1 : L30) (x2 : List Int) (ch_0_0 : Option Addr) (ch_0_1 : Nat) (ch_0_2 : Option Addr) (ch_0_3 : Nat) (r : (List Int) × Bool), Ct (C := Unit) Try.prog 12 (s x1 x2 = some r) [] [(.agg (Y30.segs x1 ((), (), (), (), (), (ch_0_0, ch_0_1), (), (), (), (ch_0_2, ch_0_3)))), (.a4 x2)] (fun _ => (.tup [(true, [.w4 r.1]), (false, [.b r.2])])) fun _ => []
def tx_Price.f (k : Nat) (x1 : L30) (x2 : List Int) : Option ((List Int) × Bool) := (word_Compare.f k x1.2.2.2.2.2.2.2.1 x2).bind fun t1 => (if (decide (t1 < 0)) = true then (some ([0, 0, 0, 0], false)) else ((word_Sub.f k x1.2.2.2.2.2.2.2.1 x2).bind fun t2 => ((word_Compare.f k t2 x1.2.2.2.2.2.2.2.2.1).bind fun t3 => (if (decide (t3 < 0)) = true then (some (x1.2.2.2.2.2.2.2.1, true)) else ((word_Add.f k x2 x1.2.2.2.2.2.2.2.2.1).bind fun t4 => (some (t4, true)))))))
theorem tx_Price.ok (k : Nat) : tx_Price.Ctr (tx_Price.f k) := by
 intro x1 x2 ch_0_0 ch_0_1 ch_0_2 ch_0_3 r h0 mi w0 ok hm
 delta tx_Price.f at h0
 refine c_enterZ (n := 28) ok hm func12 rfl rfl rfl fun b0 hb a S => c_region (s_box S rfl rfl rfl fun g1 a w S => s_box S rfl rfl rfl fun g2 a w S => s_alloc S Z26 rfl ⟨rfl, trivial⟩ rfl fun g3 a w S => s_assign S rfl rfl fun a S => c_end (wp_seq (c_region (s_fieldAddr S rfl I30_7 T26 (by decide) rfl rfl fun a S => s_loada S rfl .h2 T26 (s' := [.w4 x1.2.2.2.2.2.2.2.1]) rfl rfl fun a S => s_loada S rfl .h1 T26 (s' := [.w4 x2]) rfl rfl fun a S => bindX h0 fun t1 et1 h1 => s_callP S _ N28 rfl rfl (word_Compare.ok k x1.2.2.2.2.2.2.2.1 x2 t1 et1 _ _) fun ch1 m le1 a w S => s_bin S rfl rfl rfl rfl fun a S => c_end ?_))))
 rcases ite_of h1 with ⟨c1, h2⟩ | ⟨c1, h2⟩
 ·refine c_condT S rfl c1 (c_region (s_build S (ds := []) (dv := (.a4 [0, 0, 0, 0])) rfl (fun _ => by kernel_rfl) ⟨rfl, trivial⟩ rfl fun a S => s_store S rfl rfl rfl (s' := [.w4 [0, 0, 0, 0]]) .h T26 rfl rfl fun w S => s_assign S rfl rfl fun a S => c_end (wp_ret (x_thenR ?_))))
  obtain rfl := Option.some.inj h2
  exact b_ret2 (d1 := (.a4 [0, 0, 0, 0])) (d2 := (.b false)) S rfl (resD_cell rfl .h T26 rfl rfl) rfl fun ok1 ok2 => S.retX (Hx := []) hb _ _ (() : Unit) .nil ⟨ok1, ⟨ok2, trivial⟩, trivial⟩
 ·refine c_condF S rfl c1 (wp_skip (x_thenN (wp_seq (c_region (s_fieldAddr S rfl I30_7 T26 (by decide) rfl rfl fun a S => s_loada S rfl .h2 T26 (s' := [.w4 x1.2.2.2.2.2.2.2.1]) rfl rfl fun a S => s_loada S rfl .h1 T26 (s' := [.w4 x2]) rfl rfl fun a S => bindX h2 fun t2 et2 h3 => s_callP S _ N31 rfl rfl (word_Sub.ok k x1.2.2.2.2.2.2.2.1 x2 t2 et2 _ _) fun ch2 m le1 a w S => s_alloc S Z26 rfl ⟨rfl, trivial⟩ rfl fun g4 a w S => s_store S rfl rfl rfl (s' := [.w4 t2]) .h T26 rfl rfl fun w S => c_end (c_region (s_loada S rfl .h T26 (s' := [.w4 t2]) rfl rfl fun a S => s_fieldAddr S rfl I30_8 T26 (by decide) rfl rfl fun a S => s_loada S rfl .h3 T26 (s' := [.w4 x1.2.2.2.2.2.2.2.2.1]) rfl rfl fun a S => bindX h3 fun t3 et3 h4 => s_callP S _ N28 rfl rfl (word_Compare.ok k t2 x1.2.2.2.2.2.2.2.2.1 t3 et3 _ _) fun ch3 m le1 a w S => s_bin S rfl rfl rfl rfl fun a S => c_end ?_)))))))
  rcases ite_of h4 with ⟨c2, h5⟩ | ⟨c2, h5⟩
  ·refine c_condT S rfl c2 (c_region (s_fieldAddr S rfl I30_7 T26 (by decide) rfl rfl fun a S => s_loada S rfl .h3 T26 (s' := [.w4 x1.2.2.2.2.2.2.2.1]) rfl rfl fun a S => s_store S rfl rfl rfl (s' := [.w4 x1.2.2.2.2.2.2.2.1]) .h1 T26 rfl rfl fun w S => s_assign S rfl rfl fun a S => c_end (wp_ret (x_thenR ?_))))
   obtain rfl := Option.some.inj h5
   exact b_ret2 (d1 := (.a4 x1.2.2.2.2.2.2.2.1)) (d2 := (.b true)) S rfl (resD_cell rfl .h1 T26 rfl rfl) rfl fun ok1 ok2 => S.retX (Hx := []) hb _ _ (() : Unit) .nil ⟨ok1, ⟨ok2, trivial⟩, trivial⟩
  ·refine c_condF S rfl c2 (wp_skip (x_thenN (c_region (s_loada S rfl .h2 T26 (s' := [.w4 x2]) rfl rfl fun a S => s_fieldAddr S rfl I30_8 T26 (by decide) rfl rfl fun a S => s_loada S rfl .h3 T26 (s' := [.w4 x1.2.2.2.2.2.2.2.2.1]) rfl rfl fun a S => bindX h5 fun t4 et4 h6 => s_callP S _ N27 rfl rfl (word_Add.ok k x2 x1.2.2.2.2.2.2.2.2.1 t4 et4 _ _) fun ch4 m le1 a w S => s_store S rfl rfl rfl (s' := [.w4 t4]) .h1 T26 rfl rfl fun w S => s_assign S rfl rfl fun a S => c_end (wp_ret ?_)))))
   obtain rfl := Option.some.inj h6
   exact b_ret2 (d1 := (.a4 t4)) (d2 := (.b true)) S rfl (resD_cell rfl .h1 T26 rfl rfl) rfl fun ok1 ok2 => S.retX (Hx := []) hb _ _ (() : Unit) .nil ⟨ok1, ⟨ok2, trivial⟩, trivial⟩
abbrev smithylaw19_fixed.Ty : Type := Option Bool
def smithylaw19_fixed.Ctr (s : smithylaw19_fixed.Ty) : Prop := ∀ (r : Bool), Ct (C := Unit) Try.prog 6 (s = some r) [] [] (fun _ => (.b r)) fun _ => []
def smithylaw19_fixed.f (k : Nat) : Option Bool := (tx_Cost.f k ([0, 0, 0, 0, 0, 0, 0, 0, 0, 0, 0, 0, 0, 0, 0, 0, 0, 0, 0, 0], [0, 0, 0, 0, 0, 0, 0, 0, 0, 0, 0, 0, 0, 0, 0, 0, 0, 0, 0, 0], false, 0, [5, 0, 0, 0], ([] : List Int), 21000, [10, 0, 0, 0], [2, 0, 0, 0], ([] : List ((List Int) × (List (List Int)))))).bind fun t1 => ((tx_Price.f k ([0, 0, 0, 0, 0, 0, 0, 0, 0, 0, 0, 0, 0, 0, 0, 0, 0, 0, 0, 0], [0, 0, 0, 0, 0, 0, 0, 0, 0, 0, 0, 0, 0, 0, 0, 0, 0, 0, 0, 0], false, 0, [5, 0, 0, 0], ([] : List Int), 21000, [10, 0, 0, 0], [2, 0, 0, 0], ([] : List ((List Int) × (List (List Int))))) [7, 0, 0, 0]).bind fun t2 => ((tx_Price.f k ([0, 0, 0, 0, 0, 0, 0, 0, 0, 0, 0, 0, 0, 0, 0, 0, 0, 0, 0, 0], [0, 0, 0, 0, 0, 0, 0, 0, 0, 0, 0, 0, 0, 0, 0, 0, 0, 0, 0, 0], false, 0, [5, 0, 0, 0], ([] : List Int), 21000, [10, 0, 0, 0], [2, 0, 0, 0], ([] : List ((List Int) × (List (List Int))))) [9, 0, 0, 0]).bind fun t3 => ((tx_Price.f k ([0, 0, 0, 0, 0, 0, 0, 0, 0, 0, 0, 0, 0, 0, 0, 0, 0, 0, 0, 0], [0, 0, 0, 0, 0, 0, 0, 0, 0, 0, 0, 0, 0, 0, 0, 0, 0, 0, 0, 0], false, 0, [5, 0, 0, 0], ([] : List Int), 21000, [10, 0, 0, 0], [2, 0, 0, 0], ([] : List ((List Int) × (List (List Int))))) [11, 0, 0, 0]).bind fun t4 => (if t1.2 = true then (if (decide (t1.1 = [210005, 0, 0, 0])) = true then (if t2.2 = true then (if (decide (t2.1 = [9, 0, 0, 0])) = true then (if t3.2 = true then (if (decide (t3.1 = [10, 0, 0, 0])) = true then (some (!t4.2)) else (some false)) else (some false)) else (some false)) else (some false)) else (some false)) else (some false)))))
theorem smithylaw19_fixed.ok (k : Nat) : smithylaw19_fixed.Ctr (smithylaw19_fixed.f k) := by
 intro r h0 mi w0 ok hm
 delta smithylaw19_fixed.f at h0
 refine c_enterZ (n := 63) ok hm func6 rfl rfl rfl fun b0 hb a S => c_region (s_assign S rfl rfl fun a S => c_end (c_region (s_build S (ds := [(0, (.w 10))]) (dv := (.a4 [10, 0, 0, 0])) rfl (fun _ => by kernel_rfl) ⟨rfl, trivial⟩ rfl fun a S => s_build S (ds := [(0, (.w 2))]) (dv := (.a4 [2, 0, 0, 0])) rfl (fun _ => by kernel_rfl) ⟨rfl, trivial⟩ rfl fun a S => s_build S (ds := [(0, (.w 5))]) (dv := (.a4 [5, 0, 0, 0])) rfl (fun _ => by kernel_rfl) ⟨rfl, trivial⟩ rfl fun a S => s_bldS S (ds := [(6, (.w 21000)), (7, (.a4 [10, 0, 0, 0])), (8, (.a4 [2, 0, 0, 0])), (4, (.a4 [5, 0, 0, 0]))]) (zs := [.b20 z20, .b20 z20, .b false, .w 0, .w4 [0, 0, 0, 0], .s none 0 0, .w 0, .w4 [0, 0, 0, 0], .w4 [0, 0, 0, 0], .s none 0 0]) (s' := [.b20 z20, .b20 z20, .b false, .w 0, .w4 [5, 0, 0, 0], .s none 0 0, .w 21000, .w4 [10, 0, 0, 0], .w4 [2, 0, 0, 0], .s none 0 0]) rfl underlying30 P30 Z30 ⟨rfl, rfl, rfl, rfl, rfl, rfl, rfl, rfl, rfl, rfl, trivial⟩ rfl rfl fun a S => s_alloc S Z30 rfl ⟨rfl, rfl, rfl, rfl, rfl, rfl, rfl, rfl, rfl, rfl, trivial⟩ rfl fun g1 a w S => s_store S rfl rfl rfl (s' := [.b20 z20, .b20 z20, .b false, .w 0, .w4 [5, 0, 0, 0], .s none 0 0, .w 21000, .w4 [10, 0, 0, 0], .w4 [2, 0, 0, 0], .s none 0 0]) .h T30 rfl rfl fun w S => c_end (c_region (s_loada S rfl .h T30 (s' := [.b20 z20, .b20 z20, .b false, .w 0, .w4 [5, 0, 0, 0], .s none 0 0, .w 21000, .w4 [10, 0, 0, 0], .w4 [2, 0, 0, 0], .s none 0 0]) rfl rfl fun a S => ?_)))))
 replace S := S.slot (u := 15) (d' := (.agg [.b20 z20, .b20 z20, .b false, .w 0, .w4 [5, 0, 0, 0], .q yb none 0 ([] : List Int), .w 21000, .w4 [10, 0, 0, 0], .w4 [2, 0, 0, 0], .q Y63 none 0 ([] : List ((List Int) × (List (List Int))))])) rfl rfl (by have h := (S.get 15 (.agg [.b20 z20, .b20 z20, .b false, .w 0, .w4 [5, 0, 0, 0], .s none 0 0, .w 21000, .w4 [10, 0, 0, 0], .w4 [2, 0, 0, 0], .s none 0 0]) rfl).2; exact ⟨h.1, h.2.1, h.2.2.1, h.2.2.2.1, h.2.2.2.2.1, ok_nil, h.2.2.2.2.2.2.1, h.2.2.2.2.2.2.2.1, h.2.2.2.2.2.2.2.2.1, ok_nil, trivial⟩)
 refine bindX h0 fun t1 et1 h1 => s_callP S _ N7 rfl rfl (tx_Cost.ok k (z20, z20, false, 0, [5, 0, 0, 0], ([] : List Int), 21000, [10, 0, 0, 0], [2, 0, 0, 0], ([] : List ((List Int) × (List (List Int))))) none 0 none 0 t1 et1 _ _) fun ch1 m le1 a w S => s_move S rfl rfl fun a S => s_extract S rfl rfl rfl rfl fun a S => s_extract S rfl rfl rfl rfl fun a S => s_alloc S Z26 rfl ⟨rfl, trivial⟩ rfl fun g2 a w S => s_store S rfl rfl rfl (s' := [.w4 t1.1]) .h T26 rfl rfl fun w S => s_assign S rfl rfl fun a S => c_end (c_region (s_loada S rfl .h1 T30 (s' := [.b20 z20, .b20 z20, .b false, .w 0, .w4 [5, 0, 0, 0], .s none 0 0, .w 21000, .w4 [10, 0, 0, 0], .w4 [2, 0, 0, 0], .s none 0 0]) rfl rfl fun a S => s_build S (ds := [(0, (.w 7))]) (dv := (.a4 [7, 0, 0, 0])) rfl (fun _ => by kernel_rfl) ⟨rfl, trivial⟩ rfl fun a S => ?_))
 replace S := S.slot (u := 20) (d' := (.agg [.b20 z20, .b20 z20, .b false, .w 0, .w4 [5, 0, 0, 0], .q yb none 0 ([] : List Int), .w 21000, .w4 [10, 0, 0, 0], .w4 [2, 0, 0, 0], .q Y63 none 0 ([] : List ((List Int) × (List (List Int))))])) rfl rfl (by have h := (S.get 20 (.agg [.b20 z20, .b20 z20, .b false, .w 0, .w4 [5, 0, 0, 0], .s none 0 0, .w 21000, .w4 [10, 0, 0, 0], .w4 [2, 0, 0, 0], .s none 0 0]) rfl).2; exact ⟨h.1, h.2.1, h.2.2.1, h.2.2.2.1, h.2.2.2.2.1, ok_nil, h.2.2.2.2.2.2.1, h.2.2.2.2.2.2.2.1, h.2.2.2.2.2.2.2.2.1, ok_nil, trivial⟩)
 refine bindX h1 fun t2 et2 h2 => s_callP S _ N12 rfl rfl (tx_Price.ok k (z20, z20, false, 0, [5, 0, 0, 0], ([] : List Int), 21000, [10, 0, 0, 0], [2, 0, 0, 0], ([] : List ((List Int) × (List (List Int))))) [7, 0, 0, 0] none 0 none 0 t2 et2 _ _) fun ch2 m le1 a w S => s_move S rfl rfl fun a S => s_extract S rfl rfl rfl rfl fun a S => s_extract S rfl rfl rfl rfl fun a S => s_alloc S Z26 rfl ⟨rfl, trivial⟩ rfl fun g3 a w S => s_store S rfl rfl rfl (s' := [.w4 t2.1]) .h T26 rfl rfl fun w S => s_assign S rfl rfl fun a S => c_end (c_region (s_loada S rfl .h2 T30 (s' := [.b20 z20, .b20 z20, .b false, .w 0, .w4 [5, 0, 0, 0], .s none 0 0, .w 21000, .w4 [10, 0, 0, 0], .w4 [2, 0, 0, 0], .s none 0 0]) rfl rfl fun a S => s_build S (ds := [(0, (.w 9))]) (dv := (.a4 [9, 0, 0, 0])) rfl (fun _ => by kernel_rfl) ⟨rfl, trivial⟩ rfl fun a S => ?_))
 replace S := S.slot (u := 26) (d' := (.agg [.b20 z20, .b20 z20, .b false, .w 0, .w4 [5, 0, 0, 0], .q yb none 0 ([] : List Int), .w 21000, .w4 [10, 0, 0, 0], .w4 [2, 0, 0, 0], .q Y63 none 0 ([] : List ((List Int) × (List (List Int))))])) rfl rfl (by have h := (S.get 26 (.agg [.b20 z20, .b20 z20, .b false, .w 0, .w4 [5, 0, 0, 0], .s none 0 0, .w 21000, .w4 [10, 0, 0, 0], .w4 [2, 0, 0, 0], .s none 0 0]) rfl).2; exact ⟨h.1, h.2.1, h.2.2.1, h.2.2.2.1, h.2.2.2.2.1, ok_nil, h.2.2.2.2.2.2.1, h.2.2.2.2.2.2.2.1, h.2.2.2.2.2.2.2.2.1, ok_nil, trivial⟩)
 refine bindX h2 fun t3 et3 h3 => s_callP S _ N12 rfl rfl (tx_Price.ok k (z20, z20, false, 0, [5, 0, 0, 0], ([] : List Int), 21000, [10, 0, 0, 0], [2, 0, 0, 0], ([] : List ((List Int) × (List (List Int))))) [9, 0, 0, 0] none 0 none 0 t3 et3 _ _) fun ch3 m le1 a w S => s_move S rfl rfl fun a S => s_extract S rfl rfl rfl rfl fun a S => s_extract S rfl rfl rfl rfl fun a S => s_alloc S Z26 rfl ⟨rfl, trivial⟩ rfl fun g4 a w S => s_store S rfl rfl rfl (s' := [.w4 t3.1]) .h T26 rfl rfl fun w S => s_assign S rfl rfl fun a S => c_end (c_region (s_loada S rfl .h3 T30 (s' := [.b20 z20, .b20 z20, .b false, .w 0, .w4 [5, 0, 0, 0], .s none 0 0, .w 21000, .w4 [10, 0, 0, 0], .w4 [2, 0, 0, 0], .s none 0 0]) rfl rfl fun a S => s_build S (ds := [(0, (.w 11))]) (dv := (.a4 [11, 0, 0, 0])) rfl (fun _ => by kernel_rfl) ⟨rfl, trivial⟩ rfl fun a S => ?_))
 replace S := S.slot (u := 32) (d' := (.agg [.b20 z20, .b20 z20, .b false, .w 0, .w4 [5, 0, 0, 0], .q yb none 0 ([] : List Int), .w 21000, .w4 [10, 0, 0, 0], .w4 [2, 0, 0, 0], .q Y63 none 0 ([] : List ((List Int) × (List (List Int))))])) rfl rfl (by have h := (S.get 32 (.agg [.b20 z20, .b20 z20, .b false, .w 0, .w4 [5, 0, 0, 0], .s none 0 0, .w 21000, .w4 [10, 0, 0, 0], .w4 [2, 0, 0, 0], .s none 0 0]) rfl).2; exact ⟨h.1, h.2.1, h.2.2.1, h.2.2.2.1, h.2.2.2.2.1, ok_nil, h.2.2.2.2.2.2.1, h.2.2.2.2.2.2.2.1, h.2.2.2.2.2.2.2.2.1, ok_nil, trivial⟩)
 refine bindX h3 fun t4 et4 h4 => s_callP S _ N12 rfl rfl (tx_Price.ok k (z20, z20, false, 0, [5, 0, 0, 0], ([] : List Int), 21000, [10, 0, 0, 0], [2, 0, 0, 0], ([] : List ((List Int) × (List (List Int))))) [11, 0, 0, 0] none 0 none 0 t4 et4 _ _) fun ch4 m le1 a w S => s_move S rfl rfl fun a S => s_extract S rfl rfl rfl rfl fun a S => s_extract S rfl rfl rfl rfl fun a S => s_alloc S Z26 rfl ⟨rfl, trivial⟩ rfl fun g5 a w S => s_store S rfl rfl rfl (s' := [.w4 t4.1]) .h T26 rfl rfl fun w S => s_assign S rfl rfl fun a S => c_end (c_region (s_move S rfl rfl fun a S => s_move S rfl rfl fun a S => ?_))
 rcases ite_of h4 with ⟨c1, h5⟩ | ⟨c1, h5⟩
 ·refine s_gT S (b := t1.2) rfl rfl c1 (s_loada S rfl .h3 T26 (s' := [.w4 t1.1]) rfl rfl fun a S => s_gT S (b := t1.2) rfl rfl c1 (s_build S (ds := [(0, (.w 210005))]) (dv := (.a4 [210005, 0, 0, 0])) rfl (fun _ => by kernel_rfl) ⟨rfl, trivial⟩ rfl fun a S => s_gT S (b := t1.2) rfl rfl c1 (s_eqa S rfl rfl underlying26 underlying24 T24 Q26 rfl fun a S => s_pick S (b := true) (hc_of rfl c1) rfl rfl fun a S => s_move S rfl rfl fun a S => ?_)))
  rcases ite_of h5 with ⟨c2, h6⟩ | ⟨c2, h6⟩
  ·refine s_gT S (b := (decide (t1.1 = [210005, 0, 0, 0]))) rfl rfl c2 (s_move S rfl rfl fun a S => s_pick S (b := true) (hc_of rfl c2) rfl rfl fun a S => s_move S rfl rfl fun a S => ?_)
   rcases ite_of h6 with ⟨c3, h7⟩ | ⟨c3, h7⟩
   ·refine s_gT S (b := t2.2) rfl rfl c3 (s_loada S rfl .h2 T26 (s' := [.w4 t2.1]) rfl rfl fun a S => s_gT S (b := t2.2) rfl rfl c3 (s_build S (ds := [(0, (.w 9))]) (dv := (.a4 [9, 0, 0, 0])) rfl (fun _ => by kernel_rfl) ⟨rfl, trivial⟩ rfl fun a S => s_gT S (b := t2.2) rfl rfl c3 (s_eqa S rfl rfl underlying26 underlying24 T24 Q26 rfl fun a S => s_pick S (b := true) (hc_of rfl c3) rfl rfl fun a S => s_move S rfl rfl fun a S => ?_)))
    rcases ite_of h7 with ⟨c4, h8⟩ | ⟨c4, h8⟩
    ·refine s_gT S (b := (decide (t2.1 = [9, 0, 0, 0]))) rfl rfl c4 (s_move S rfl rfl fun a S => s_pick S (b := true) (hc_of rfl c4) rfl rfl fun a S => s_move S rfl rfl fun a S => ?_)
     rcases ite_of h8 with ⟨c5, h9⟩ | ⟨c5, h9⟩
     ·refine s_gT S (b := t3.2) rfl rfl c5 (s_loada S rfl .h1 T26 (s' := [.w4 t3.1]) rfl rfl fun a S => s_gT S (b := t3.2) rfl rfl c5 (s_build S (ds := [(0, (.w 10))]) (dv := (.a4 [10, 0, 0, 0])) rfl (fun _ => by kernel_rfl) ⟨rfl, trivial⟩ rfl fun a S => s_gT S (b := t3.2) rfl rfl c5 (s_eqa S rfl rfl underlying26 underlying24 T24 Q26 rfl fun a S => s_pick S (b := true) (hc_of rfl c5) rfl rfl fun a S => s_move S rfl rfl fun a S => ?_)))
      rcases ite_of h9 with ⟨c6, h10⟩ | ⟨c6, h10⟩
      ·refine s_gT S (b := (decide (t3.1 = [10, 0, 0, 0]))) rfl rfl c6 (s_move S rfl rfl fun a S => s_gT S (b := (decide (t3.1 = [10, 0, 0, 0]))) rfl rfl c6 (s_not S rfl rfl fun a S => s_pick S (b := true) (hc_of rfl c6) rfl rfl fun a S => s_assign S rfl rfl fun a S => c_end (wp_ret ?_)))
       obtain rfl := Option.some.inj h10
       exact b_ret1 (d := (.b (!t4.2))) S rfl rfl (S.rt hb)
      ·refine s_gF S (b := (decide (t3.1 = [10, 0, 0, 0]))) rfl rfl c6 rfl fun a S => s_gF S (b := (decide (t3.1 = [10, 0, 0, 0]))) rfl rfl c6 rfl fun a S => s_pick S (b := false) (hc_of rfl c6) rfl rfl fun a S => s_assign S rfl rfl fun a S => c_end (wp_ret ?_)
       obtain rfl := Option.some.inj h10
       exact b_ret1 (d := (.b false)) S rfl rfl (S.rt hb)
     ·refine s_gF S (b := t3.2) rfl rfl c5 rfl fun a S => s_gF S (b := t3.2) rfl rfl c5 rfl fun a S => s_gF S (b := t3.2) rfl rfl c5 rfl fun a S => s_pick S (b := false) (hc_of rfl c5) rfl rfl fun a S => s_move S rfl rfl fun a S => s_gF S (b := false) rfl rfl rfl rfl fun a S => s_gF S (b := false) rfl rfl rfl rfl fun a S => s_pick S (b := false) (hc_of rfl rfl) rfl rfl fun a S => s_assign S rfl rfl fun a S => c_end (wp_ret ?_)
      obtain rfl := Option.some.inj h9
      exact b_ret1 (d := (.b false)) S rfl rfl (S.rt hb)
    ·refine s_gF S (b := (decide (t2.1 = [9, 0, 0, 0]))) rfl rfl c4 rfl fun a S => s_pick S (b := false) (hc_of rfl c4) rfl rfl fun a S => s_move S rfl rfl fun a S => s_gF S (b := false) rfl rfl rfl rfl fun a S => s_gF S (b := false) rfl rfl rfl rfl fun a S => s_gF S (b := false) rfl rfl rfl rfl fun a S => s_pick S (b := false) (hc_of rfl rfl) rfl rfl fun a S => s_move S rfl rfl fun a S => s_gF S (b := false) rfl rfl rfl rfl fun a S => s_gF S (b := false) rfl rfl rfl rfl fun a S => s_pick S (b := false) (hc_of rfl rfl) rfl rfl fun a S => s_assign S rfl rfl fun a S => c_end (wp_ret ?_)
     obtain rfl := Option.some.inj h8
     exact b_ret1 (d := (.b false)) S rfl rfl (S.rt hb)
   ·refine s_gF S (b := t2.2) rfl rfl c3 rfl fun a S => s_gF S (b := t2.2) rfl rfl c3 rfl fun a S => s_gF S (b := t2.2) rfl rfl c3 rfl fun a S => s_pick S (b := false) (hc_of rfl c3) rfl rfl fun a S => s_move S rfl rfl fun a S => s_gF S (b := false) rfl rfl rfl rfl fun a S => s_pick S (b := false) (hc_of rfl rfl) rfl rfl fun a S => s_move S rfl rfl fun a S => s_gF S (b := false) rfl rfl rfl rfl fun a S => s_gF S (b := false) rfl rfl rfl rfl fun a S => s_gF S (b := false) rfl rfl rfl rfl fun a S => s_pick S (b := false) (hc_of rfl rfl) rfl rfl fun a S => s_move S rfl rfl fun a S => s_gF S (b := false) rfl rfl rfl rfl fun a S => s_gF S (b := false) rfl rfl rfl rfl fun a S => s_pick S (b := false) (hc_of rfl rfl) rfl rfl fun a S => s_assign S rfl rfl fun a S => c_end (wp_ret ?_)
    obtain rfl := Option.some.inj h7
    exact b_ret1 (d := (.b false)) S rfl rfl (S.rt hb)
  ·refine s_gF S (b := (decide (t1.1 = [210005, 0, 0, 0]))) rfl rfl c2 rfl fun a S => s_pick S (b := false) (hc_of rfl c2) rfl rfl fun a S => s_move S rfl rfl fun a S => s_gF S (b := false) rfl rfl rfl rfl fun a S => s_gF S (b := false) rfl rfl rfl rfl fun a S => s_gF S (b := false) rfl rfl rfl rfl fun a S => s_pick S (b := false) (hc_of rfl rfl) rfl rfl fun a S => s_move S rfl rfl fun a S => s_gF S (b := false) rfl rfl rfl rfl fun a S => s_pick S (b := false) (hc_of rfl rfl) rfl rfl fun a S => s_move S rfl rfl fun a S => s_gF S (b := false) rfl rfl rfl rfl fun a S => s_gF S (b := false) rfl rfl rfl rfl fun a S => s_gF S (b := false) rfl rfl rfl rfl fun a S => s_pick S (b := false) (hc_of rfl rfl) rfl rfl fun a S => s_move S rfl rfl fun a S => s_gF S (b := false) rfl rfl rfl rfl fun a S => s_gF S (b := false) rfl rfl rfl rfl fun a S => s_pick S (b := false) (hc_of rfl rfl) rfl rfl fun a S => s_assign S rfl rfl fun a S => c_end (wp_ret ?_)
   obtain rfl := Option.some.inj h6
   exact b_ret1 (d := (.b false)) S rfl rfl (S.rt hb)
 ·refine s_gF S (b := t1.2) rfl rfl c1 rfl fun a S => s_gF S (b := t1.2) rfl rfl c1 rfl fun a S => s_gF S (b := t1.2) rfl rfl c1 rfl fun a S => s_pick S (b := false) (hc_of rfl c1) rfl rfl fun a S => s_move S rfl rfl fun a S => s_gF S (b := false) rfl rfl rfl rfl fun a S => s_pick S (b := false) (hc_of rfl rfl) rfl rfl fun a S => s_move S rfl rfl fun a S => s_gF S (b := false) rfl rfl rfl rfl fun a S => s_gF S (b := false) rfl rfl rfl rfl fun a S => s_gF S (b := false) rfl rfl rfl rfl fun a S => s_pick S (b := false) (hc_of rfl rfl) rfl rfl fun a S => s_move S rfl rfl fun a S => s_gF S (b := false) rfl rfl rfl rfl fun a S => s_pick S (b := false) (hc_of rfl rfl) rfl rfl fun a S => s_move S rfl rfl fun a S => s_gF S (b := false) rfl rfl rfl rfl fun a S => s_gF S (b := false) rfl rfl rfl rfl fun a S => s_gF S (b := false) rfl rfl rfl rfl fun a S => s_pick S (b := false) (hc_of rfl rfl) rfl rfl fun a S => s_move S rfl rfl fun a S => s_gF S (b := false) rfl rfl rfl rfl fun a S => s_gF S (b := false) rfl rfl rfl rfl fun a S => s_pick S (b := false) (hc_of rfl rfl) rfl rfl fun a S => s_assign S rfl rfl fun a S => c_end (wp_ret ?_)
  obtain rfl := Option.some.inj h5
  exact b_ret1 (d := (.b false)) S rfl rfl (S.rt hb)
abbrev slices_Clone_byte_byte.Ty : Type := (List Int) → Option ((List Int))
def slices_Clone_byte_byte.Ctr (s : slices_Clone_byte_byte.Ty) : Prop := ∀ (x1 : List Int) (ch_0_0 : Option Addr) (ch_0_1 : Nat) (r : (List Int)), Ct (C := ((Option Addr) × Nat × Nat)) Try.prog 37 (s x1 = some r) [] [(.q yb ch_0_0 ch_0_1 x1)] (fun ch => (.s ch.1 ch.2.1 ch.2.2)) fun ch => [Res.row yb 5 ch.1 ch.2.1 ch.2.2 r]
def slices_Clone_byte_byte.f (x1 : List Int) : Option ((List Int)) := if ((([] : List Int)).length + (x1).length) * 1 ≤ 140737488355328 then (some (([] : List Int) ++ x1)) else none
theorem slices_Clone_byte_byte.ok : slices_Clone_byte_byte.Ctr (slices_Clone_byte_byte.f) := by
 intro x1 ch_0_0 ch_0_1 r h0 mi w0 ok hm
 delta slices_Clone_byte_byte.f at h0
 refine c_enterZ (n := 8) ok hm func37 rfl rfl rfl fun b0 hb a S => c_region (s_assign S rfl rfl fun a S => c_end (wp_seq (c_region (s_move S rfl rfl fun a S => s_eqnil S (b := (ch_0_0).isNone) (d := (.q yb ch_0_0 ch_0_1 x1)) rfl rfl underlying27 rfl rfl rfl fun a S => c_end ?_))))
 cases hc : (ch_0_0).isNone
 ·refine c_condF S rfl hc (wp_skip (x_thenN (c_region (s_bldSl S (ty' := yb) (ds := []) (z := 0) (c0 := ()) (ys := ([] : List Int)) (cs := []) rfl underlying27 J5 Z5 rfl ⟨rfl, trivial⟩ rfl rfl rfl rfl rfl rfl fun g1 a w S => s_move S rfl rfl fun a S => ?_))))
  obtain ⟨c1, h1⟩ := chk_of h0; clear h0
  refine s_app S (k2 := ((x1).length)) (ys := x1) rfl (fun _ _ => .h) rfl rfl rfl (RdS.src (S.get 6 (.q yb ch_0_0 ch_0_1 x1) rfl).2.2.2.1 (by decide) S.frz) underlying27 J5 c1 rfl fun A1 cp1 a w S => s_assign S rfl rfl fun a S => c_end (wp_ret ?_)
  obtain rfl := Option.some.inj h1
  exact b_ret1 (d := (.s A1 (0 + ((x1).length)) cp1)) S rfl rfl fun ok => S.retX (Hx := []) hb _ _ ((A1, 0 + ((x1).length), cp1) : (Option Addr) × Nat × Nat) (.c0 .n) ok
 ·have hxs : x1 = [] := rd_nil hc (S.get 3 (.q yb ch_0_0 ch_0_1 x1) rfl).2.2.2.1
  have h1 : (some ([] : List Int)) = some r := by simpa [hxs] using h0
  clear h0
  refine c_condT S rfl hc (c_region (s_assign S rfl rfl fun a S => c_end (wp_ret (x_thenR ?_))))
  replace S := S.nilrow yb 5
  replace S := S.slot (u := 2) (d' := (.s none 0 0)) rfl rfl (S.get 2 (.s none 0 0) rfl).2
  obtain rfl := Option.some.inj h1
  exact b_ret1 (d := (.s none 0 0)) S rfl rfl fun ok => S.retX (Hx := []) hb _ _ ((none, 0, 0) : (Option Addr) × Nat × Nat) (.c0 .n) ok
abbrev api_Slot.Ty : Type := (List ((List Int) × (List Int))) → Option ((List ((List Int) × (List Int))))
def api_Slot.Ctr (s : api_Slot.Ty) : Prop := ∀ (x1 : List ((List Int) × (List Int))) (ch_0_0 : Option Addr) (ch_0_1 : Nat) (r : (List ((List Int) × (List Int)))), Ct (C := ((Option Addr) × Nat × Nat)) Try.prog 38 (s x1 = some r) [] [(.q Y89 ch_0_0 ch_0_1 x1)] (fun ch => (.s ch.1 ch.2.1 ch.2.2)) fun ch => [Res.row Y89 89 ch.1 ch.2.1 ch.2.2 r]
def api_Slot.f (x1 : List ((List Int) × (List Int))) : Option ((List ((List Int) × (List Int)))) := if ((([] : List ((List Int) × (List Int)))).length + (x1).length) * 64 ≤ 140737488355328 then (some (([] : List ((List Int) × (List Int))) ++ x1)) else none
theorem api_Slot.ok : api_Slot.Ctr (api_Slot.f) := by
 intro x1 ch_0_0 ch_0_1 r h0 mi w0 ok hm
 delta api_Slot.f at h0
 refine c_enterZ (n := 8) ok hm func38 rfl rfl rfl fun b0 hb a S => c_region (s_assign S rfl rfl fun a S => c_end (wp_seq (c_region (s_move S rfl rfl fun a S => s_eqnil S (b := (ch_0_0).isNone) (d := (.q Y89 ch_0_0 ch_0_1 x1)) rfl rfl underlying74 rfl rfl rfl fun a S => c_end ?_))))
 cases hc : (ch_0_0).isNone
 ·refine c_condF S rfl hc (wp_skip (x_thenN (c_region (s_bldSl S (ty' := Y89) (ds := []) (z := ([0, 0, 0, 0], [0, 0, 0, 0])) (c0 := ((), ())) (ys := ([] : List ((List Int) × (List Int)))) (cs := []) rfl underlying74 J89 Z89 rfl ⟨rfl, rfl, trivial⟩ rfl rfl rfl rfl rfl rfl fun g1 a w S => s_move S rfl rfl fun a S => ?_))))
  obtain ⟨c1, h1⟩ := chk_of h0; clear h0
  refine s_app S (k2 := ((x1).length)) (ys := x1) rfl (fun _ _ => .h) rfl rfl rfl (RdS.src (S.get 6 (.q Y89 ch_0_0 ch_0_1 x1) rfl).2.2.2.1 (by decide) S.frz) underlying74 J89 c1 rfl fun A1 cp1 a w S => s_assign S rfl rfl fun a S => c_end (wp_ret ?_)
  obtain rfl := Option.some.inj h1
  exact b_ret1 (d := (.s A1 (0 + ((x1).length)) cp1)) S rfl rfl fun ok => S.retX (Hx := []) hb _ _ ((A1, 0 + ((x1).length), cp1) : (Option Addr) × Nat × Nat) (.c0 .n) ok
 ·have hxs : x1 = [] := rd_nil hc (S.get 3 (.q Y89 ch_0_0 ch_0_1 x1) rfl).2.2.2.1
  have h1 : (some ([] : List ((List Int) × (List Int)))) = some r := by simpa [hxs] using h0
  clear h0
  refine c_condT S rfl hc (c_region (s_assign S rfl rfl fun a S => c_end (wp_ret (x_thenR ?_))))
  replace S := S.nilrow Y89 89
  replace S := S.slot (u := 2) (d' := (.s none 0 0)) rfl rfl (S.get 2 (.s none 0 0) rfl).2
  obtain rfl := Option.some.inj h1
  exact b_ret1 (d := (.s none 0 0)) S rfl rfl fun ok => S.retX (Hx := []) hb _ _ ((none, 0, 0) : (Option Addr) × Nat × Nat) (.c0 .n) ok
abbrev state_List.Ty : Type := (List L76) → Option (((List L76)))
def state_List.Ctr (s : state_List.Ty) : Prop := ∀ (x1 : List L76) (ch_0_0 : Option Addr) (ch_0_1 : Nat) (r : ((List L76))), Ct (C := ((Option Addr) × Nat)) Try.prog 18 (s x1 = some r) [] [(.q Y76 ch_0_0 ch_0_1 x1)] (fun ch => (.rf (.iface 79 (.agg (cellsOf [.q Y76 ch.1 ch.2 r]).toArray)) (IfR [.q Y76 ch.1 ch.2 r]))) fun _ => []
def state_List.j1 (y1 : List L76) : Option (((List L76))) := some (y1)
def state_List.b1 (x1 : List L76) (rec1 : (List L76) → Int → Option (((List L76)))) (y4 : List L76) (y5 : Int) : Option (((List L76))) := if (decide (y5 < ((x1).length : Int))) = true then (if (0 : Int) ≤ y5 ∧ y5 < ((x1).length : Int) then ((slices_Clone_byte_byte.f ((gt x1 y5).2.2.2.1)).bind fun t1 => ((api_Slot.f ((gt x1 y5).2.2.2.2)).bind fun t2 => (if ((y4).length + ([((gt x1 y5).1, (gt x1 y5).2.1, (gt x1 y5).2.2.1, t1, t2)]).length) * 112 ≤ 140737488355328 then (rec1 (y4 ++ [((gt x1 y5).1, (gt x1 y5).2.1, (gt x1 y5).2.2.1, t1, t2)]) (wr .i64 (y5 + 1))) else none))) else none) else (state_List.j1 y4)
def state_List.l1 (x1 : List L76) : Nat → (List L76) → Int → Option (((List L76)))
  | 0, _, _ => none
  | q + 1, y4, y5 => state_List.b1 x1 (state_List.l1 x1 q) y4 y5
def state_List.f (k : Nat) (x1 : List L76) : Option (((List L76))) := state_List.l1 x1 k ([] : List L76) 0
abbrev zt1 : (List Int) × Int × (List Int) × (List Int) × (List ((List Int) × (List Int))) := ([0, 0, 0, 0, 0, 0, 0, 0, 0, 0, 0, 0, 0, 0, 0, 0, 0, 0, 0, 0], 0, [0, 0, 0, 0], ([] : List Int), ([] : List ((List Int) × (List Int))))
theorem state_List.ok (k : Nat) : state_List.Ctr (state_List.f k) := by
 intro x1 ch_0_0 ch_0_1 r h0 mi w0 ok hm
 delta state_List.f at h0
 refine c_enterZ (n := 28) ok hm func18 rfl rfl rfl fun b0 hb a S => c_region (s_assign S rfl rfl fun a S => c_end (c_region (s_assign S rfl rfl fun a S => c_end (wp_seq_k fun K1 hK1 => ?_))))
 have j1 : ∀ m A1 nn1 cp1 y1 a w, St 28 m b0 [(3, (.s A1 nn1 cp1))] [Res.row Y76 76 A1 nn1 cp1 y1] a w → state_List.j1 y1 = some r → K1 a w := by
  intro m A1 nn1 cp1 y1 a w S h0
  delta state_List.j1 at h0
  refine hK1 a w (c_region (s_move S rfl rfl fun a S => s_bldS S (ds := [(0, (.s A1 nn1 cp1))]) (zs := [.s none 0 0]) (s' := [.s A1 nn1 cp1]) rfl underlying79 P79 Z79 ⟨rfl, trivial⟩ rfl rfl fun a S => ?_))
  replace S := S.rowfro .h
  obtain ⟨m, le1, S, hro⟩ := S
  replace S := S.slot (u := 26) (d' := (.agg [.q Y76 A1 cp1 y1])) rfl (by simp [D.val, pd, cellsOf, Seg.cells, hro.2.1]) (by have h := (S.get 26 (.agg [.s A1 nn1 cp1]) rfl).2; exact ⟨⟨by have := hro.2.2.1; omega, hro.2.2.2, hro.1, RdS.mono _ _ _⟩, trivial⟩)
  replace S := S.slotro (u := 25) rfl hro
  replace S := S.slotro (u := 3) rfl hro
  refine s_mkI S (s := [.q Y76 A1 cp1 y1]) (v := (.agg (cellsOf [.q Y76 A1 cp1 y1]).toArray)) rfl rfl rfl (by kernel_rfl) rfl fun a S => ?_
  refine s_assign S rfl rfl fun a S => c_end (wp_ret ?_)
  obtain rfl := Option.some.inj h0
  exact b_ret1 (d := (.rf (.iface 79 (.agg (cellsOf [.q Y76 A1 cp1 y1]).toArray)) (IfR [.q Y76 A1 cp1 y1]))) S rfl rfl fun ok => S.retX (Hx := []) hb _ _ ((A1, cp1) : (Option Addr) × Nat) .nil ok
 refine c_region (s_move S rfl rfl fun a S => s_lenS S rfl underlying44 rfl fun a S => s_move S rfl rfl fun a S => c_end (wp_block ?_))
 replace S := S.nilrow Y76 76
 refine c_loop (fun q1 a w => ∃ m A2 nn3 cp5 y4 y5, St 28 m b0 [(3, (.s A2 nn3 cp5)), (8, (.i y5)), (7, (.i ((x1).length : Int))), (6, (.q Y76 ch_0_0 ch_0_1 x1))] [Res.row Y76 76 A2 nn3 cp5 y4] a w ∧ state_List.l1 x1 q1 y4 y5 = some r) ?_ ?_ (k := k) ⟨_, none, 0, 0, ([] : List L76), 0, (S.sb rfl (.c0 .n)), h0⟩
 ·rintro a w ⟨m, A2, nn3, cp5, y4, y5, S, h0⟩
  exact (nomatch (show (none : Option (((List L76)))) = some r from h0))
 ·clear S h0
  rintro q1 a w ⟨m, A2, nn3, cp5, y4, y5, S, h0⟩
  replace h0 : state_List.b1 x1 (state_List.l1 x1 q1) y4 y5 = some r := h0
  delta state_List.b1 at h0
  refine c_region (s_bin S rfl rfl rfl rfl fun a S => c_end (wp_seq ?_))
  rcases ite_of h0 with ⟨c1, h1⟩ | ⟨c1, h1⟩
  ·refine c_condT S rfl c1 (wp_skip (x_thenN (wp_seq (wp_block (c_region ?_)))))
   obtain ⟨c2, h2⟩ := chk_of h1; clear h1
   refine s_iaddrS S rfl rfl rfl underlying44 T76 c2.1 c2.2 rfl fun p1 a S => s_ldA S (fun (c : Unit × Unit × Unit × (Option Addr × Nat) × (Option Addr × Nat)) => (Y76.segs (gt x1 y5) c)) rfl T76 (fun _ => rfl) rfl fun ch1 a S => ?_
   refine s_alloc S Z76 rfl ⟨rfl, rfl, rfl, rfl, rfl, trivial⟩ rfl fun g1 a w S => s_store S rfl rfl rfl (s' := [.b20 ((gt x1 y5).1), .w ((gt x1 y5).2.1), .w4 ((gt x1 y5).2.2.1), .q yb ch1.2.2.2.1.1 ch1.2.2.2.1.2 ((gt x1 y5).2.2.2.1), .q Y89 ch1.2.2.2.2.1 ch1.2.2.2.2.2 ((gt x1 y5).2.2.2.2)]) .h T76 rfl rfl fun w S => c_end (c_region (s_fieldAddr S rfl I76_3 T27 (by decide) rfl rfl fun a S => s_loadSl S rfl .h T27 (A := ch1.2.2.2.1.1) (len := ((gt x1 y5).2.2.2.1).length) (cap := ch1.2.2.2.1.2) rfl rfl fun a S => bindX h2 fun t1 et1 h3 => s_callR S (fun (ch : (Option Addr) × Nat × Nat) => ((.s ch.1 ch.2.1 ch.2.2) : D)) (fun (ch : (Option Addr) × Nat × Nat) => Res.row yb 5 ch.1 ch.2.1 ch.2.2 t1) N37 rfl rfl (slices_Clone_byte_byte.ok ((gt x1 y5).2.2.2.1) ch1.2.2.2.1.1 ch1.2.2.2.1.2 t1 et1 _ _) fun ch2 m le1 a w S => s_fieldAddr S rfl I76_3 T27 (by decide) rfl rfl fun a S => s_store S rfl rfl rfl (s' := [.b20 ((gt x1 y5).1), .w ((gt x1 y5).2.1), .w4 ((gt x1 y5).2.2.1), .s ch2.1 ch2.2.1 ch2.2.2, .q Y89 ch1.2.2.2.2.1 ch1.2.2.2.2.2 ((gt x1 y5).2.2.2.2)]) .h1 T27 rfl rfl fun w S => c_end (c_region (s_fieldAddr S rfl I76_4 T74 (by decide) rfl rfl fun a S => s_loadSl S rfl .h1 T74 (A := ch1.2.2.2.2.1) (len := ((gt x1 y5).2.2.2.2).length) (cap := ch1.2.2.2.2.2) rfl rfl fun a S => bindX h3 fun t2 et2 h4 => s_callR S (fun (ch : (Option Addr) × Nat × Nat) => ((.s ch.1 ch.2.1 ch.2.2) : D)) (fun (ch : (Option Addr) × Nat × Nat) => Res.row Y89 89 ch.1 ch.2.1 ch.2.2 t2) N38 rfl rfl (api_Slot.ok ((gt x1 y5).2.2.2.2) ch1.2.2.2.2.1 ch1.2.2.2.2.2 t2 et2 _ _) fun ch3 m le1 a w S => s_fieldAddr S rfl I76_4 T74 (by decide) rfl rfl fun a S => s_store S rfl rfl rfl (s' := [.b20 ((gt x1 y5).1), .w ((gt x1 y5).2.1), .w4 ((gt x1 y5).2.2.1), .s ch2.1 ch2.2.1 ch2.2.2, .s ch3.1 ch3.2.1 ch3.2.2]) .h2 T74 rfl rfl fun w S => c_end (c_region' (s_move S rfl rfl fun a S => s_loada S rfl .h2 T76 (s' := [.b20 ((gt x1 y5).1), .w ((gt x1 y5).2.1), .w4 ((gt x1 y5).2.2.1), .s ch2.1 ch2.2.1 ch2.2.2, .s ch3.1 ch3.2.1 ch3.2.2]) rfl rfl fun a S => ?_))))))
   replace S := S.rowfro .h1
   obtain ⟨m, le1, S, hro⟩ := S
   replace S := S.slot (u := 21) (d' := (.agg [.b20 ((gt x1 y5).1), .w ((gt x1 y5).2.1), .w4 ((gt x1 y5).2.2.1), .q yb ch2.1 ch2.2.2 t1, .s ch3.1 ch3.2.1 ch3.2.2])) rfl (by simp [D.val, pd, cellsOf, Seg.cells, hro.2.1]) (by have h := (S.get 21 (.agg [.b20 ((gt x1 y5).1), .w ((gt x1 y5).2.1), .w4 ((gt x1 y5).2.2.1), .s ch2.1 ch2.2.1 ch2.2.2, .s ch3.1 ch3.2.1 ch3.2.2]) rfl).2; exact ⟨h.1, h.2.1, h.2.2.1, ⟨by have := hro.2.2.1; omega, hro.2.2.2, hro.1, RdS.mono _ _ _⟩, h.2.2.2.2.1, trivial⟩)
   replace S := S.slotro (u := 14) rfl hro
   replace S := S.cellro (s' := [.b20 ((gt x1 y5).1), .w ((gt x1 y5).2.1), .w4 ((gt x1 y5).2.2.1), .q yb ch2.1 ch2.2.2 t1, .s ch3.1 ch3.2.1 ch3.2.2]) .h1 (by simp [cellsOf, Seg.cells, hro.2.1]) (fun h => ⟨h.1, h.2.1, h.2.2.1, ⟨by have := hro.2.2.1; omega, hro.2.2.2, hro.1, RdS.mono _ _ _⟩, h.2.2.2.2.1, trivial⟩)
   replace S := S.rowfro .h
   obtain ⟨m, le1, S, hro⟩ := S
   replace S := S.slot (u := 21) (d' := (.agg [.b20 ((gt x1 y5).1), .w ((gt x1 y5).2.1), .w4 ((gt x1 y5).2.2.1), .q yb ch2.1 ch2.2.2 t1, .q Y89 ch3.1 ch3.2.2 t2])) rfl (by simp [D.val, pd, cellsOf, Seg.cells, hro.2.1]) (by have h := (S.get 21 (.agg [.b20 ((gt x1 y5).1), .w ((gt x1 y5).2.1), .w4 ((gt x1 y5).2.2.1), .q yb ch2.1 ch2.2.2 t1, .s ch3.1 ch3.2.1 ch3.2.2]) rfl).2; exact ⟨h.1, h.2.1, h.2.2.1, h.2.2.2.1, ⟨by have := hro.2.2.1; omega, hro.2.2.2, hro.1, RdS.mono _ _ _⟩, trivial⟩)
   replace S := S.slotro (u := 18) rfl hro
   replace S := S.cellro (s' := [.b20 ((gt x1 y5).1), .w ((gt x1 y5).2.1), .w4 ((gt x1 y5).2.2.1), .q yb ch2.1 ch2.2.2 t1, .q Y89 ch3.1 ch3.2.2 t2]) .h (by simp [cellsOf, Seg.cells, hro.2.1]) (fun h => ⟨h.1, h.2.1, h.2.2.1, h.2.2.2.1, ⟨by have := hro.2.2.1; omega, hro.2.2.2, hro.1, RdS.mono _ _ _⟩, trivial⟩)
   refine s_bldSl S (ty' := Y76) (ds := [(0, (.agg [.b20 ((gt x1 y5).1), .w ((gt x1 y5).2.1), .w4 ((gt x1 y5).2.2.1), .q yb ch2.1 ch2.2.2 t1, .q Y89 ch3.1 ch3.2.2 t2]))]) (z := zt1) (c0 := ((), (), (), (none, 0), (none, 0))) (ys := [((gt x1 y5).1, (gt x1 y5).2.1, (gt x1 y5).2.2.1, t1, t2)]) (cs := [((), (), (), (ch2.1, ch2.2.2), (ch3.1, ch3.2.2))]) rfl underlying44 J76 Z76 rfl ⟨rfl, rfl, rfl, ⟨Nat.le_refl _, Nat.zero_le _, RdS.nil _ _ _, RdS.mono _ _ _⟩, ⟨Nat.le_refl _, Nat.zero_le _, RdS.nil _ _ _, RdS.mono _ _ _⟩, trivial⟩ rfl rfl rfl rfl rfl rfl fun g2 a w S => ?_
   obtain ⟨c3, h5⟩ := chk_of h4; clear h4
   refine s_app S (k2 := 1) (ys := [((gt x1 y5).1, (gt x1 y5).2.1, (gt x1 y5).2.2.1, t1, t2)]) rfl (fun _ _ => .h2) rfl rfl (S.holds _ (Pull.mem .h).1).1 (Res.row.src (S.holds _ (Pull.mem .h).1)) underlying44 J76 c3 rfl fun A3 cp6 a w S => s_assign S rfl rfl fun a S => c_end' (x_blockN (x_thenN (c_region' (s_bin S rfl rfl rfl rfl fun a S => s_move S rfl rfl fun a S => c_end' (x_thenN ?_)))))
   exact ⟨_, A3, (nn3 + 1), cp6, (y4 ++ [((gt x1 y5).1, (gt x1 y5).2.1, (gt x1 y5).2.2.1, t1, t2)]), (wr .i64 (y5 + 1)), (S.sb rfl (.c2 .n)), h5⟩
  ·refine c_condF S rfl c1 (wp_exit (x_thenX (x_thenX (x_blockX (x_thenN ?_)))))
   exact j1 _ A2 nn3 cp5 y4 a w (S.sub ⟨rfl, trivial⟩ (.c0 .n)) h1
end
end GW
