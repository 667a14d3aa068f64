import Derived.Test.YtmidfllhoogifaaProg
import Derived.Test.YtmidfllhoogifaaGWBrev
set_option linter.unusedVariables false
set_option linter.unusedSimpArgs false
set_option maxRecDepth 10000
set_option maxHeartbeats 4000000
namespace GW
open Go Go.RowKit Go.Proofs Go.Proofs.Try
noncomputable section
abbrev L30 : Type := (List Int) × Int × (List Int) × (List Int) × (List ((List Int) × (List Int)))
abbrev Y66 : Ty ((List Int) × (List Int)) := (Ty.prod (Ty.arr .u64 4) (Ty.arr .u64 4))
abbrev Y30 : Ty L30 := (Ty.prod (Ty.arr .u8 20) (Ty.prod (Ty.int .u64) (Ty.prod (Ty.arr .u64 4) (Ty.prod (Ty.slice (Ty.int .u8)) (Ty.slice Y66)))))
abbrev Y40 : Ty (Int × (List L30)) := (Ty.prod (Ty.int .i64) (Ty.slice Y30))
theorem P71 : ∀ w : World, ((match Try.prog.underlying 71 with | some (.struct fs) => fs | _ => (#[] : Array Field)).mapM fun (f : Field) => (do pure (f.offset, ← Go.sizeOf f.type) : Sem (Nat × Nat))).run Try.prog w = .ok #[(0, 1), (1, 1)] w := fun _ => by kernel_rfl
theorem Z71 : zeroI Try.prog 71 = some (D.val (.agg [.i 0, .one (.map none)])) := by kernel_rfl
abbrev Y69 : Ty (List ((List Int) × L30)) := (Ty.fmap true (Ty.arr .u8 20) true Y30)
theorem J71 : appI Try.prog 71 = some (2, 16) := by kernel_rfl
theorem P74 : ∀ w : World, ((match Try.prog.underlying 74 with | some (.struct fs) => fs | _ => (#[] : Array Field)).mapM fun (f : Field) => (do pure (f.offset, ← Go.sizeOf f.type) : Sem (Nat × Nat))).run Try.prog w = .ok #[(0, 1)] w := fun _ => by kernel_rfl
theorem Z74 : zeroI Try.prog 74 = some (D.val (.agg [.s none 0 0])) := by kernel_rfl
abbrev L72 : Type := List (Int × (List ((List Int) × L30)))
theorem N14 : Fn_ Try.prog 14 := ⟨_, func14, rfl, by decide⟩
theorem P30 : ∀ w : World, ((match Try.prog.underlying 30 with | some (.struct fs) => fs | _ => (#[] : Array Field)).mapM fun (f : Field) => (do pure (f.offset, ← Go.sizeOf f.type) : Sem (Nat × Nat))).run Try.prog w = .ok #[(0, 20), (20, 1), (21, 4), (25, 1), (26, 1)] w := fun _ => by kernel_rfl
theorem Z30 : zeroI Try.prog 30 = some (D.val (.agg [.b20 z20, .w 0, .w4 [0, 0, 0, 0], .s none 0 0, .s none 0 0])) := by kernel_rfl
theorem J30 : appI Try.prog 30 = some (27, 112) := by kernel_rfl
theorem I74_0 : fieldI Try.prog 74 0 = some (0, 72) := by kernel_rfl
theorem T72 : tyI Try.prog 72 = some (false, 1) := by kernel_rfl
theorem N30 : Fn_ Try.prog 30 := ⟨_, func30, rfl, by decide⟩
theorem T30 : tyI Try.prog 30 = some (true, 27) := by kernel_rfl
theorem I30_4 : fieldI Try.prog 30 4 = some (26, 28) := by kernel_rfl
theorem T28 : tyI Try.prog 28 = some (false, 1) := by kernel_rfl
theorem T66 : tyI Try.prog 66 = some (true, 8) := by kernel_rfl
theorem Z66 : zeroI Try.prog 66 = some (D.val (.agg [.w4 [0, 0, 0, 0], .w4 [0, 0, 0, 0]])) := by kernel_rfl
theorem I66_1 : fieldI Try.prog 66 1 = some (4, 26) := by kernel_rfl
theorem T26 : tyI Try.prog 26 = some (true, 4) := by kernel_rfl
theorem T24 : tyI Try.prog 24 = some (false, 1) := by kernel_rfl
theorem Q26 : Try.prog.eqGuardType Try.prog.depth 26 = false := by kernel_rfl
theorem I66_0 : fieldI Try.prog 66 0 = some (0, 26) := by kernel_rfl
theorem N28 : Fn_ Try.prog 28 := ⟨_, func28, rfl, by decide⟩
theorem N10 : Fn_ Try.prog 10 := ⟨_, func10, rfl, by decide⟩
theorem N32 : Fn_ Try.prog 32 := ⟨_, func32, rfl, by decide⟩
theorem N43 : Fn_ Try.prog 43 := ⟨_, func43, rfl, by decide⟩
theorem N31 : Fn_ Try.prog 31 := ⟨_, func31, rfl, by decide⟩
theorem T71 : tyI Try.prog 71 = some (true, 2) := by kernel_rfl
theorem I71_1 : fieldI Try.prog 71 1 = some (1, 69) := by kernel_rfl
theorem T69 : tyI Try.prog 69 = some (false, 1) := by kernel_rfl
theorem I30_0 : fieldI Try.prog 30 0 = some (0, 23) := by kernel_rfl
theorem T23 : tyI Try.prog 23 = some (true, 20) := by kernel_rfl
theorem I30_3 : fieldI Try.prog 30 3 = some (25, 27) := by kernel_rfl
theorem T27 : tyI Try.prog 27 = some (false, 1) := by kernel_rfl
theorem J5 : appI Try.prog 5 = some (1, 1) := by kernel_rfl
theorem Z5 : zeroI Try.prog 5 = some (D.val (.v (.int .u8 0))) := by kernel_rfl
theorem N44 : Fn_ Try.prog 44 := ⟨_, func44, rfl, by decide⟩
theorem J66 : appI Try.prog 66 = some (8, 64) := by kernel_rfl
theorem N45 : Fn_ Try.prog 45 := ⟨_, func45, rfl, by decide⟩
theorem N33 : Fn_ Try.prog 33 := ⟨_, func33, rfl, by decide⟩
theorem T5 : tyI Try.prog 5 = some (false, 1) := by kernel_rfl
theorem KT23 : KeyT Try.prog 23 true (Ty.arr .u8 20) := keyT_arr underlying23 underlying5 T5 T23
theorem N16 : Fn_ Try.prog 16 := ⟨_, func16, rfl, by decide⟩
theorem I71_0 : fieldI Try.prog 71 0 = some (0, 3) := by kernel_rfl
theorem T3 : tyI Try.prog 3 = some (false, 1) := by kernel_rfl
theorem N37 : Fn_ Try.prog 37 := ⟨_, func37, rfl, by decide⟩
theorem N20 : Fn_ Try.prog 20 := ⟨_, func20, rfl, by decide⟩
theorem I30_2 : fieldI Try.prog 30 2 = some (21, 26) := by kernel_rfl
theorem N9 : Fn_ Try.prog 9 := ⟨_, func9, rfl, by decide⟩
theorem T40 : tyI Try.prog 40 = some (true, 2) := by kernel_rfl
theorem Z40 : zeroI Try.prog 40 = some (D.val (.agg [.i 0, .s none 0 0])) := by kernel_rfl
theorem I40_1 : fieldI Try.prog 40 1 = some (1, 32) := by kernel_rfl
theorem T32 : tyI Try.prog 32 = some (false, 1) := by kernel_rfl
theorem N8 : Fn_ Try.prog 8 := ⟨_, func8, rfl, by decide⟩
theorem N15 : Fn_ Try.prog 15 := ⟨_, func15, rfl, by decide⟩
theorem I40_0 : fieldI Try.prog 40 0 = some (0, 3) := by kernel_rfl
theorem N17 : Fn_ Try.prog 17 := ⟨_, func17, rfl, by decide⟩
theorem Z23 : zeroI Try.prog 23 = some (D.val (.agg [.b20 z20])) := by kernel_rfl
theorem Z4 : zeroI Try.prog 4 = some (D.val (.b false)) := by kernel_rfl
theorem I30_1 : fieldI Try.prog 30 1 = some (20, 24) := by kernel_rfl
theorem N12 : Fn_ Try.prog 12 := ⟨_, func12, rfl, by decide⟩
def txt0 : ByteArray := ByteArray.mk #[0, 1, 2, 2, 3, 3, 3, 3, 4, 4, 4, 4, 4, 4, 4, 4, 5, 5, 5, 5, 5, 5, 5, 5, 5, 5, 5, 5, 5, 5, 5, 5, 6, 6, 6, 6, 6, 6, 6, 6, 6, 6, 6, 6, 6, 6, 6, 6, 6, 6, 6, 6, 6, 6, 6, 6, 6, 6, 6, 6, 6, 6, 6, 6, 7, 7, 7, 7, 7, 7, 7, 7, 7, 7, 7, 7, 7, 7, 7, 7, 7, 7, 7, 7, 7, 7, 7, 7, 7, 7, 7, 7, 7, 7, 7, 7, 7, 7, 7, 7, 7, 7, 7, 7, 7, 7, 7, 7, 7, 7, 7, 7, 7, 7, 7, 7, 7, 7, 7, 7, 7, 7, 7, 7, 7, 7, 7, 7, 8, 8, 8, 8, 8, 8, 8, 8, 8, 8, 8, 8, 8, 8, 8, 8, 8, 8, 8, 8, 8, 8, 8, 8, 8, 8, 8, 8, 8, 8, 8, 8, 8, 8, 8, 8, 8, 8, 8, 8, 8, 8, 8, 8, 8, 8, 8, 8, 8, 8, 8, 8, 8, 8, 8, 8, 8, 8, 8, 8, 8, 8, 8, 8, 8, 8, 8, 8, 8, 8, 8, 8, 8, 8, 8, 8, 8, 8, 8, 8, 8, 8, 8, 8, 8, 8, 8, 8, 8, 8, 8, 8, 8, 8, 8, 8, 8, 8, 8, 8, 8, 8, 8, 8, 8, 8, 8, 8, 8, 8, 8, 8, 8, 8, 8, 8, 8, 8, 8, 8, 8, 8, 8, 8, 8, 8, 8, 8]
theorem N59 : Fn_ Try.prog 59 := ⟨_, func59, rfl, by decide⟩
theorem N47 : Fn_ Try.prog 47 := ⟨_, func47, rfl, by decide⟩
theorem X60 : isCmp Try.prog 60 := ⟨_, func60, by kernel_rfl, by kernel_rfl, by kernel_rfl, by kernel_rfl⟩
theorem N48 : Fn_ Try.prog 48 := ⟨_, func48, rfl, by decide⟩
theorem N36 : Fn_ Try.prog 36 := ⟨_, func36, rfl, by decide⟩
theorem N35 : Fn_ Try.prog 35 := ⟨_, func35, rfl, by decide⟩
theorem N50 : Fn_ Try.prog 50 := ⟨_, func50, rfl, by decide⟩
theorem N61 : Fn_ Try.prog 61 := ⟨_, func61, rfl, by decide⟩
theorem N51 : Fn_ Try.prog 51 := ⟨_, func51, rfl, by decide⟩
theorem Z3 : zeroI Try.prog 3 = some (D.val (.i 0)) := by kernel_rfl
theorem N66 : Fn_ Try.prog 66 := ⟨_, func66, rfl, by decide⟩
theorem N65 : Fn_ Try.prog 65 := ⟨_, func65, rfl, by decide⟩
theorem N64 : Fn_ Try.prog 64 := ⟨_, func64, rfl, by decide⟩
theorem N53 : Fn_ Try.prog 53 := ⟨_, func53, rfl, by decide⟩
theorem N54 : Fn_ Try.prog 54 := ⟨_, func54, rfl, by decide⟩
theorem N55 : Fn_ Try.prog 55 := ⟨_, func55, rfl, by decide⟩
theorem N56 : Fn_ Try.prog 56 := ⟨_, func56, rfl, by decide⟩
theorem N57 : Fn_ Try.prog 57 := ⟨_, func57, rfl, by decide⟩
theorem N46 : Fn_ Try.prog 46 := ⟨_, func46, rfl, by decide⟩
theorem Z107 : zeroI Try.prog 107 = some (D.val (.w 0)) := by kernel_rfl
theorem T107 : tyI Try.prog 107 = some (false, 1) := by kernel_rfl
theorem N62 : Fn_ Try.prog 62 := ⟨_, func62, rfl, by decide⟩
theorem N63 : Fn_ Try.prog 63 := ⟨_, func63, rfl, by decide⟩
theorem N52 : Fn_ Try.prog 52 := ⟨_, func52, rfl, by decide⟩
theorem N34 : Fn_ Try.prog 34 := ⟨_, func34, rfl, by decide⟩
theorem N18 : Fn_ Try.prog 18 := ⟨_, func18, rfl, by decide⟩
theorem J32 : appI Try.prog 32 = some (1, 24) := by kernel_rfl
theorem Z32 : zeroI Try.prog 32 = some (D.val (.s none 0 0)) := by kernel_rfl
theorem Q23 : Try.prog.eqGuardType Try.prog.depth 23 = false := by kernel_rfl
theorem E26 : EqTy Try.prog 26 true (Ty.arr .u64 4) 3 := eqTy_arr underlying26 underlying24 T24 T26
theorem E66 : EqTy Try.prog 66 true Y66 4 := eqTy_struct (fs := [("Key", 0, 26), ("Value", 4, 26)]) (by kernel_rfl) (by kernel_rfl) T66 (by kernel_rfl) (eqF_cons (nm := "Key") (E26.mono (by decide : 3 ≤ 3)) (by decide) noints_agg (fun h => by cases h) rfl (eqF_one (nm := "Value") (E26.mono (by decide : 3 ≤ 3)) (by decide) noints_agg (fun h => by cases h)))
theorem Q66 : Try.prog.eqGuardType Try.prog.depth 66 = false := by kernel_rfl
theorem N21 : Fn_ Try.prog 21 := ⟨_, func21, rfl, by decide⟩
theorem N19 : Fn_ Try.prog 19 := ⟨_, func19, rfl, by decide⟩
theorem Z87 : zeroI Try.prog 87 = some (D.val (.agg [.ints .i64 z32 32])) := by kernel_rfl
theorem T87 : tyI Try.prog 87 = some (true, 32) := by kernel_rfl
theorem N42 : Fn_ Try.prog 42 := ⟨_, func42, rfl, by decide⟩
theorem N41 : Fn_ Try.prog 41 := ⟨_, func41, rfl, by decide⟩
theorem N29 : Fn_ Try.prog 29 := ⟨_, func29, rfl, by decide⟩
def Gd3 : Int → Prop := fun x => inK .i64 x
def Gd23 : (List Int) → Prop := fun xs => xs.length = 20 ∧ ∀ y ∈ xs, inK .u8 y
def Gd24 : Int → Prop := fun x => inK .u64 x
def Gd26 : (List Int) → Prop := fun xs => xs.length = 4 ∧ ∀ y ∈ xs, inK .u64 y
def Gd5 : Int → Prop := fun x => inK .u8 x
def Gd27 : (List Int) → Prop := fun xs => (∀ y ∈ xs, Gd5 y) ∧ xs.length ≤ maxLen
def Gd66 : ((List Int) × (List Int)) → Prop := fun y => Gd26 y.1 ∧ (Gd26 y.2)
def Gd28 : (List ((List Int) × (List Int))) → Prop := fun xs => (∀ y ∈ xs, Gd66 y) ∧ xs.length ≤ maxLen
def Gd30 : L30 → Prop := fun y => Gd23 y.1 ∧ (Gd24 y.2.1 ∧ (Gd26 y.2.2.1 ∧ (Gd27 y.2.2.2.1 ∧ (Gd28 y.2.2.2.2))))
def Gd32 : (List L30) → Prop := fun xs => (∀ y ∈ xs, Gd30 y) ∧ xs.length ≤ maxLen
def Gd40 : (Int × (List L30)) → Prop := fun y => Gd3 y.1 ∧ (Gd32 y.2)
def Gd35 : (List (Int × (List L30))) → Prop := fun xs => (∀ y ∈ xs, Gd40 y) ∧ xs.length ≤ maxLen
abbrev store_New.Ty : Type := Option L72
def store_New.Ctr (s : store_New.Ty) : Prop := ∀ (r : L72), Ct (C := (Nat × (Option Addr) × Nat × Nat)) Try.prog 14 (s = some r) [] [] (fun ch => (.v (.pointer (some ⟨ch.1, 0, none⟩)))) fun ch => [Res.cells ch.1 74 [.s ch.2.1 ch.2.2.1 ch.2.2.2], Res.row (Ty.prod yi Y69) 71 ch.2.1 ch.2.2.1 ch.2.2.2 r]
def store_New.f : Option L72 := some ([((-1), ([] : List ((List Int) × L30)))])
theorem store_New.ok : store_New.Ctr (store_New.f) := by
 intro r h0 mi w0 ok hm
 delta store_New.f at h0
 refine c_enterZ (n := 5) ok hm func14 rfl rfl rfl fun b0 hb a S => c_region (s_assign S rfl rfl fun a S => c_end (c_region (s_bldS S (ds := [(0, (.i (-1)))]) (zs := [.i 0, .one (.map none)]) (s' := [.i (-1), .one (.map none)]) rfl underlying71 P71 Z71 ⟨rfl, rfl, trivial⟩ rfl rfl fun a S => ?_)))
 replace S := S.slot (u := 1) (d' := (.agg [.i (-1), .rf (.map none) (RdM true (Ty.arr .u8 20) true Y30 none ([] : List ((List Int) × L30)))])) rfl rfl (by have h := (S.get 1 (.agg [.i (-1), .one (.map none)]) rfl).2; exact ⟨h.1, okm_nil, trivial⟩)
 refine s_bldSl S (ty' := (Ty.prod yi Y69)) (ds := [(0, (.agg [.i (-1), .rf (.map none) (RdM true (Ty.arr .u8 20) true Y30 none ([] : List ((List Int) × L30)))]))]) (z := (0, ([] : List ((List Int) × L30)))) (c0 := ((), none)) (ys := [((-1), ([] : List ((List Int) × L30)))]) (cs := [((), none)]) rfl underlying72 J71 Z71 rfl ⟨rfl, okm_nil, trivial⟩ rfl rfl rfl rfl rfl rfl fun g1 a w S => s_bldS S (ds := [(0, (.s (ad g1) 1 1))]) (zs := [.s none 0 0]) (s' := [.s (ad g1) 1 1]) rfl underlying74 P74 Z74 ⟨rfl, trivial⟩ rfl rfl fun a S => s_box S rfl rfl rfl fun g2 a w S => s_assign S rfl rfl fun a S => c_end (wp_ret ?_)
 obtain rfl := Option.some.inj h0
 exact b_ret1 (d := (.p g2)) S rfl rfl fun ok => S.retX (Hx := []) hb _ _ ((g2, (ad g1), 1, 1) : Nat × (Option Addr) × Nat × Nat) (.c0 (.c0 .n)) ok
abbrev store_Store_has.Ty : Type := L72 → Int → Option Bool
def store_Store_has.Ctr (s : store_Store_has.Ty) : Prop := ∀ (x1 : L72) (x2 : Int) (ch_0_0 : Nat) (ch_0_1 : Option Addr) (ch_0_2 : Nat) (ch_0_3 : Nat) (r : Bool), Ct (C := Unit) Try.prog 30 (s x1 x2 = some r) [Res.cells ch_0_0 74 [.s ch_0_1 ch_0_2 ch_0_3], Res.row (Ty.prod yi Y69) 71 ch_0_1 ch_0_2 ch_0_3 x1] [(.p ch_0_0), (.i x2)] (fun _ => (.b r)) fun _ => [Res.cells ch_0_0 74 [.s ch_0_1 ch_0_2 ch_0_3], Res.row (Ty.prod yi Y69) 71 ch_0_1 ch_0_2 ch_0_3 x1]
def store_Store_has.f (x1 : L72) (x2 : Int) : Option Bool := if (decide (0 ≤ x2)) = true then (some (decide (x2 < ((x1).length : Int)))) else (some false)
theorem store_Store_has.ok : store_Store_has.Ctr (store_Store_has.f) := by
 intro x1 x2 ch_0_0 ch_0_1 ch_0_2 ch_0_3 r h0 mi w0 ok hm
 delta store_Store_has.f at h0
 refine c_enterZ (n := 20) ok hm func30 rfl rfl rfl fun b0 hb a S => c_region (s_assign S rfl rfl fun a S => c_end (c_region (s_move S rfl rfl fun a S => s_nep S (b := true) rfl rfl underlying36 rfl rfl fun a S => s_move S rfl rfl fun a S => s_gT S (b := true) rfl rfl rfl (s_move S rfl rfl fun a S => s_gT S (b := true) rfl rfl rfl (s_bin S rfl rfl rfl rfl fun a S => s_pick S (b := true) (hc_of rfl rfl) rfl rfl fun a S => s_move S rfl rfl fun a S => ?_)))))
 rcases ite_of h0 with ⟨c1, h1⟩ | ⟨c1, h1⟩
 ·refine s_gT S (b := (decide (0 ≤ x2))) rfl rfl c1 (s_move S rfl rfl fun a S => s_gT S (b := (decide (0 ≤ x2))) rfl rfl c1 (s_move S rfl rfl fun a S => s_gT S (b := (decide (0 ≤ x2))) rfl rfl c1 (s_nilchk S rfl rfl fun a S => s_gT S (b := (decide (0 ≤ x2))) rfl rfl c1 (s_fieldAddr S rfl I74_0 T72 (by decide) rfl rfl fun a S => s_gT S (b := (decide (0 ≤ x2))) rfl rfl c1 (s_load1 S rfl .h T72 (v := (.slice ch_0_1 ch_0_2 ch_0_3)) rfl rfl fun a S => s_gT S (b := (decide (0 ≤ x2))) rfl rfl c1 (s_lenO S rfl .h1 underlying72 rfl fun a S => s_gT S (b := (decide (0 ≤ x2))) rfl rfl c1 (s_bin S rfl rfl rfl rfl fun a S => s_pick S (b := true) (hc_of rfl c1) rfl rfl fun a S => s_assign S rfl rfl fun a S => c_end (wp_ret ?_))))))))
  obtain rfl := Option.some.inj h1
  exact b_ret1 (d := (.b (decide (x2 < ((x1).length : Int))))) S rfl rfl fun ok => S.retX (Hx := []) hb _ _ (() : Unit) (.c0 (.c0 .n)) ok
 ·refine s_gF S (b := (decide (0 ≤ x2))) rfl rfl c1 rfl fun a S => s_gF S (b := (decide (0 ≤ x2))) rfl rfl c1 rfl fun a S => s_gF S (b := (decide (0 ≤ x2))) rfl rfl c1 rfl fun a S => s_gF S (b := (decide (0 ≤ x2))) rfl rfl c1 rfl fun a S => s_gF S (b := (decide (0 ≤ x2))) rfl rfl c1 rfl fun a S => s_gF S (b := (decide (0 ≤ x2))) rfl rfl c1 rfl fun a S => s_gF S (b := (decide (0 ≤ x2))) rfl rfl c1 rfl fun a S => s_pick S (b := false) (hc_of rfl c1) rfl rfl fun a S => s_assign S rfl rfl fun a S => c_end (wp_ret ?_)
  obtain rfl := Option.some.inj h1
  exact b_ret1 (d := (.b false)) S rfl rfl fun ok => S.retX (Hx := []) hb _ _ (() : Unit) (.c0 (.c0 .n)) ok
abbrev word_Compare.Ty : Type := (List Int) → (List Int) → Option Int
def word_Compare.Ctr (s : word_Compare.Ty) : Prop := ∀ (x1 : List Int) (x2 : List Int) (r : Int), Ct (C := Unit) Try.prog 28 (s x1 x2 = some r) [] [(.a4 x1), (.a4 x2)] (fun _ => (.i r)) fun _ => []
def word_Compare.j1 (x1 : List Int) (x2 : List Int) (y1 : Int) : Option Int := if (0 : Int) ≤ y1 ∧ y1 < 4 then (if (decide ((rd x1 y1) < (rd x2 y1))) = true then (some (-1)) else (some 1)) else none
def word_Compare.b1 (x1 : List Int) (x2 : List Int) (rec1 : Int → Option Int) (y3 : Int) : Option Int := if (0 : Int) ≤ y3 ∧ y3 < 4 then (if ((rd x1 y3) == (rd x2 y3)) = true then (rec1 (wr .i64 (y3 - 1))) else (word_Compare.j1 x1 x2 y3)) else none
def word_Compare.l1 (x1 : List Int) (x2 : List Int) : Nat → Int → Option Int
  | 0, _ => none
  | q + 1, y3 => word_Compare.b1 x1 x2 (word_Compare.l1 x1 x2 q) y3
def word_Compare.f (k : Nat) (x1 : List Int) (x2 : List Int) : Option Int := if (decide (x1 = x2)) = true then (some 0) else (word_Compare.l1 x1 x2 k 3)
theorem word_Compare.ok (k : Nat) : word_Compare.Ctr (word_Compare.f k) := by
 intro x1 x2 r h0 mi w0 ok hm
 delta word_Compare.f at h0
 refine c_enterZ (n := 25) ok hm func28 rfl rfl rfl fun b0 hb a S => c_region (s_box S rfl rfl rfl fun g1 a w S => s_box S rfl rfl rfl fun g2 a w S => s_assign S rfl rfl fun a S => c_end (wp_seq (c_region (s_loada S rfl .h1 T26 (s' := [.w4 x1]) rfl rfl fun a S => s_loada S rfl .h T26 (s' := [.w4 x2]) rfl rfl fun a S => s_eqa S rfl rfl underlying26 underlying24 T24 Q26 rfl fun a S => c_end ?_))))
 rcases ite_of h0 with ⟨c1, h1⟩ | ⟨c1, h1⟩
 ·refine c_condT S rfl c1 (c_region (s_assign S rfl rfl fun a S => c_end (wp_ret (x_thenR ?_))))
  obtain rfl := Option.some.inj h1
  exact b_ret1 (d := (.i 0)) S rfl rfl (S.rt hb)
 ·refine c_condF S rfl c1 (wp_skip (x_thenN (c_region (s_assign S rfl rfl fun a S => c_end (wp_seq_k fun K1 hK1 => ?_)))))
  have j1 : ∀ m y1 g9 g10 a w, St 25 m b0 [(5, (.i y1)), (3, (.p g9)), (2, (.p g10))] [Res.cells g9 26 [.w4 x2], Res.cells g10 26 [.w4 x1]] a w → word_Compare.j1 x1 x2 y1 = some r → K1 a w := by
   intro m y1 g9 g10 a w S h0
   delta word_Compare.j1 at h0
   refine hK1 a w (wp_seq ?_)
   refine wp_seq (c_heldS S (.take 0 (.take 1 (.take 2 (.take 3 (.take 4 (.take 5 (.take 6 .done))))))) 7 [Res.cells g9 26 [.w4 x2], Res.cells g10 26 [.w4 x1]] (.c0 (.c0 .n)) ⟨Res.stay_cells, Res.stay_cells, trivial⟩ [(5, (.i y1)), (3, (.p g9)), (2, (.p g10))] (subR rfl) (by kernel_rfl) (by kernel_rfl) ?_); clear S; intro w S CL hw le
   refine h_move S CL hw le (subR rfl) rfl rfl rfl trivial fun a S CL => ?_
   obtain ⟨c2, h1⟩ := chk_of h0; clear h0
   refine h_iaddr S CL hw le (subR rfl) rfl rfl underlying26 T24 c2.1 c2.2 (mul1 _ _) rfl rfl trivial fun a S CL => h_loadi S CL hw le (subR rfl) (i := y1) rfl .h1 T24 .h rfl c2.1 c2.2 rfl rfl trivial fun a S CL => h_move S CL hw le (subR rfl) rfl rfl rfl trivial fun a S CL => h_iaddr S CL hw le (subR rfl) rfl rfl underlying26 T24 c2.1 c2.2 (mul1 _ _) rfl rfl trivial fun a S CL => h_loadi S CL hw le (subR rfl) (i := y1) rfl .h T24 .h rfl c2.1 c2.2 rfl rfl trivial fun a S CL => h_bin S CL hw le (subR rfl) rfl rfl rfl rfl rfl trivial fun a S CL => ?_
   refine h_done ?_; clear CL hw le
   refine x_thenN ?_
   rcases ite_of h1 with ⟨c3, h2⟩ | ⟨c3, h2⟩
   ·refine c_condT S rfl c3 (c_region (s_assign S rfl rfl fun a S => c_end (wp_ret (x_thenR ?_))))
    obtain rfl := Option.some.inj h2
    exact b_ret1 (d := (.i (-1))) S rfl rfl (S.rt hb)
   ·refine c_condF S rfl c3 (wp_skip (x_thenN (c_region (s_assign S rfl rfl fun a S => c_end (wp_ret ?_)))))
    obtain rfl := Option.some.inj h2
    exact b_ret1 (d := (.i 1)) S rfl rfl (S.rt hb)
  refine wp_block ?_
  refine c_loop (fun q1 a w => ∃ m y3 g15 g16, St 25 m b0 [(5, (.i y3)), (3, (.p g15)), (2, (.p g16))] [Res.cells g15 26 [.w4 x2], Res.cells g16 26 [.w4 x1]] a w ∧ word_Compare.l1 x1 x2 q1 y3 = some r) ?_ ?_ (k := k) ⟨_, 3, g2, g1, (S.sb rfl (.c0 (.c0 .n))), h1⟩
  ·rintro a w ⟨m, y3, g15, g16, S, h0⟩
   exact (nomatch (show (none : Option Int) = some r from h0))
  ·clear S h1
   rintro q1 a w ⟨m, y3, g15, g16, S, h0⟩
   replace h0 : word_Compare.b1 x1 x2 (word_Compare.l1 x1 x2 q1) y3 = some r := h0
   delta word_Compare.b1 at h0
   refine wp_seq ?_
   refine wp_seq (c_heldS S (.take 0 (.take 1 (.take 2 (.take 3 (.take 4 (.take 5 (.take 6 .done))))))) 7 [Res.cells g15 26 [.w4 x2], Res.cells g16 26 [.w4 x1]] (.c0 (.c0 .n)) ⟨Res.stay_cells, Res.stay_cells, trivial⟩ [(5, (.i y3)), (3, (.p g15)), (2, (.p g16))] (subR rfl) (by kernel_rfl) (by kernel_rfl) ?_); clear S; intro w S CL hw le
   refine h_move S CL hw le (subR rfl) rfl rfl rfl trivial fun a S CL => ?_
   obtain ⟨c4, h1⟩ := chk_of h0; clear h0
   refine h_iaddr S CL hw le (subR rfl) rfl rfl underlying26 T24 c4.1 c4.2 (mul1 _ _) rfl rfl trivial fun a S CL => h_loadi S CL hw le (subR rfl) (i := y3) rfl .h1 T24 .h rfl c4.1 c4.2 rfl rfl trivial fun a S CL => h_move S CL hw le (subR rfl) rfl rfl rfl trivial fun a S CL => h_iaddr S CL hw le (subR rfl) rfl rfl underlying26 T24 c4.1 c4.2 (mul1 _ _) rfl rfl trivial fun a S CL => h_loadi S CL hw le (subR rfl) (i := y3) rfl .h T24 .h rfl c4.1 c4.2 rfl rfl trivial fun a S CL => h_bin S CL hw le (subR rfl) rfl rfl rfl rfl rfl trivial fun a S CL => ?_
   refine h_done ?_; clear CL hw le
   refine x_thenN ?_
   rcases ite_of h1 with ⟨c5, h2⟩ | ⟨c5, h2⟩
   ·refine c_condT S rfl c5 (wp_skip (x_thenN (wp_block (c_region' (s_move S rfl rfl fun a S => s_bin S rfl rfl rfl rfl fun a S => s_assign S rfl rfl fun a S => c_end' (x_blockN (x_thenN ?_)))))))
    exact ⟨_, (wr .i64 (y3 - 1)), g15, g16, (S.sb rfl (.c0 (.c0 .n))), h2⟩
   ·refine c_condF S rfl c5 (wp_exit (x_thenX (x_thenX (x_blockX (x_thenN ?_)))))
    exact j1 _ y3 g15 g16 a w (S.sb rfl (.c0 (.c0 .n))) h2
abbrev store_Right.Ty : Type := (L30) → Option Bool
def store_Right.Ctr (s : store_Right.Ty) : Prop := ∀ (x1 : L30) (ch_0_0 : Option Addr) (ch_0_1 : Nat) (ch_0_2 : Option Addr) (ch_0_3 : Nat) (r : Bool), Ct (C := Unit) Try.prog 10 (s x1 = some r) [] [(.agg (Y30.segs x1 ((), (), (), (ch_0_0, ch_0_1), (ch_0_2, ch_0_3))))] (fun _ => (.b r)) fun _ => []
def store_Right.j1 : Option Bool := some true
def store_Right.j2 (y1 : Int) (rec1 : Int → Option Bool) (y2 : Bool) : Option Bool := if y2 = true then (some false) else (rec1 (wr .i64 (y1 + 1)))
def store_Right.b1 (k : Nat) (x1 : L30) (rec1 : Int → Option Bool) (y1 : Int) : Option Bool := if (decide (y1 < ((x1.2.2.2.2).length : Int))) = true then (if (0 : Int) ≤ y1 ∧ y1 < ((x1.2.2.2.2).length : Int) then (if (decide ((gt x1.2.2.2.2 y1).2 = [0, 0, 0, 0])) = true then (store_Right.j2 y1 rec1 true) else (if (decide (0 < y1)) = true then (if (0 : Int) ≤ (wr .i64 (y1 - 1)) ∧ (wr .i64 (y1 - 1)) < ((x1.2.2.2.2).length : Int) then ((word_Compare.f k ((gt x1.2.2.2.2 (wr .i64 (y1 - 1))).1) ((gt x1.2.2.2.2 y1).1)).bind fun t1 => (store_Right.j2 y1 rec1 (decide (0 ≤ t1)))) else none) else (store_Right.j2 y1 rec1 false))) else none) else store_Right.j1
def store_Right.l1 (k : Nat) (x1 : L30) : Nat → Int → Option Bool
  | 0, _ => none
  | q + 1, y1 => store_Right.b1 k x1 (store_Right.l1 k x1 q) y1
def store_Right.f (k : Nat) (x1 : L30) : Option Bool := store_Right.l1 k x1 k 0
theorem store_Right.ok (k : Nat) : store_Right.Ctr (store_Right.f k) := by
 intro x1 ch_0_0 ch_0_1 ch_0_2 ch_0_3 r h0 mi w0 ok hm
 delta store_Right.f at h0
 refine c_enterZ (n := 35) ok hm func10 rfl rfl rfl fun b0 hb a S => c_region (s_box S rfl rfl rfl fun g1 a w S => s_assign S rfl rfl fun a S => c_end (wp_seq_k fun K1 hK1 => ?_))
 have j1 : ∀ m a w, St 35 m b0 [] [] a w → store_Right.j1 = some r → K1 a w := by
  intro m a w S h0
  delta store_Right.j1 at h0
  refine hK1 a w (c_region (s_assign S rfl rfl fun a S => c_end (wp_ret ?_)))
  obtain rfl := Option.some.inj h0
  exact b_ret1 (d := (.b true)) S rfl rfl (S.rt hb)
 refine c_region (s_fieldAddr S rfl I30_4 T28 (by decide) rfl rfl fun a S => s_loadSl S rfl .h T28 (A := ch_0_2) (len := (x1.2.2.2.2).length) (cap := ch_0_3) rfl rfl fun a S => s_lenS S rfl underlying28 rfl fun a S => s_move S rfl rfl fun a S => c_end (wp_block ?_))
 refine c_loop (fun q1 a w => ∃ m y1 g15, St 35 m b0 [(8, (.i y1)), (7, (.i ((x1.2.2.2.2).length : Int))), (6, (.q Y66 ch_0_2 ch_0_3 x1.2.2.2.2)), (1, (.p g15))] [Res.cells g15 30 (Y30.segs x1 ((), (), (), (ch_0_0, ch_0_1), (ch_0_2, ch_0_3)))] a w ∧ store_Right.l1 k x1 q1 y1 = some r) ?_ ?_ (k := k) ⟨_, 0, g1, (S.sb rfl (.c0 .n)), h0⟩
 ·rintro a w ⟨m, y1, g15, S, h0⟩
  exact (nomatch (show (none : Option Bool) = some r from h0))
 ·clear S h0
  rintro q1 a w ⟨m, y1, g15, S, h0⟩
  replace h0 : store_Right.b1 k x1 (store_Right.l1 k x1 q1) y1 = some r := h0
  delta store_Right.b1 at h0
  refine c_region (s_bin S rfl rfl rfl rfl fun a S => c_end (wp_seq ?_))
  rcases ite_of h0 with ⟨c1, h1⟩ | ⟨c1, h1⟩
  ·refine c_condT S rfl c1 (wp_skip (x_thenN (wp_seq (wp_block (c_region (s_move S rfl rfl fun a S => ?_))))))
   obtain ⟨c2, h2⟩ := chk_of h1; clear h1
   refine s_iaddrS S rfl rfl rfl underlying28 T66 c2.1 c2.2 rfl fun p1 a S => s_ldA S (fun (c : Unit × Unit) => [.w4 ((gt x1.2.2.2.2 y1).1), .w4 ((gt x1.2.2.2.2 y1).2)]) rfl T66 (fun _ => rfl) rfl fun ch1 a S => ?_
   refine s_alloc S Z66 rfl ⟨rfl, rfl, trivial⟩ rfl fun g16 a w S => s_assign S rfl rfl fun a S => s_store S rfl rfl rfl (s' := [.w4 ((gt x1.2.2.2.2 y1).1), .w4 ((gt x1.2.2.2.2 y1).2)]) .h T66 rfl rfl fun w S => c_end (wp_seq_k fun K2 hK2 => ?_)
   have j2 : ∀ m y2 g17 a w, St 35 m b0 [(33, (.b y2)), (8, (.i y1)), (7, (.i ((x1.2.2.2.2).length : Int))), (6, (.q Y66 ch_0_2 ch_0_3 x1.2.2.2.2)), (1, (.p g17))] [Res.cells g17 30 (Y30.segs x1 ((), (), (), (ch_0_0, ch_0_1), (ch_0_2, ch_0_3)))] a w → store_Right.j2 y1 (store_Right.l1 k x1 q1) y2 = some r → K2 a w := by
    intro m y2 g17 a w S h0
    delta store_Right.j2 at h0
    refine hK2 a w ?_
    rcases ite_of h0 with ⟨c3, h1⟩ | ⟨c3, h1⟩
    ·refine c_condT S rfl c3 (c_region (s_assign S rfl rfl fun a S => c_end (wp_ret (x_blockR (x_thenR (x_thenR (x_blockR (x_thenR ?_))))))))
     obtain rfl := Option.some.inj h1
     exact b_ret1 (d := (.b false)) S rfl rfl (S.rt hb)
    ·refine c_condF S rfl c3 (wp_skip (x_blockN (x_thenN (c_region' (s_bin S rfl rfl rfl rfl fun a S => s_move S rfl rfl fun a S => c_end' (x_thenN ?_))))))
     exact ⟨_, (wr .i64 (y1 + 1)), g17, (S.sb rfl (.c0 .n)), h1⟩
   refine c_heldS S (.take 0 (.take 1 (.take 2 (.take 3 (.take 4 (.take 5 (.take 6 (.take 7 (.take 8 (.take 9 (.take 10 (.take 11 (.take 12 (.take 13 (.take 14 (.take 15 (.take 16 (.alts (.run 17 true (.take 18 (.take 19 (.take 20 .done))) .nil))))))))))))))))))) 21 [Res.cells g16 66 [.w4 ((gt x1.2.2.2.2 y1).1), .w4 ((gt x1.2.2.2.2 y1).2)], Res.cells g15 30 (Y30.segs x1 ((), (), (), (ch_0_0, ch_0_1), (ch_0_2, ch_0_3)))] (.c0 (.c0 .n)) ⟨Res.stay_cells, Res.stay_cells, trivial⟩ [(3, (.i y1)), (4, (.p g16)), (1, (.p g15))] (subR rfl) (by kernel_rfl) (by kernel_rfl) fun w S CL hw le => ?_
   refine h_fieldAddr S CL hw le (subR rfl) rfl I66_1 T26 (by decide) rfl rfl rfl trivial fun a S CL => h_loada S CL hw le (subR rfl) rfl .h T26 (s' := [.w4 ((gt x1.2.2.2.2 y1).2)]) rfl rfl rfl trivial fun a S CL => h_build S CL hw le (subR rfl) (ds := []) (dv := (.a4 [0, 0, 0, 0])) rfl (fun _ => by kernel_rfl) ⟨rfl, trivial⟩ rfl rfl trivial fun a S CL => h_eqa S CL hw le (subR rfl) rfl rfl underlying26 underlying24 T24 Q26 rfl rfl trivial fun a S CL => h_move S CL hw le (subR rfl) rfl rfl rfl trivial fun a S CL => ?_
   rcases ite_of h2 with ⟨c4, h3⟩ | ⟨c4, h3⟩
   ·refine h_skip S CL rfl rfl rfl (ne_bool c4) rfl fun a S CL => h_skip S CL rfl rfl rfl (ne_bool c4) rfl fun a S CL => h_skip S CL rfl rfl rfl (ne_bool c4) rfl fun a S CL => h_skip S CL rfl rfl rfl ne_undef rfl fun a S CL => h_skip S CL rfl rfl rfl ne_undef rfl fun a S CL => h_skip S CL rfl rfl rfl ne_undef rfl fun a S CL => h_skip S CL rfl rfl rfl ne_undef rfl fun a S CL => h_skip S CL rfl rfl rfl ne_undef rfl fun a S CL => h_skip S CL rfl rfl rfl ne_undef rfl fun a S CL => h_skip S CL rfl rfl rfl ne_undef rfl fun a S CL => h_skip S CL rfl rfl rfl ne_undef rfl fun a S CL => h_skip S CL rfl rfl rfl ne_undef rfl fun a S CL => h_skipRt S rfl rfl rfl ne_undef rfl fun a S => CL.bk hw S (.c0 (.c0 .n)) le fun hw => ?_
    replace CL := CL.add (t := 30) (d := .u) S rfl rfl
    refine h_skip S CL rfl rfl rfl ne_undef rfl fun a S CL => h_skip S CL rfl rfl rfl (ne_bool c4) rfl fun a S CL => h_pick S CL hw le (subR rfl) (b := true) (hc_of rfl c4) rfl rfl rfl trivial fun a S CL => ?_
    refine h_done ?_; clear CL hw le
    refine x_thenN ?_
    exact j2 _ true g15 a w (S.sb rfl (.c1 .n)) h3
   ·refine h_move S CL hw le (subR rfl) rfl rfl rfl ⟨_, _, rfl, rfl, c4⟩ fun a S CL => h_bin S CL hw le (subR rfl) rfl rfl rfl rfl rfl ⟨_, _, rfl, rfl, c4⟩ fun a S CL => h_move S CL hw le (subR rfl) rfl rfl rfl ⟨_, _, rfl, rfl, c4⟩ fun a S CL => ?_
    rcases ite_of h3 with ⟨c5, h4⟩ | ⟨c5, h4⟩
    ·refine h_fieldAddr S CL hw le (subR rfl) rfl I30_4 T28 (by decide) rfl rfl rfl ⟨_, _, rfl, rfl, c5⟩ fun a S CL => h_loadSl S CL hw le (subR rfl) rfl .h1 T28 (A := ch_0_2) (len := (x1.2.2.2.2).length) (cap := ch_0_3) rfl rfl rfl ⟨_, _, rfl, rfl, c5⟩ fun a S CL => h_move S CL hw le (subR rfl) rfl rfl rfl ⟨_, _, rfl, rfl, c5⟩ fun a S CL => h_bin S CL hw le (subR rfl) rfl rfl rfl rfl rfl ⟨_, _, rfl, rfl, c5⟩ fun a S CL => ?_
     obtain ⟨c6, h5⟩ := chk_of h4; clear h4
     refine h_iaddrS S CL hw le (subR rfl) rfl rfl rfl underlying28 T66 c6.1 c6.2 rfl rfl ⟨_, _, rfl, rfl, c5⟩ fun p3 a S CL => h_faddrP S CL hw le (subR rfl) (tF := (Ty.arr .u64 4)) (y := (gt x1.2.2.2.2 (wr .i64 (y1 - 1))).1) rfl I66_0 T26 (by decide) (fun m h => (at_fst (at_0 h))) rfl rfl ⟨_, _, rfl, rfl, c5⟩ fun a S CL => h_ldA S CL hw le (subR rfl) (fun (c : Unit) => [.w4 ((gt x1.2.2.2.2 (wr .i64 (y1 - 1))).1)]) rfl T26 (fun _ => rfl) rfl rfl ⟨_, _, rfl, rfl, c5⟩ fun ch2 a S CL => ?_
     refine h_fieldAddr S CL hw le (subR rfl) rfl I66_0 T26 (by decide) rfl rfl rfl ⟨_, _, rfl, rfl, c5⟩ fun a S CL => h_loada S CL hw le (subR rfl) rfl .h T26 (s' := [.w4 ((gt x1.2.2.2.2 y1).1)]) rfl rfl rfl ⟨_, _, rfl, rfl, c5⟩ fun a S CL => h_run' S rfl ⟨_, _, rfl, rfl, c5⟩ (bindX h5 fun t1 et1 h6 => s_callP S _ N28 rfl rfl (word_Compare.ok k ((gt x1.2.2.2.2 (wr .i64 (y1 - 1))).1) ((gt x1.2.2.2.2 y1).1) t1 et1 _ _) fun ch3 m le1 a w S => ?_)
     replace le := le.trans le1
     refine CL.bk hw S (.c0 (.c0 .n)) le fun hw => ?_
     replace CL := CL.add (t := 30) (d := (.i t1)) S rfl rfl
     refine h_bin S CL hw le (subR rfl) rfl rfl rfl rfl rfl ⟨_, _, rfl, rfl, c5⟩ fun a S CL => h_pick S CL hw le (subR rfl) (b := true) (hc_of rfl c5) rfl rfl rfl ⟨_, _, rfl, rfl, c4⟩ fun a S CL => h_pick S CL hw le (subR rfl) (b := false) (hc_of rfl c4) rfl rfl rfl trivial fun a S CL => ?_
     refine h_done ?_; clear CL hw le
     refine x_thenN ?_
     exact j2 _ (decide (0 ≤ t1)) g15 a w (S.sb rfl (.c1 .n)) h6
    ·refine h_skip S CL rfl rfl rfl (ne_bool c5) rfl fun a S CL => h_skip S CL rfl rfl rfl (ne_bool c5) rfl fun a S CL => h_skip S CL rfl rfl rfl (ne_bool c5) rfl fun a S CL => h_skip S CL rfl rfl rfl (ne_bool c5) rfl fun a S CL => h_skip S CL rfl rfl rfl (ne_bool c5) rfl fun a S CL => h_skip S CL rfl rfl rfl (ne_bool c5) rfl fun a S CL => h_skip S CL rfl rfl rfl (ne_bool c5) rfl fun a S CL => h_skip S CL rfl rfl rfl (ne_bool c5) rfl fun a S CL => h_skip S CL rfl rfl rfl (ne_bool c5) rfl fun a S CL => h_skipRt S rfl rfl rfl (ne_bool c5) rfl fun a S => CL.bk hw S (.c0 (.c0 .n)) le fun hw => ?_
     replace CL := CL.add (t := 30) (d := .u) S rfl rfl
     refine h_skip S CL rfl rfl rfl (ne_bool c5) rfl fun a S CL => h_pick S CL hw le (subR rfl) (b := false) (hc_of rfl c5) rfl rfl rfl ⟨_, _, rfl, rfl, c4⟩ fun a S CL => h_pick S CL hw le (subR rfl) (b := false) (hc_of rfl c4) rfl rfl rfl trivial fun a S CL => ?_
     refine h_done ?_; clear CL hw le
     refine x_thenN ?_
     exact j2 _ false g15 a w (S.sb rfl (.c1 .n)) h4
  ·refine c_condF S rfl c1 (wp_exit (x_thenX (x_thenX (x_blockX (x_thenN ?_)))))
   exact j1 _ a w (S.sub trivial .nil) h1
abbrev store_Store_Commit_1.Ty : Type := (L30) → Option Bool
def store_Store_Commit_1.Ctr (s : store_Store_Commit_1.Ty) : Prop := ∀ (x1 : L30) (ch_0_0 : Option Addr) (ch_0_1 : Nat) (ch_0_2 : Option Addr) (ch_0_3 : Nat) (r : Bool), Ct (C := Unit) Try.prog 32 (s x1 = some r) [] [(.agg (Y30.segs x1 ((), (), (), (ch_0_0, ch_0_1), (ch_0_2, ch_0_3))))] (fun _ => (.b r)) fun _ => []
def store_Store_Commit_1.f (k : Nat) (x1 : L30) : Option Bool := (store_Right.f k x1).bind fun t1 => (some (!t1))
theorem store_Store_Commit_1.ok (k : Nat) : store_Store_Commit_1.Ctr (store_Store_Commit_1.f k) := by
 intro x1 ch_0_0 ch_0_1 ch_0_2 ch_0_3 r h0 mi w0 ok hm
 delta store_Store_Commit_1.f at h0
 refine c_enterZ (n := 6) ok hm func32 rfl rfl rfl fun b0 hb a S => c_region (s_box S rfl rfl rfl fun g1 a w S => s_assign S rfl rfl fun a S => c_end (c_region (s_loada S rfl .h T30 (s' := (Y30.segs x1 ((), (), (), (ch_0_0, ch_0_1), (ch_0_2, ch_0_3)))) rfl rfl fun a S => bindX h0 fun t1 et1 h1 => s_callP S _ N10 rfl rfl (store_Right.ok k x1 ch_0_0 ch_0_1 ch_0_2 ch_0_3 t1 et1 _ _) fun ch1 m le1 a w S => s_not S rfl rfl fun a S => s_assign S rfl rfl fun a S => c_end (wp_ret ?_))))
 obtain rfl := Option.some.inj h1
 exact b_ret1 (d := (.b (!t1))) S rfl rfl (S.rt hb)
abbrev api_Account_n43_1f32.Ty : Type := (List L30) → Option Int
def api_Account_n43_1f32.Ctr (s : api_Account_n43_1f32.Ty) : Prop := ∀ (x1 : List L30) (ch_0_0 : Option Addr) (ch_0_1 : Nat) (r : Int), Ct (C := Unit) Try.prog 43 (s x1 = some r) [] [(.q Y30 ch_0_0 ch_0_1 x1), (.v (.func (.func 32) #[] #[]))] (fun _ => (.i r)) fun _ => []
def api_Account_n43_1f32.j1 : Option Int := some (-1)
def api_Account_n43_1f32.b1 (k : Nat) (x1 : List L30) (rec1 : Int → Option Int) (y1 : Int) : Option Int := if (decide (y1 < ((x1).length : Int))) = true then (if (0 : Int) ≤ y1 ∧ y1 < ((x1).length : Int) then ((store_Store_Commit_1.f k (gt x1 y1)).bind fun t1 => (if t1 = true then (some y1) else (rec1 (wr .i64 (y1 + 1))))) else none) else api_Account_n43_1f32.j1
def api_Account_n43_1f32.l1 (k : Nat) (x1 : List L30) : Nat → Int → Option Int
  | 0, _ => none
  | q + 1, y1 => api_Account_n43_1f32.b1 k x1 (api_Account_n43_1f32.l1 k x1 q) y1
def api_Account_n43_1f32.f (k : Nat) (x1 : List L30) : Option Int := api_Account_n43_1f32.l1 k x1 k 0
theorem api_Account_n43_1f32.ok (k : Nat) : api_Account_n43_1f32.Ctr (api_Account_n43_1f32.f k) := by
 intro x1 ch_0_0 ch_0_1 r h0 mi w0 ok hm
 delta api_Account_n43_1f32.f at h0
 refine c_enterZ (n := 19) ok hm func43 rfl rfl rfl fun b0 hb a S => c_region (s_assign S rfl rfl fun a S => c_end (wp_seq_k fun K1 hK1 => ?_))
 have j1 : ∀ m a w, St 19 m b0 [] [] a w → api_Account_n43_1f32.j1 = some r → K1 a w := by
  intro m a w S h0
  delta api_Account_n43_1f32.j1 at h0
  refine hK1 a w (c_region (s_assign S rfl rfl fun a S => c_end (wp_ret ?_)))
  obtain rfl := Option.some.inj h0
  exact b_ret1 (d := (.i (-1))) S rfl rfl (S.rt hb)
 refine c_region (s_move S rfl rfl fun a S => s_lenS S rfl underlying32 rfl fun a S => s_move S rfl rfl fun a S => c_end (wp_block ?_))
 refine c_loop (fun q1 a w => ∃ m y1, St 19 m b0 [(8, (.i y1)), (7, (.i ((x1).length : Int))), (0, (.q Y30 ch_0_0 ch_0_1 x1)), (1, (.v (.func (.func 32) #[] #[])))] [] a w ∧ api_Account_n43_1f32.l1 k x1 q1 y1 = some r) ?_ ?_ (k := k) ⟨_, 0, (S.sb rfl .nil), h0⟩
 ·rintro a w ⟨m, y1, S, h0⟩
  exact (nomatch (show (none : Option Int) = some r from h0))
 ·clear S h0
  rintro q1 a w ⟨m, y1, S, h0⟩
  replace h0 : api_Account_n43_1f32.b1 k x1 (api_Account_n43_1f32.l1 k x1 q1) y1 = some r := h0
  delta api_Account_n43_1f32.b1 at h0
  refine c_region (s_bin S rfl rfl rfl rfl fun a S => c_end (wp_seq ?_))
  rcases ite_of h0 with ⟨c1, h1⟩ | ⟨c1, h1⟩
  ·refine c_condT S rfl c1 (wp_skip (x_thenN (wp_seq (wp_block (c_region (s_move S rfl rfl fun a S => s_assign S rfl rfl fun a S => c_end (c_region (s_move S rfl rfl fun a S => s_move S rfl rfl fun a S => s_move S rfl rfl fun a S => ?_))))))))
   obtain ⟨c2, h2⟩ := chk_of h1; clear h1
   refine s_iaddrS S rfl rfl rfl underlying32 T30 c2.1 c2.2 rfl fun p1 a S => s_ldA S (fun (c : Unit × Unit × Unit × (Option Addr × Nat) × (Option Addr × Nat)) => (Y30.segs (gt x1 y1) c)) rfl T30 (fun _ => rfl) rfl fun ch1 a S => ?_
   refine bindX h2 fun t1 et1 h3 => s_callP S _ N32 rfl rfl (store_Store_Commit_1.ok k (gt x1 y1) ch1.2.2.2.1.1 ch1.2.2.2.1.2 ch1.2.2.2.2.1 ch1.2.2.2.2.2 t1 et1 _ _) fun ch2 m le1 a w S => c_end ?_
   rcases ite_of h3 with ⟨c3, h4⟩ | ⟨c3, h4⟩
   ·refine c_condT S rfl c3 (c_region (s_move S rfl rfl fun a S => s_assign S rfl rfl fun a S => c_end (wp_ret (x_blockR (x_thenR (x_thenR (x_blockR (x_thenR ?_))))))))
    obtain rfl := Option.some.inj h4
    exact b_ret1 (d := (.i y1)) S rfl rfl (S.rt hb)
   ·refine c_condF S rfl c3 (wp_skip (x_blockN (x_thenN (c_region' (s_bin S rfl rfl rfl rfl fun a S => s_move S rfl rfl fun a S => c_end' (x_thenN ?_))))))
    exact ⟨_, (wr .i64 (y1 + 1)), (S.sb rfl .nil), h4⟩
  ·refine c_condF S rfl c1 (wp_exit (x_thenX (x_thenX (x_blockX (x_thenN ?_)))))
   exact j1 _ a w (S.sub trivial .nil) h1
abbrev api_Account_n31_1f32.Ty : Type := (List L30) → Option Bool
def api_Account_n31_1f32.Ctr (s : api_Account_n31_1f32.Ty) : Prop := ∀ (x1 : List L30) (ch_0_0 : Option Addr) (ch_0_1 : Nat) (r : Bool), Ct (C := Unit) Try.prog 31 (s x1 = some r) [] [(.q Y30 ch_0_0 ch_0_1 x1), (.v (.func (.func 32) #[] #[]))] (fun _ => (.b r)) fun _ => []
def api_Account_n31_1f32.f (k : Nat) (x1 : List L30) : Option Bool := (api_Account_n43_1f32.f k x1).bind fun t1 => (some (decide (0 ≤ t1)))
theorem api_Account_n31_1f32.ok (k : Nat) : api_Account_n31_1f32.Ctr (api_Account_n31_1f32.f k) := by
 intro x1 ch_0_0 ch_0_1 r h0 mi w0 ok hm
 delta api_Account_n31_1f32.f at h0
 refine c_enterZ (n := 9) ok hm func31 rfl rfl rfl fun b0 hb a S => c_region (s_assign S rfl rfl fun a S => c_end (c_region (s_move S rfl rfl fun a S => s_move S rfl rfl fun a S => bindX h0 fun t1 et1 h1 => s_callP S _ N43 rfl rfl (api_Account_n43_1f32.ok k x1 ch_0_0 ch_0_1 t1 et1 _ _) fun ch1 m le1 a w S => s_bin S rfl rfl rfl rfl fun a S => s_assign S rfl rfl fun a S => c_end (wp_ret ?_))))
 obtain rfl := Option.some.inj h1
 exact b_ret1 (d := (.b (decide (0 ≤ t1)))) S rfl rfl (S.rt hb)
abbrev slices_Clone_byte_byte.Ty : Type := (List Int) → Option ((List Int))
def slices_Clone_byte_byte.Ctr (s : slices_Clone_byte_byte.Ty) : Prop := ∀ (x1 : List Int) (ch_0_0 : Option Addr) (ch_0_1 : Nat) (r : (List Int)), Ct (C := ((Option Addr) × Nat × Nat)) Try.prog 44 (s x1 = some r) [] [(.q yb ch_0_0 ch_0_1 x1)] (fun ch => (.s ch.1 ch.2.1 ch.2.2)) fun ch => [Res.row yb 5 ch.1 ch.2.1 ch.2.2 r]
def slices_Clone_byte_byte.f (x1 : List Int) : Option ((List Int)) := if ((([] : List Int)).length + (x1).length) * 1 ≤ 140737488355328 then (some (([] : List Int) ++ x1)) else none
theorem slices_Clone_byte_byte.ok : slices_Clone_byte_byte.Ctr (slices_Clone_byte_byte.f) := by
 intro x1 ch_0_0 ch_0_1 r h0 mi w0 ok hm
 delta slices_Clone_byte_byte.f at h0
 refine c_enterZ (n := 8) ok hm func44 rfl rfl rfl fun b0 hb a S => c_region (s_assign S rfl rfl fun a S => c_end (wp_seq (c_region (s_move S rfl rfl fun a S => s_eqnil S (b := (ch_0_0).isNone) (d := (.q yb ch_0_0 ch_0_1 x1)) rfl rfl underlying27 rfl rfl rfl fun a S => c_end ?_))))
 cases hc : (ch_0_0).isNone
 ·refine c_condF S rfl hc (wp_skip (x_thenN (c_region (s_bldSl S (ty' := yb) (ds := []) (z := 0) (c0 := ()) (ys := ([] : List Int)) (cs := []) rfl underlying27 J5 Z5 rfl ⟨rfl, trivial⟩ rfl rfl rfl rfl rfl rfl fun g1 a w S => s_move S rfl rfl fun a S => ?_))))
  obtain ⟨c1, h1⟩ := chk_of h0; clear h0
  refine s_app S (k2 := ((x1).length)) (ys := x1) rfl (fun _ _ => .h) rfl rfl rfl (RdS.src (S.get 6 (.q yb ch_0_0 ch_0_1 x1) rfl).2.2.2.1 (by decide) S.frz) underlying27 J5 c1 rfl fun A1 cp1 a w S => s_assign S rfl rfl fun a S => c_end (wp_ret ?_)
  obtain rfl := Option.some.inj h1
  exact b_ret1 (d := (.s A1 (0 + ((x1).length)) cp1)) S rfl rfl fun ok => S.retX (Hx := []) hb _ _ ((A1, 0 + ((x1).length), cp1) : (Option Addr) × Nat × Nat) (.c0 .n) ok
 ·have hxs : x1 = [] := rd_nil hc (S.get 3 (.q yb ch_0_0 ch_0_1 x1) rfl).2.2.2.1
  have h1 : (some ([] : List Int)) = some r := by simpa [hxs] using h0
  clear h0
  refine c_condT S rfl hc (c_region (s_assign S rfl rfl fun a S => c_end (wp_ret (x_thenR ?_))))
  replace S := S.nilrow yb 5
  replace S := S.slot (u := 2) (d' := (.s none 0 0)) rfl rfl (S.get 2 (.s none 0 0) rfl).2
  obtain rfl := Option.some.inj h1
  exact b_ret1 (d := (.s none 0 0)) S rfl rfl fun ok => S.retX (Hx := []) hb _ _ ((none, 0, 0) : (Option Addr) × Nat × Nat) (.c0 .n) ok
abbrev api_Slot.Ty : Type := (List ((List Int) × (List Int))) → Option ((List ((List Int) × (List Int))))
def api_Slot.Ctr (s : api_Slot.Ty) : Prop := ∀ (x1 : List ((List Int) × (List Int))) (ch_0_0 : Option Addr) (ch_0_1 : Nat) (r : (List ((List Int) × (List Int)))), Ct (C := ((Option Addr) × Nat × Nat)) Try.prog 45 (s x1 = some r) [] [(.q Y66 ch_0_0 ch_0_1 x1)] (fun ch => (.s ch.1 ch.2.1 ch.2.2)) fun ch => [Res.row Y66 66 ch.1 ch.2.1 ch.2.2 r]
def api_Slot.f (x1 : List ((List Int) × (List Int))) : Option ((List ((List Int) × (List Int)))) := if ((([] : List ((List Int) × (List Int)))).length + (x1).length) * 64 ≤ 140737488355328 then (some (([] : List ((List Int) × (List Int))) ++ x1)) else none
theorem api_Slot.ok : api_Slot.Ctr (api_Slot.f) := by
 intro x1 ch_0_0 ch_0_1 r h0 mi w0 ok hm
 delta api_Slot.f at h0
 refine c_enterZ (n := 8) ok hm func45 rfl rfl rfl fun b0 hb a S => c_region (s_assign S rfl rfl fun a S => c_end (wp_seq (c_region (s_move S rfl rfl fun a S => s_eqnil S (b := (ch_0_0).isNone) (d := (.q Y66 ch_0_0 ch_0_1 x1)) rfl rfl underlying28 rfl rfl rfl fun a S => c_end ?_))))
 cases hc : (ch_0_0).isNone
 ·refine c_condF S rfl hc (wp_skip (x_thenN (c_region (s_bldSl S (ty' := Y66) (ds := []) (z := ([0, 0, 0, 0], [0, 0, 0, 0])) (c0 := ((), ())) (ys := ([] : List ((List Int) × (List Int)))) (cs := []) rfl underlying28 J66 Z66 rfl ⟨rfl, rfl, trivial⟩ rfl rfl rfl rfl rfl rfl fun g1 a w S => s_move S rfl rfl fun a S => ?_))))
  obtain ⟨c1, h1⟩ := chk_of h0; clear h0
  refine s_app S (k2 := ((x1).length)) (ys := x1) rfl (fun _ _ => .h) rfl rfl rfl (RdS.src (S.get 6 (.q Y66 ch_0_0 ch_0_1 x1) rfl).2.2.2.1 (by decide) S.frz) underlying28 J66 c1 rfl fun A1 cp1 a w S => s_assign S rfl rfl fun a S => c_end (wp_ret ?_)
  obtain rfl := Option.some.inj h1
  exact b_ret1 (d := (.s A1 (0 + ((x1).length)) cp1)) S rfl rfl fun ok => S.retX (Hx := []) hb _ _ ((A1, 0 + ((x1).length), cp1) : (Option Addr) × Nat × Nat) (.c0 .n) ok
 ·have hxs : x1 = [] := rd_nil hc (S.get 3 (.q Y66 ch_0_0 ch_0_1 x1) rfl).2.2.2.1
  have h1 : (some ([] : List ((List Int) × (List Int)))) = some r := by simpa [hxs] using h0
  clear h0
  refine c_condT S rfl hc (c_region (s_assign S rfl rfl fun a S => c_end (wp_ret (x_thenR ?_))))
  replace S := S.nilrow Y66 66
  replace S := S.slot (u := 2) (d' := (.s none 0 0)) rfl rfl (S.get 2 (.s none 0 0) rfl).2
  obtain rfl := Option.some.inj h1
  exact b_ret1 (d := (.s none 0 0)) S rfl rfl fun ok => S.retX (Hx := []) hb _ _ ((none, 0, 0) : (Option Addr) × Nat × Nat) (.c0 .n) ok
abbrev store_own.Ty : Type := (L30) → Option ((L30))
def store_own.Ctr (s : store_own.Ty) : Prop := ∀ (x1 : L30) (ch_0_0 : Option Addr) (ch_0_1 : Nat) (ch_0_2 : Option Addr) (ch_0_3 : Nat) (r : (L30)), Ct (C := ((Option Addr) × Nat × Nat × (Option Addr) × Nat × Nat)) Try.prog 33 (s x1 = some r) [] [(.agg (Y30.segs x1 ((), (), (), (ch_0_0, ch_0_1), (ch_0_2, ch_0_3))))] (fun ch => (.agg [.b20 r.1, .w r.2.1, .w4 r.2.2.1, .s ch.1 ch.2.1 ch.2.2.1, .s ch.2.2.2.1 ch.2.2.2.2.1 ch.2.2.2.2.2])) fun ch => [Res.row yb 5 ch.1 ch.2.1 ch.2.2.1 r.2.2.2.1, Res.row Y66 66 ch.2.2.2.1 ch.2.2.2.2.1 ch.2.2.2.2.2 r.2.2.2.2]
def store_own.f (x1 : L30) : Option ((L30)) := (slices_Clone_byte_byte.f x1.2.2.2.1).bind fun t1 => ((api_Slot.f x1.2.2.2.2).bind fun t2 => (some (x1.1, x1.2.1, x1.2.2.1, t1, t2)))
theorem store_own.ok : store_own.Ctr (store_own.f) := by
 intro x1 ch_0_0 ch_0_1 ch_0_2 ch_0_3 r h0 mi w0 ok hm
 delta store_own.f at h0
 refine c_enterZ (n := 12) ok hm func33 rfl rfl rfl fun b0 hb a S => c_region (s_box S rfl rfl rfl fun g1 a w S => s_alloc S Z30 rfl ⟨rfl, rfl, rfl, rfl, rfl, trivial⟩ rfl fun g2 a w S => c_end (c_region (s_fieldAddr S rfl I30_3 T27 (by decide) rfl rfl fun a S => s_loadSl S rfl .h1 T27 (A := ch_0_0) (len := (x1.2.2.2.1).length) (cap := ch_0_1) rfl rfl fun a S => bindX h0 fun t1 et1 h1 => s_callR S (fun (ch : (Option Addr) × Nat × Nat) => ((.s ch.1 ch.2.1 ch.2.2) : D)) (fun (ch : (Option Addr) × Nat × Nat) => Res.row yb 5 ch.1 ch.2.1 ch.2.2 t1) N44 rfl rfl (slices_Clone_byte_byte.ok x1.2.2.2.1 ch_0_0 ch_0_1 t1 et1 _ _) fun ch1 m le1 a w S => s_fieldAddr S rfl I30_3 T27 (by decide) rfl rfl fun a S => s_store S rfl rfl rfl (s' := [.b20 x1.1, .w x1.2.1, .w4 x1.2.2.1, .s ch1.1 ch1.2.1 ch1.2.2, .q Y66 ch_0_2 ch_0_3 x1.2.2.2.2]) .h2 T27 rfl rfl fun w S => c_end (c_region (s_fieldAddr S rfl I30_4 T28 (by decide) rfl rfl fun a S => s_loadSl S rfl .h2 T28 (A := ch_0_2) (len := (x1.2.2.2.2).length) (cap := ch_0_3) rfl rfl fun a S => bindX h1 fun t2 et2 h2 => s_callR S (fun (ch : (Option Addr) × Nat × Nat) => ((.s ch.1 ch.2.1 ch.2.2) : D)) (fun (ch : (Option Addr) × Nat × Nat) => Res.row Y66 66 ch.1 ch.2.1 ch.2.2 t2) N45 rfl rfl (api_Slot.ok x1.2.2.2.2 ch_0_2 ch_0_3 t2 et2 _ _) fun ch2 m le1 a w S => s_fieldAddr S rfl I30_4 T28 (by decide) rfl rfl fun a S => s_store S rfl rfl rfl (s' := [.b20 x1.1, .w x1.2.1, .w4 x1.2.2.1, .s ch1.1 ch1.2.1 ch1.2.2, .s ch2.1 ch2.2.1 ch2.2.2]) .h3 T28 rfl rfl fun w S => c_end (c_region (s_loada S rfl .h3 T30 (s' := [.b20 x1.1, .w x1.2.1, .w4 x1.2.2.1, .s ch1.1 ch1.2.1 ch1.2.2, .s ch2.1 ch2.2.1 ch2.2.2]) rfl rfl fun a S => s_store S rfl rfl rfl (s' := [.b20 x1.1, .w x1.2.1, .w4 x1.2.2.1, .s ch1.1 ch1.2.1 ch1.2.2, .s ch2.1 ch2.2.1 ch2.2.2]) .h2 T30 rfl rfl fun w S => c_end (wp_ret ?_))))))))
 obtain rfl := Option.some.inj h2
 exact b_ret1 (d := (.agg [.b20 x1.1, .w x1.2.1, .w4 x1.2.2.1, .s ch1.1 ch1.2.1 ch1.2.2, .s ch2.1 ch2.2.1 ch2.2.2])) S rfl (resD_cell rfl .h2 T30 rfl rfl) fun ok => S.retX (Hx := []) hb _ _ ((ch1.1, ch1.2.1, ch1.2.2, ch2.1, ch2.2.1, ch2.2.2) : (Option Addr) × Nat × Nat × (Option Addr) × Nat × Nat) (.c1 (.c0 .n)) ok
abbrev store_Store_Commit.Ty : Type := L72 → Int → (List L30) → Option (Int × Int × L72)
def store_Store_Commit.Ctr (s : store_Store_Commit.Ty) : Prop := ∀ (x1 : L72) (x2 : Int) (x3 : List L30) (ch_0_0 : Nat) (ch_0_1 : Option Addr) (ch_0_2 : Nat) (ch_0_3 : Nat) (ch_2_0 : Option Addr) (ch_2_1 : Nat) (r : Int × Int × L72), Ct (C := ((Option Addr) × Nat × Nat)) Try.prog 16 (s x1 x2 x3 = some r) [Res.cells ch_0_0 74 [.s ch_0_1 ch_0_2 ch_0_3], Res.row (Ty.prod yi Y69) 71 ch_0_1 ch_0_2 ch_0_3 x1] [(.p ch_0_0), (.i x2), (.q Y30 ch_2_0 ch_2_1 x3)] (fun _ => (.tup [(false, [.i r.1]), (false, [.i r.2.1])])) fun ch => [Res.cells ch_0_0 74 [.s ch.1 ch.2.1 ch.2.2], Res.row (Ty.prod yi Y69) 71 ch.1 ch.2.1 ch.2.2 r.2.2]
def store_Store_Commit.j1 (x1 : L72) (x2 : Int) (y1 : List ((List Int) × L30)) : Option (Int × Int × L72) := if ((x1).length + ([(x2, y1)]).length) * 16 ≤ 140737488355328 then (some (wr .i64 (((x1 ++ [(x2, y1)]).length : Int) - 1), 0, (x1 ++ [(x2, y1)]))) else none
def store_Store_Commit.b1 (x1 : L72) (x2 : Int) (x3 : List L30) (rec1 : Int → (List ((List Int) × L30)) → Option (Int × Int × L72)) (y4 : Int) (y5 : List ((List Int) × L30)) : Option (Int × Int × L72) := if (decide (y4 < ((x3).length : Int))) = true then (if (0 : Int) ≤ y4 ∧ y4 < ((x3).length : Int) then ((store_own.f (gt x3 y4)).bind fun t5 => (rec1 (wr .i64 (y4 + 1)) (aput y5 ((gt x3 y4).1) t5))) else none) else (store_Store_Commit.j1 x1 x2 y5)
def store_Store_Commit.l1 (x1 : L72) (x2 : Int) (x3 : List L30) : Nat → Int → (List ((List Int) × L30)) → Option (Int × Int × L72)
  | 0, _, _ => none
  | q + 1, y4, y5 => store_Store_Commit.b1 x1 x2 x3 (store_Store_Commit.l1 x1 x2 x3 q) y4 y5
def store_Store_Commit.f (k : Nat) (x1 : L72) (x2 : Int) (x3 : List L30) : Option (Int × Int × L72) := (store_Store_has.f (x1) x2).bind fun t1 => (if (!t1) = true then (some (0, 12, (x1))) else ((api_Account_n31_1f32.f k x3).bind fun t2 => (if t2 = true then (some (0, 1, (x1))) else (if (((x1).length : Int) == 1048576) = true then (some (0, 11, (x1))) else (store_Store_Commit.l1 x1 x2 x3 k 0 ([] : List ((List Int) × L30)))))))
theorem store_Store_Commit.ok (k : Nat) : store_Store_Commit.Ctr (store_Store_Commit.f k) := by
 intro x1 x2 x3 ch_0_0 ch_0_1 ch_0_2 ch_0_3 ch_2_0 ch_2_1 r h0 mi w0 ok hm
 delta store_Store_Commit.f at h0
 refine c_enterZ (n := 61) ok hm func16 rfl rfl rfl fun b0 hb a S => c_region (s_assign S rfl rfl fun a S => s_assign S rfl rfl fun a S => c_end (wp_seq (wp_block (c_region (s_move S rfl rfl fun a S => s_eqp S (b := false) rfl rfl underlying36 rfl rfl fun a S => s_assign S rfl rfl fun a S => c_end (c_condF S rfl rfl (c_region (s_move S rfl rfl fun a S => s_move S rfl rfl fun a S => bindX h0 fun t1 et1 h1 => s_callX S (ds' := [(.p ch_0_0), (.i x2)]) (ds := [(.p ch_0_0), (.i x2)]) [Res.cells ch_0_0 74 [.s ch_0_1 ch_0_2 ch_0_3], Res.row (Ty.prod yi Y69) 71 ch_0_1 ch_0_2 ch_0_3 x1] [] (fun (ch : Unit) => ((.b t1) : D)) (fun (ch : Unit) => [Res.cells ch_0_0 74 [.s ch_0_1 ch_0_2 ch_0_3], Res.row (Ty.prod yi Y69) 71 ch_0_1 ch_0_2 ch_0_3 x1]) (fun (ch : Unit) => [Res.cells ch_0_0 74 [.s ch_0_1 ch_0_2 ch_0_3], Res.row (Ty.prod yi Y69) 71 ch_0_1 ch_0_2 ch_0_3 x1]) (fun _ => rfl) N30 rfl rfl (fun ok => ok) (.c0 (.c0 .n)) rfl (store_Store_has.ok (x1) x2 ch_0_0 ch_0_1 ch_0_2 ch_0_3 t1 et1 _ _) fun ch1 m le1 a w S => s_not S rfl rfl fun a S => s_assign S rfl rfl fun a S => c_end ?_))))))))
 rcases ite_of h1 with ⟨c1, h2⟩ | ⟨c1, h2⟩
 ·refine c_condT S rfl c1 (c_region (s_assign S rfl rfl fun a S => s_assign S rfl rfl fun a S => c_end (wp_ret (x_blockR (x_thenR ?_)))))
  obtain rfl := Option.some.inj h2
  exact b_ret2 (d1 := (.i 0)) (d2 := (.i 12)) S rfl rfl rfl fun ok1 ok2 => S.retX (Hx := []) hb _ _ ((ch_0_1, ch_0_2, ch_0_3) : (Option Addr) × Nat × Nat) (.c0 (.c0 .n)) ⟨⟨ok1, trivial⟩, ⟨ok2, trivial⟩, trivial⟩
 ·refine c_condF S rfl c1 (c_region (s_move S rfl rfl fun a S => bindX h2 fun t2 et2 h3 => s_callP S _ N31 rfl rfl (api_Account_n31_1f32.ok k x3 ch_2_0 ch_2_1 t2 et2 _ _) fun ch2 m le1 a w S => s_assign S rfl rfl fun a S => c_end ?_))
  rcases ite_of h3 with ⟨c2, h4⟩ | ⟨c2, h4⟩
  ·refine c_condT S rfl c2 (c_region (s_assign S rfl rfl fun a S => s_assign S rfl rfl fun a S => c_end (wp_ret (x_blockR (x_thenR ?_)))))
   obtain rfl := Option.some.inj h4
   exact b_ret2 (d1 := (.i 0)) (d2 := (.i 1)) S rfl rfl rfl fun ok1 ok2 => S.retX (Hx := []) hb _ _ ((ch_0_1, ch_0_2, ch_0_3) : (Option Addr) × Nat × Nat) (.c0 (.c0 .n)) ⟨⟨ok1, trivial⟩, ⟨ok2, trivial⟩, trivial⟩
  ·refine c_condF S rfl c2 (c_region (s_move S rfl rfl fun a S => s_nilchk S rfl rfl fun a S => s_fieldAddr S rfl I74_0 T72 (by decide) rfl rfl fun a S => s_load1 S rfl .h T72 (v := (.slice ch_0_1 ch_0_2 ch_0_3)) rfl rfl fun a S => s_lenO S rfl .h1 underlying72 rfl fun a S => s_bin S rfl rfl rfl rfl fun a S => s_assign S rfl rfl fun a S => c_end ?_))
   rcases ite_of h4 with ⟨c3, h5⟩ | ⟨c3, h5⟩
   ·refine c_condT S rfl c3 (c_region (s_assign S rfl rfl fun a S => s_assign S rfl rfl fun a S => c_end (wp_ret (x_blockR (x_thenR ?_)))))
    obtain rfl := Option.some.inj h5
    exact b_ret2 (d1 := (.i 0)) (d2 := (.i 11)) S rfl rfl rfl fun ok1 ok2 => S.retX (Hx := []) hb _ _ ((ch_0_1, ch_0_2, ch_0_3) : (Option Addr) × Nat × Nat) (.c0 (.c0 .n)) ⟨⟨ok1, trivial⟩, ⟨ok2, trivial⟩, trivial⟩
   ·refine c_condF S rfl c3 (wp_skip (x_blockN (x_thenN (c_region (s_move S rfl rfl fun a S => s_makeMap S true (Ty.arr .u8 20) true Y30 rfl fun g1 a w S => s_bldS S (ds := [(0, (.i x2)), (1, (.v (.map (some g1))))]) (zs := [.i 0, .one (.map none)]) (s' := [.i x2, .one (.map (some g1))]) rfl underlying71 P71 Z71 ⟨rfl, rfl, trivial⟩ rfl rfl fun a S => s_alloc S Z71 rfl ⟨rfl, rfl, trivial⟩ rfl fun g2 a w S => s_store S rfl rfl rfl (s' := [.i x2, .one (.map (some g1))]) .h T71 rfl rfl fun w S => c_end (wp_seq_k fun K1 hK1 => ?_))))))
    have j1 : ∀ m g11 g12 y1 a w, St 61 m b0 [(8, (.p g11)), (0, (.p ch_0_0))] [Res.cells g11 71 [.i x2, .one (.map (some g12))], Res.map true (Ty.arr .u8 20) true Y30 g12 y1, Res.cells ch_0_0 74 [.s ch_0_1 ch_0_2 ch_0_3], Res.row (Ty.prod yi Y69) 71 ch_0_1 ch_0_2 ch_0_3 x1] a w → store_Store_Commit.j1 x1 x2 y1 = some r → K1 a w := by
     intro m g11 g12 y1 a w S h0
     delta store_Store_Commit.j1 at h0
     refine hK1 a w ?_
     refine wp_seq (c_heldS S (.take 0 (.take 1 (.take 2 (.take 3 (.take 4 (.alts (.run 5 true (.alts (.run 6 true (.alts (.run 7 true (.take 8 (.take 9 (.alts (.run 10 false .done .nil)))) .nil)) .nil)) .nil))))))) 10 [Res.cells ch_0_0 74 [.s ch_0_1 ch_0_2 ch_0_3]] (.c2 .n) ⟨Res.stay_cells, trivial⟩ [(0, (.p ch_0_0))] ⟨rfl, trivial⟩ (by kernel_rfl) (by kernel_rfl) ?_); clear S; intro w S CL hw le
     refine h_move S CL hw le ⟨rfl, trivial⟩ rfl rfl rfl trivial fun a S CL => h_move S CL hw le (subR rfl) rfl rfl rfl trivial fun a S CL => h_nilchk S CL hw le (subR rfl) rfl rfl rfl rfl trivial fun a S CL => h_fieldAddr S CL hw le (subR rfl) rfl I74_0 T72 (by decide) rfl rfl rfl trivial fun a S CL => h_load1 S CL hw le (subR rfl) rfl .h T72 (v := (.slice ch_0_1 ch_0_2 ch_0_3)) rfl rfl rfl trivial fun a S CL => h_run' S rfl trivial (s_loada S rfl .h T71 (s' := [.i x2, .one (.map (some g12))]) rfl rfl fun a S => CL.bk hw S (.c2 .n) le fun hw => h_run' S rfl trivial ?_)
     replace S := S.mapfro .h1
     obtain ⟨m, le1, S, hro⟩ := S
     replace le := le.trans le1
     replace S := S.slot (u := 50) (d' := (.agg [.i x2, .rf (.map (some g12)) (RdM true (Ty.arr .u8 20) true Y30 (some g12) y1)])) rfl rfl (by have h := (S.get 50 (.agg [.i x2, .one (.map (some g12))]) rfl).2; exact ⟨h.1, (okm_of hro), trivial⟩)
     replace S := S.cellro (s' := [.i x2, .rf (.map (some g12)) (RdM true (Ty.arr .u8 20) true Y30 (some g12) y1)]) .h rfl (fun h => ⟨h.1, (okm_of hro), trivial⟩)
     refine s_bldSl S (ty' := (Ty.prod yi Y69)) (ds := [(0, (.agg [.i x2, .rf (.map (some g12)) (RdM true (Ty.arr .u8 20) true Y30 (some g12) y1)]))]) (z := (0, ([] : List ((List Int) × L30)))) (c0 := ((), none)) (ys := [(x2, y1)]) (cs := [((), (some g12))]) rfl underlying72 J71 Z71 rfl ⟨rfl, okm_nil, trivial⟩ rfl rfl rfl rfl rfl rfl fun g13 a w S => CL.bk hw S (.c2 .n) le fun hw => h_run' S rfl trivial ?_
     obtain ⟨c4, h1⟩ := chk_of h0; clear h0
     refine s_app S (k2 := 1) (ys := [(x2, y1)]) rfl (fun _ _ => .h3) rfl rfl (S.holds _ (Pull.mem .h).1).1 (Res.row.src (S.holds _ (Pull.mem .h).1)) underlying72 J71 c4 rfl fun A1 cp1 a w S => CL.bk hw S (.c2 .n) le fun hw => h_nilchk S CL hw le (subR rfl) rfl rfl rfl rfl trivial fun a S CL => h_fieldAddr S CL hw le (subR rfl) rfl I74_0 T72 (by decide) rfl rfl rfl trivial fun a S CL => h_run' S rfl trivial (s_store S rfl rfl rfl (s' := [.s A1 (ch_0_2 + 1) cp1]) .h2 T72 rfl rfl fun w S => ?_)
     refine h_back ⟨fun h => (nomatch h), ?_⟩
     refine h_done ?_; clear CL hw le
     refine x_thenN (c_region (s_move S rfl rfl fun a S => s_nilchk S rfl rfl fun a S => s_fieldAddr S rfl I74_0 T72 (by decide) rfl rfl fun a S => s_load1 S rfl .h2 T72 (v := (.slice A1 (ch_0_2 + 1) cp1)) rfl rfl fun a S => s_lenO S rfl .h3 underlying72 rfl fun a S => s_bin S rfl rfl rfl rfl fun a S => s_assign S rfl rfl fun a S => s_assign S rfl rfl fun a S => c_end (wp_ret ?_)))
     obtain rfl := Option.some.inj h1
     exact b_ret2 (d1 := (.i (wr .i64 (((x1 ++ [(x2, y1)]).length : Int) - 1)))) (d2 := (.i 0)) S rfl rfl rfl fun ok1 ok2 => S.retX (Hx := []) hb _ _ ((A1, ch_0_2 + 1, cp1) : (Option Addr) × Nat × Nat) (.c2 (.c2 .n)) ⟨⟨ok1, trivial⟩, ⟨ok2, trivial⟩, trivial⟩
    refine c_region (s_move S rfl rfl fun a S => s_lenS S rfl underlying32 rfl fun a S => s_move S rfl rfl fun a S => c_end (wp_block ?_))
    refine c_loop (fun q1 a w => ∃ m y4 g20 g21 y5, St 61 m b0 [(34, (.i y4)), (33, (.i ((x3).length : Int))), (32, (.q Y30 ch_2_0 ch_2_1 x3)), (8, (.p g20)), (0, (.p ch_0_0))] [Res.cells g20 71 [.i x2, .one (.map (some g21))], Res.map true (Ty.arr .u8 20) true Y30 g21 y5, Res.cells ch_0_0 74 [.s ch_0_1 ch_0_2 ch_0_3], Res.row (Ty.prod yi Y69) 71 ch_0_1 ch_0_2 ch_0_3 x1] a w ∧ store_Store_Commit.l1 x1 x2 x3 q1 y4 y5 = some r) ?_ ?_ (k := k) ⟨_, 0, g2, g1, ([] : List ((List Int) × L30)), (S.sb rfl (.c0 (.c0 (.c0 (.c0 .n))))), h5⟩
    ·rintro a w ⟨m, y4, g20, g21, y5, S, h0⟩
     exact (nomatch (show (none : Option (Int × Int × L72)) = some r from h0))
    ·clear S h5
     rintro q1 a w ⟨m, y4, g20, g21, y5, S, h0⟩
     replace h0 : store_Store_Commit.b1 x1 x2 x3 (store_Store_Commit.l1 x1 x2 x3 q1) y4 y5 = some r := h0
     delta store_Store_Commit.b1 at h0
     refine c_region (s_bin S rfl rfl rfl rfl fun a S => c_end (wp_seq ?_))
     rcases ite_of h0 with ⟨c5, h1⟩ | ⟨c5, h1⟩
     ·refine c_condT S rfl c5 (wp_skip (x_thenN (wp_seq (wp_block (c_region ?_)))))
      obtain ⟨c6, h2⟩ := chk_of h1; clear h1
      refine s_iaddrS S rfl rfl rfl underlying32 T30 c6.1 c6.2 rfl fun p1 a S => s_ldA S (fun (c : Unit × Unit × Unit × (Option Addr × Nat) × (Option Addr × Nat)) => (Y30.segs (gt x3 y4) c)) rfl T30 (fun _ => rfl) rfl fun ch7 a S => ?_
      refine s_alloc S Z30 rfl ⟨rfl, rfl, rfl, rfl, rfl, trivial⟩ rfl fun g22 a w S => s_store S rfl rfl rfl (s' := [.b20 ((gt x3 y4).1), .w ((gt x3 y4).2.1), .w4 ((gt x3 y4).2.2.1), .q yb ch7.2.2.2.1.1 ch7.2.2.2.1.2 ((gt x3 y4).2.2.2.1), .q Y66 ch7.2.2.2.2.1 ch7.2.2.2.2.2 ((gt x3 y4).2.2.2.2)]) .h T30 rfl rfl fun w S => c_end (c_heldS S (.take 0 (.take 1 (.take 2 (.take 3 (.take 4 (.alts (.run 5 true (.alts (.run 6 true .done .nil)) .nil))))))) 7 [Res.cells g22 30 (Y30.segs (gt x3 y4) ch7), Res.cells g20 71 [.i x2, .one (.map (some g21))], Res.cells ch_0_0 74 [.s ch_0_1 ch_0_2 ch_0_3]] (.c0 (.c0 (.c1 .n))) ⟨Res.stay_cells, Res.stay_cells, Res.stay_cells, trivial⟩ [(10, (.p g22)), (8, (.p g20))] (subR rfl) (by kernel_rfl) (by kernel_rfl) fun w S CL hw le => ?_)
      refine h_fieldAddr S CL hw le (subR rfl) rfl I71_1 T69 (by decide) rfl rfl rfl trivial fun a S CL => h_load1 S CL hw le (subR rfl) rfl .h1 T69 (v := (.map (some g21))) rfl rfl rfl trivial fun a S CL => h_fieldAddr S CL hw le (subR rfl) rfl I30_0 T23 (by decide) rfl rfl rfl trivial fun a S CL => h_loada S CL hw le (subR rfl) rfl .h T23 (s' := [.b20 ((gt x3 y4).1)]) rfl rfl rfl trivial fun a S CL => h_loada S CL hw le (subR rfl) rfl .h T30 (s' := (Y30.segs (gt x3 y4) ch7)) rfl rfl rfl trivial fun a S CL => h_run' S rfl trivial (bindX h2 fun t5 et5 h3 => s_callX S (ds' := [(.agg (Y30.segs (gt x3 y4) ch7))]) (ds := [(.agg (Y30.segs (gt x3 y4) ch7))]) [] [Res.cells g22 30 (Y30.segs (gt x3 y4) ch7), Res.cells g20 71 [.i x2, .one (.map (some g21))], Res.map true (Ty.arr .u8 20) true Y30 g21 y5, Res.cells ch_0_0 74 [.s ch_0_1 ch_0_2 ch_0_3], Res.row (Ty.prod yi Y69) 71 ch_0_1 ch_0_2 ch_0_3 x1] (fun (ch : (Option Addr) × Nat × Nat × (Option Addr) × Nat × Nat) => ((.agg [.b20 t5.1, .w t5.2.1, .w4 t5.2.2.1, .s ch.1 ch.2.1 ch.2.2.1, .s ch.2.2.2.1 ch.2.2.2.2.1 ch.2.2.2.2.2]) : D)) (fun (ch : (Option Addr) × Nat × Nat × (Option Addr) × Nat × Nat) => [Res.row yb 5 ch.1 ch.2.1 ch.2.2.1 t5.2.2.2.1, Res.row Y66 66 ch.2.2.2.1 ch.2.2.2.2.1 ch.2.2.2.2.2 t5.2.2.2.2]) (fun (ch : (Option Addr) × Nat × Nat × (Option Addr) × Nat × Nat) => [Res.row yb 5 ch.1 ch.2.1 ch.2.2.1 t5.2.2.2.1, Res.row Y66 66 ch.2.2.2.1 ch.2.2.2.2.1 ch.2.2.2.2.2 t5.2.2.2.2, Res.cells g22 30 (Y30.segs (gt x3 y4) ch7), Res.cells g20 71 [.i x2, .one (.map (some g21))], Res.map true (Ty.arr .u8 20) true Y30 g21 y5, Res.cells ch_0_0 74 [.s ch_0_1 ch_0_2 ch_0_3], Res.row (Ty.prod yi Y69) 71 ch_0_1 ch_0_2 ch_0_3 x1]) (fun _ => rfl) N33 rfl rfl (fun ok => ok) (.c0 (.c0 (.c0 (.c0 (.c0 .n))))) rfl (store_own.ok (gt x3 y4) ch7.2.2.2.1.1 ch7.2.2.2.1.2 ch7.2.2.2.2.1 ch7.2.2.2.2.2 t5 et5 _ _) fun ch8 m le1 a w S => ?_)
      replace le := le.trans le1
      refine CL.bk hw S (.c2 (.c2 (.c3 .n))) le fun hw => h_run' S rfl trivial ?_
      replace S := S.rowfro .h
      obtain ⟨m, le1, S, hro⟩ := S
      replace le := le.trans le1
      replace S := S.slot (u := 43) (d' := (.agg [.b20 t5.1, .w t5.2.1, .w4 t5.2.2.1, .q yb ch8.1 ch8.2.2.1 t5.2.2.2.1, .s ch8.2.2.2.1 ch8.2.2.2.2.1 ch8.2.2.2.2.2])) rfl (by simp [D.val, pd, cellsOf, Seg.cells, hro.2.1]) (by have h := (S.get 43 (.agg [.b20 t5.1, .w t5.2.1, .w4 t5.2.2.1, .s ch8.1 ch8.2.1 ch8.2.2.1, .s ch8.2.2.2.1 ch8.2.2.2.2.1 ch8.2.2.2.2.2]) rfl).2; exact ⟨h.1, h.2.1, h.2.2.1, ⟨by have := hro.2.2.1; omega, hro.2.2.2, hro.1, RdS.mono _ _ _⟩, h.2.2.2.2.1, trivial⟩)
      replace S := S.rowfro .h
      obtain ⟨m, le1, S, hro⟩ := S
      replace le := le.trans le1
      replace S := S.slot (u := 43) (d' := (.agg [.b20 t5.1, .w t5.2.1, .w4 t5.2.2.1, .q yb ch8.1 ch8.2.2.1 t5.2.2.2.1, .q Y66 ch8.2.2.2.1 ch8.2.2.2.2.2 t5.2.2.2.2])) rfl (by simp [D.val, pd, cellsOf, Seg.cells, hro.2.1]) (by have h := (S.get 43 (.agg [.b20 t5.1, .w t5.2.1, .w4 t5.2.2.1, .q yb ch8.1 ch8.2.2.1 t5.2.2.2.1, .s ch8.2.2.2.1 ch8.2.2.2.2.1 ch8.2.2.2.2.2]) rfl).2; exact ⟨h.1, h.2.1, h.2.2.1, h.2.2.2.1, ⟨by have := hro.2.2.1; omega, hro.2.2.2, hro.1, RdS.mono _ _ _⟩, trivial⟩)
      refine s_mapput S (k := ((gt x3 y4).1)) (y := t5) rfl .h2 rfl (fun h => ⟨(), rfl, h⟩) rfl (fun h => ⟨((), (), (), (ch8.1, ch8.2.2.1), (ch8.2.2.2.1, ch8.2.2.2.2.2)), rfl, h⟩) underlying69 KT23 fun w S => CL.bk hw S (.c0 (.c0 (.c1 .n))) le fun hw => ?_
      refine h_done ?_; clear CL hw le
      refine x_blockN (x_thenN (c_region' (s_bin S rfl rfl rfl rfl fun a S => s_move S rfl rfl fun a S => c_end' (x_thenN ?_))))
      exact ⟨_, (wr .i64 (y4 + 1)), g20, g21, (aput y5 ((gt x3 y4).1) t5), (S.sb rfl (.c1 (.c1 (.c1 (.c1 .n))))), h3⟩
     ·refine c_condF S rfl c5 (wp_exit (x_thenX (x_thenX (x_blockX (x_thenN ?_)))))
      exact j1 _ g20 g21 y5 a w (S.sb rfl (.c0 (.c0 (.c0 (.c0 .n))))) h1
abbrev store_Store_find.Ty : Type := L72 → Int → (List Int) → Option ((L30) × Bool)
def store_Store_find.Ctr (s : store_Store_find.Ty) : Prop := ∀ (x1 : L72) (x2 : Int) (x3 : List Int) (ch_0_0 : Nat) (ch_0_1 : Option Addr) (ch_0_2 : Nat) (ch_0_3 : Nat) (r : (L30) × Bool), Ct (C := ((Option Addr) × Nat × (Option Addr) × Nat)) Try.prog 37 (s x1 x2 x3 = some r) [Res.cells ch_0_0 74 [.s ch_0_1 ch_0_2 ch_0_3], Res.row (Ty.prod yi Y69) 71 ch_0_1 ch_0_2 ch_0_3 x1] [(.p ch_0_0), (.i x2), (.agg [.b20 x3])] (fun ch => (.tup [(true, (Y30.segs r.1 ((), (), (), (ch.1, ch.2.1), (ch.2.2.1, ch.2.2.2)))), (false, [.b r.2])])) fun _ => [Res.cells ch_0_0 74 [.s ch_0_1 ch_0_2 ch_0_3], Res.row (Ty.prod yi Y69) 71 ch_0_1 ch_0_2 ch_0_3 x1]
abbrev zt1 : (List Int) × Int × (List Int) × (List Int) × (List ((List Int) × (List Int))) := ([0, 0, 0, 0, 0, 0, 0, 0, 0, 0, 0, 0, 0, 0, 0, 0, 0, 0, 0, 0], 0, [0, 0, 0, 0], ([] : List Int), ([] : List ((List Int) × (List Int))))
def store_Store_find.j1 : Option ((L30) × Bool) := some (zt1, false)
def store_Store_find.j2 (x1 : L72) (x3 : List Int) (y1 : Int) (rec1 : Int → Option ((L30) × Bool)) : Option ((L30) × Bool) := if ((lk (aget ((gt x1 y1).2) x3) zt1).2) = true then (some ((lk (aget ((gt x1 y1).2) x3) zt1).1, true)) else (if (0 : Int) ≤ y1 ∧ y1 < ((x1).length : Int) then (rec1 ((gt x1 y1).1)) else none)
def store_Store_find.b1 (x1 : L72) (x3 : List Int) (rec1 : Int → Option ((L30) × Bool)) (y1 : Int) : Option ((L30) × Bool) := if (decide (0 ≤ y1)) = true then (if (0 : Int) ≤ y1 ∧ y1 < ((x1).length : Int) then (store_Store_find.j2 x1 x3 y1 rec1) else none) else store_Store_find.j1
def store_Store_find.l1 (x1 : L72) (x3 : List Int) : Nat → Int → Option ((L30) × Bool)
  | 0, _ => none
  | q + 1, y1 => store_Store_find.b1 x1 x3 (store_Store_find.l1 x1 x3 q) y1
def store_Store_find.f (k : Nat) (x1 : L72) (x2 : Int) (x3 : List Int) : Option ((L30) × Bool) := (store_Store_has.f (x1) x2).bind fun t1 => (if (!t1) = true then (some (zt1, false)) else (store_Store_find.l1 x1 x3 k x2))
theorem store_Store_find.ok (k : Nat) : store_Store_find.Ctr (store_Store_find.f k) := by
 intro x1 x2 x3 ch_0_0 ch_0_1 ch_0_2 ch_0_3 r h0 mi w0 ok hm
 delta store_Store_find.f at h0
 refine c_enterZ (n := 41) ok hm func37 rfl rfl rfl fun b0 hb a S => c_region (s_box S rfl rfl rfl fun g1 a w S => s_alloc S Z30 rfl ⟨rfl, rfl, rfl, rfl, rfl, trivial⟩ rfl fun g2 a w S => s_assign S rfl rfl fun a S => c_end (wp_seq (c_region (s_move S rfl rfl fun a S => s_move S rfl rfl fun a S => bindX h0 fun t1 et1 h1 => s_callX S (ds' := [(.p ch_0_0), (.i x2)]) (ds := [(.p ch_0_0), (.i x2)]) [Res.cells ch_0_0 74 [.s ch_0_1 ch_0_2 ch_0_3], Res.row (Ty.prod yi Y69) 71 ch_0_1 ch_0_2 ch_0_3 x1] [Res.cells g2 30 [.b20 z20, .w 0, .w4 [0, 0, 0, 0], .s none 0 0, .s none 0 0], Res.cells g1 23 [.b20 x3]] (fun (ch : Unit) => ((.b t1) : D)) (fun (ch : Unit) => [Res.cells ch_0_0 74 [.s ch_0_1 ch_0_2 ch_0_3], Res.row (Ty.prod yi Y69) 71 ch_0_1 ch_0_2 ch_0_3 x1]) (fun (ch : Unit) => [Res.cells ch_0_0 74 [.s ch_0_1 ch_0_2 ch_0_3], Res.row (Ty.prod yi Y69) 71 ch_0_1 ch_0_2 ch_0_3 x1, Res.cells g2 30 [.b20 z20, .w 0, .w4 [0, 0, 0, 0], .s none 0 0, .s none 0 0], Res.cells g1 23 [.b20 x3]]) (fun _ => rfl) N30 rfl rfl (fun ok => ok) (.c2 (.c2 (.c0 (.c0 .n)))) rfl (store_Store_has.ok (x1) x2 ch_0_0 ch_0_1 ch_0_2 ch_0_3 t1 et1 _ _) fun ch1 m le1 a w S => s_not S rfl rfl fun a S => c_end ?_))))
 rcases ite_of h1 with ⟨c1, h2⟩ | ⟨c1, h2⟩
 ·refine c_condT S rfl c1 (c_region (s_bldS S (ds := []) (zs := [.b20 z20, .w 0, .w4 [0, 0, 0, 0], .s none 0 0, .s none 0 0]) (s' := [.b20 z20, .w 0, .w4 [0, 0, 0, 0], .s none 0 0, .s none 0 0]) rfl underlying30 P30 Z30 ⟨rfl, rfl, rfl, rfl, rfl, trivial⟩ rfl rfl fun a S => s_store S rfl rfl rfl (s' := [.b20 z20, .w 0, .w4 [0, 0, 0, 0], .s none 0 0, .s none 0 0]) .h2 T30 rfl rfl fun w S => s_assign S rfl rfl fun a S => c_end (wp_ret (x_thenR ?_))))
  replace S := S.cellro (s' := [.b20 z20, .w 0, .w4 [0, 0, 0, 0], .q yb none 0 ([] : List Int), .s none 0 0]) .h2 rfl (fun h => ⟨h.1, h.2.1, h.2.2.1, ok_nil, h.2.2.2.2.1, trivial⟩)
  replace S := S.cellro (s' := [.b20 z20, .w 0, .w4 [0, 0, 0, 0], .q yb none 0 ([] : List Int), .q Y66 none 0 ([] : List ((List Int) × (List Int)))]) .h2 rfl (fun h => ⟨h.1, h.2.1, h.2.2.1, h.2.2.2.1, ok_nil, trivial⟩)
  obtain rfl := Option.some.inj h2
  exact b_ret2 (d1 := (.agg [.b20 z20, .w 0, .w4 [0, 0, 0, 0], .q yb none 0 ([] : List Int), .q Y66 none 0 ([] : List ((List Int) × (List Int)))])) (d2 := (.b false)) S rfl (resD_cell rfl .h2 T30 rfl rfl) rfl fun ok1 ok2 => S.retX (Hx := []) hb _ _ ((none, 0, none, 0) : (Option Addr) × Nat × (Option Addr) × Nat) (.c0 (.c0 .n)) ⟨ok1, ⟨ok2, trivial⟩, trivial⟩
 ·refine c_condF S rfl c1 (wp_skip (x_thenN (wp_seq_k fun K1 hK1 => ?_)))
  have j1 : ∀ m g21 a w, St 41 m b0 [(6, (.p g21))] [Res.cells ch_0_0 74 [.s ch_0_1 ch_0_2 ch_0_3], Res.row (Ty.prod yi Y69) 71 ch_0_1 ch_0_2 ch_0_3 x1, Res.cells g21 30 [.b20 z20, .w 0, .w4 [0, 0, 0, 0], .s none 0 0, .s none 0 0]] a w → store_Store_find.j1 = some r → K1 a w := by
   intro m g21 a w S h0
   delta store_Store_find.j1 at h0
   refine hK1 a w (c_region (s_bldS S (ds := []) (zs := [.b20 z20, .w 0, .w4 [0, 0, 0, 0], .s none 0 0, .s none 0 0]) (s' := [.b20 z20, .w 0, .w4 [0, 0, 0, 0], .s none 0 0, .s none 0 0]) rfl underlying30 P30 Z30 ⟨rfl, rfl, rfl, rfl, rfl, trivial⟩ rfl rfl fun a S => s_store S rfl rfl rfl (s' := [.b20 z20, .w 0, .w4 [0, 0, 0, 0], .s none 0 0, .s none 0 0]) .h2 T30 rfl rfl fun w S => s_assign S rfl rfl fun a S => c_end (wp_ret ?_)))
   replace S := S.cellro (s' := [.b20 z20, .w 0, .w4 [0, 0, 0, 0], .q yb none 0 ([] : List Int), .s none 0 0]) .h2 rfl (fun h => ⟨h.1, h.2.1, h.2.2.1, ok_nil, h.2.2.2.2.1, trivial⟩)
   replace S := S.cellro (s' := [.b20 z20, .w 0, .w4 [0, 0, 0, 0], .q yb none 0 ([] : List Int), .q Y66 none 0 ([] : List ((List Int) × (List Int)))]) .h2 rfl (fun h => ⟨h.1, h.2.1, h.2.2.1, h.2.2.2.1, ok_nil, trivial⟩)
   obtain rfl := Option.some.inj h0
   exact b_ret2 (d1 := (.agg [.b20 z20, .w 0, .w4 [0, 0, 0, 0], .q yb none 0 ([] : List Int), .q Y66 none 0 ([] : List ((List Int) × (List Int)))])) (d2 := (.b false)) S rfl (resD_cell rfl .h2 T30 rfl rfl) rfl fun ok1 ok2 => S.retX (Hx := []) hb _ _ ((none, 0, none, 0) : (Option Addr) × Nat × (Option Addr) × Nat) (.c0 (.c0 .n)) ⟨ok1, ⟨ok2, trivial⟩, trivial⟩
  refine wp_block ?_
  refine c_loop (fun q1 a w => ∃ m g38 g39 y1, St 41 m b0 [(6, (.p g38)), (5, (.p g39)), (0, (.p ch_0_0)), (1, (.i y1))] [Res.cells ch_0_0 74 [.s ch_0_1 ch_0_2 ch_0_3], Res.row (Ty.prod yi Y69) 71 ch_0_1 ch_0_2 ch_0_3 x1, Res.cells g38 30 [.b20 z20, .w 0, .w4 [0, 0, 0, 0], .s none 0 0, .s none 0 0], Res.cells g39 23 [.b20 x3]] a w ∧ store_Store_find.l1 x1 x3 q1 y1 = some r) ?_ ?_ (k := k) ⟨_, g2, g1, x2, (S.sb rfl (.c0 (.c0 (.c0 (.c0 .n))))), h2⟩
  ·rintro a w ⟨m, g38, g39, y1, S, h0⟩
   exact (nomatch (show (none : Option ((L30) × Bool)) = some r from h0))
  ·clear S h2
   rintro q1 a w ⟨m, g38, g39, y1, S, h0⟩
   replace h0 : store_Store_find.b1 x1 x3 (store_Store_find.l1 x1 x3 q1) y1 = some r := h0
   delta store_Store_find.b1 at h0
   refine wp_seq (c_region (s_move S rfl rfl fun a S => s_bin S rfl rfl rfl rfl fun a S => c_end ?_))
   rcases ite_of h0 with ⟨c2, h1⟩ | ⟨c2, h1⟩
   ·refine c_condT S rfl c2 (wp_skip (x_thenN (wp_seq (wp_block (wp_seq_k fun K2 hK2 => ?_)))))
    have j2 : ∀ m g42 g43 g44 A1 cp1 A2 cp2 a w, St 41 m b0 [(9, (.b ((lk (aget ((gt x1 y1).2) x3) zt1).2))), (8, (.p g42)), (6, (.p g43)), (5, (.p g44)), (0, (.p ch_0_0)), (1, (.i y1))] [Res.cells g42 30 (Y30.segs ((lk (aget ((gt x1 y1).2) x3) zt1).1) ((), (), (), (A1, cp1), (A2, cp2))), Res.cells ch_0_0 74 [.s ch_0_1 ch_0_2 ch_0_3], Res.row (Ty.prod yi Y69) 71 ch_0_1 ch_0_2 ch_0_3 x1, Res.cells g43 30 [.b20 z20, .w 0, .w4 [0, 0, 0, 0], .s none 0 0, .s none 0 0], Res.cells g44 23 [.b20 x3]] a w → store_Store_find.j2 x1 x3 y1 (store_Store_find.l1 x1 x3 q1) = some r → K2 a w := by
     intro m g42 g43 g44 A1 cp1 A2 cp2 a w S h0
     delta store_Store_find.j2 at h0
     refine hK2 a w (c_region (s_move S rfl rfl fun a S => c_end ?_))
     rcases ite_of h0 with ⟨c3, h1⟩ | ⟨c3, h1⟩
     ·refine c_condT S rfl c3 (c_region (s_loada S rfl .h T30 (s' := (Y30.segs ((lk (aget ((gt x1 y1).2) x3) zt1).1) ((), (), (), (A1, cp1), (A2, cp2)))) rfl rfl fun a S => s_store S rfl rfl rfl (s' := [.b20 (((lk (aget ((gt x1 y1).2) x3) zt1).1).1), .w (((lk (aget ((gt x1 y1).2) x3) zt1).1).2.1), .w4 (((lk (aget ((gt x1 y1).2) x3) zt1).1).2.2.1), .q yb A1 cp1 (((lk (aget ((gt x1 y1).2) x3) zt1).1).2.2.2.1), .q Y66 A2 cp2 (((lk (aget ((gt x1 y1).2) x3) zt1).1).2.2.2.2)]) .h3 T30 rfl rfl fun w S => s_assign S rfl rfl fun a S => c_end (wp_ret (x_blockR (x_thenR (x_thenR (x_blockR (x_thenR ?_))))))))
      obtain rfl := Option.some.inj h1
      exact b_ret2 (d1 := (.agg (Y30.segs ((lk (aget ((gt x1 y1).2) x3) zt1).1) ((), (), (), (A1, cp1), (A2, cp2))))) (d2 := (.b true)) S rfl (resD_cell rfl .h3 T30 rfl rfl) rfl fun ok1 ok2 => S.retX (Hx := []) hb _ _ ((A1, cp1, A2, cp2) : (Option Addr) × Nat × (Option Addr) × Nat) (.c1 (.c1 .n)) ⟨ok1, ⟨ok2, trivial⟩, trivial⟩
     ·refine c_condF S rfl c3 (wp_skip (x_blockN (x_thenN (c_region' (s_move S rfl rfl fun a S => s_nilchk S rfl rfl fun a S => s_fieldAddr S rfl I74_0 T72 (by decide) rfl rfl fun a S => s_load1 S rfl .h1 T72 (v := (.slice ch_0_1 ch_0_2 ch_0_3)) rfl rfl fun a S => s_move S rfl rfl fun a S => ?_)))))
      obtain ⟨c4, h2⟩ := chk_of h1; clear h1
      refine s_iaddrO S (ty' := (Ty.prod yi Y69)) rfl .h2 rfl underlying72 T71 c4.1 c4.2 rfl fun g45 a hA1 S => s_fieldAddr S rfl I71_0 T3 (by decide) rfl rfl fun a S => s_ldR1 S (ty' := (Ty.prod yi Y69)) (i := y1) (off := 0) (v := (.int .i64 ((gt x1 y1).1))) rfl hA1 .h2 T3 c4.1 c4.2 rfl (fun _ => rfl) rfl fun a S => s_assign S rfl rfl fun a S => c_end' (x_thenN ?_)
      exact ⟨_, g43, g44, ((gt x1 y1).1), (S.sb rfl (.c1 (.c1 (.c1 (.c1 .n))))), h2⟩
    refine c_heldS S (.take 0 (.take 1 (.take 2 (.take 3 (.take 4 (.take 8 (.alts (.run 5 true (.take 6 (.alts (.run 7 true (.alts (.run 9 true (.alts (.run 10 true (.alts (.run 11 true (.alts (.run 12 true (.alts (.run 13 true (.alts (.run 14 true (.take 15 .done) .nil)) .nil)) (.run 13 true (.alts (.run 12 true (.alts (.run 14 true (.take 15 .done) .nil)) (.run 14 true (.alts (.run 12 true (.take 15 .done) .nil)) .nil))) .nil))) (.run 12 true (.alts (.run 11 true (.alts (.run 13 true (.alts (.run 14 true (.take 15 .done) .nil)) .nil)) (.run 13 true (.alts (.run 11 true (.alts (.run 14 true (.take 15 .done) .nil)) .nil)) .nil))) (.run 13 true (.alts (.run 11 true (.alts (.run 12 true (.alts (.run 14 true (.take 15 .done) .nil)) (.run 14 true (.alts (.run 12 true (.take 15 .done) .nil)) .nil))) (.run 12 true (.alts (.run 11 true (.alts (.run 14 true (.take 15 .done) .nil)) .nil)) .nil))) .nil)))) (.run 13 true (.alts (.run 10 true (.alts (.run 11 true (.alts (.run 12 true (.alts (.run 14 true (.take 15 .done) .nil)) (.run 14 true (.alts (.run 12 true (.take 15 .done) .nil)) .nil))) (.run 12 true (.alts (.run 11 true (.alts (.run 14 true (.take 15 .done) .nil)) .nil)) .nil))) .nil)) .nil))) (.run 13 true (.alts (.run 9 true (.alts (.run 10 true (.alts (.run 11 true (.alts (.run 12 true (.alts (.run 14 true (.take 15 .done) .nil)) (.run 14 true (.alts (.run 12 true (.take 15 .done) .nil)) .nil))) (.run 12 true (.alts (.run 11 true (.alts (.run 14 true (.take 15 .done) .nil)) .nil)) .nil))) .nil)) .nil)) .nil))) (.run 13 true (.alts (.run 7 true (.alts (.run 9 true (.alts (.run 10 true (.alts (.run 11 true (.alts (.run 12 true (.alts (.run 14 true (.take 15 .done) .nil)) (.run 14 true (.alts (.run 12 true (.take 15 .done) .nil)) .nil))) (.run 12 true (.alts (.run 11 true (.alts (.run 14 true (.take 15 .done) .nil)) .nil)) .nil))) .nil)) .nil)) .nil)) .nil)))) (.run 13 true (.alts (.run 5 true (.take 6 (.alts (.run 7 true (.alts (.run 9 true (.alts (.run 10 true (.alts (.run 11 true (.alts (.run 12 true (.alts (.run 14 true (.take 15 .done) .nil)) (.run 14 true (.alts (.run 12 true (.take 15 .done) .nil)) .nil))) (.run 12 true (.alts (.run 11 true (.alts (.run 14 true (.take 15 .done) .nil)) .nil)) .nil))) .nil)) .nil)) .nil))) .nil)) .nil))))))))) 16 [Res.cells ch_0_0 74 [.s ch_0_1 ch_0_2 ch_0_3], Res.cells g38 30 [.b20 z20, .w 0, .w4 [0, 0, 0, 0], .s none 0 0, .s none 0 0], Res.cells g39 23 [.b20 x3]] (.c0 (.c1 (.c1 .n))) ⟨Res.stay_cells, Res.stay_cells, Res.stay_cells, trivial⟩ [(5, (.p g39)), (0, (.p ch_0_0)), (1, (.i y1))] (subR rfl) (by kernel_rfl) (by kernel_rfl) fun w S CL hw le => ?_
    refine h_move S CL hw le (subR rfl) rfl rfl rfl trivial fun a S CL => h_nilchk S CL hw le (subR rfl) rfl rfl rfl rfl trivial fun a S CL => h_fieldAddr S CL hw le (subR rfl) rfl I74_0 T72 (by decide) rfl rfl rfl trivial fun a S CL => h_load1 S CL hw le (subR rfl) rfl .h T72 (v := (.slice ch_0_1 ch_0_2 ch_0_3)) rfl rfl rfl trivial fun a S CL => h_move S CL hw le (subR rfl) rfl rfl rfl trivial fun a S CL => h_loada S CL hw le (subR rfl) rfl .h2 T23 (s' := [.b20 x3]) rfl rfl rfl trivial fun a S CL => ?_
    obtain ⟨c5, h2⟩ := chk_of h1; clear h1
    refine h_alts ?_
    refine h_runO S rfl trivial ?_ ?_
    ·refine s_iaddrO S (ty' := (Ty.prod yi Y69)) rfl .h1 rfl underlying72 T71 c5.1 c5.2 rfl fun g46 a hA2 S => CL.bk hw S (.c0 (.c1 (.c1 .n))) le fun hw => ?_
     replace CL := CL.add (t := 31) (d := (.v (.pointer (some ⟨g46, Int.toNat y1 * ((Ty.prod yi Y69)).size, none⟩)))) S rfl rfl
     refine h_fieldAddr S CL hw le (subR rfl) rfl I71_1 T69 (by decide) rfl rfl rfl trivial fun a S CL => h_alts ?_
     refine h_runO S rfl trivial ?_ ?_
     ·refine s_ldRM S (ty' := (Ty.prod yi Y69)) (i := y1) (off := 1) (fun (c : Unit × (Option Nat)) => c.2) rfl hA2 .h1 T69 c5.1 c5.2 rfl (fun _ => rfl) rfl fun mg1 a S => CL.bk hw S (.c0 (.c1 (.c1 .n))) le fun hw => h_alts ?_
      refine h_runO S rfl trivial ?_ ?_
      ·refine s_lookR S (z := zt1) (k := x3) rfl ((), (), (), (none, 0), (none, 0)) rfl (fun h => ⟨(), rfl, h⟩) underlying69 KT23 Z30 ⟨rfl, rfl, rfl, ⟨Nat.le_refl _, Nat.zero_le _, RdS.nil _ _ _, RdS.mono _ _ _⟩, ⟨Nat.le_refl _, Nat.zero_le _, RdS.nil _ _ _, RdS.mono _ _ _⟩, trivial⟩ rfl fun ch3 a S => CL.bk hw S (.c0 (.c1 (.c1 .n))) le fun hw => h_alts ?_
       refine h_runO S rfl trivial ?_ ?_
       ·refine s_move S rfl rfl fun a S => CL.bk hw S (.c0 (.c1 (.c1 .n))) le fun hw => h_alts ?_
        refine h_runO S rfl trivial ?_ ?_
        ·refine s_extract S rfl rfl rfl rfl fun a S => CL.bk hw S (.c0 (.c1 (.c1 .n))) le fun hw => h_alts ?_
         refine h_runO S rfl trivial ?_ ?_
         ·refine s_extract S rfl rfl rfl rfl fun a S => CL.bk hw S (.c0 (.c1 (.c1 .n))) le fun hw => ?_
          replace CL := CL.add (t := 37) (d := (.b ((lk (aget ((gt x1 y1).2) x3) zt1).2))) S rfl rfl
          refine h_run' S rfl trivial (s_alloc S Z30 rfl ⟨rfl, rfl, rfl, rfl, rfl, trivial⟩ rfl fun g47 a w S => CL.bk hw S (.c1 (.c2 (.c2 .n))) le fun hw => h_run' S rfl trivial (s_store S rfl rfl rfl (s' := [.b20 (((lk (aget ((gt x1 y1).2) x3) zt1).1).1), .w (((lk (aget ((gt x1 y1).2) x3) zt1).1).2.1), .w4 (((lk (aget ((gt x1 y1).2) x3) zt1).1).2.2.1), .q yb ch3.2.2.2.1.1 ch3.2.2.2.1.2 (((lk (aget ((gt x1 y1).2) x3) zt1).1).2.2.2.1), .q Y66 ch3.2.2.2.2.1 ch3.2.2.2.2.2 (((lk (aget ((gt x1 y1).2) x3) zt1).1).2.2.2.2)]) .h T30 rfl rfl fun w S => CL.bk hw S (.c1 (.c2 (.c2 .n))) le fun hw => h_assign S CL hw le (subR rfl) rfl rfl rfl trivial fun a S CL => ?_))
          refine h_done ?_; clear CL hw le
          refine x_thenN ?_
          exact j2 _ g47 g38 g39 ch3.2.2.2.1.1 ch3.2.2.2.1.2 ch3.2.2.2.2.1 ch3.2.2.2.2.2 a w (S.sb rfl (.c0 (.c0 (.c0 (.c0 (.c0 .n)))))) h2
         refine h_runO S rfl trivial ?_ ?_
         ·refine s_alloc S Z30 rfl ⟨rfl, rfl, rfl, rfl, rfl, trivial⟩ rfl fun g47 a w S => CL.bk hw S (.c1 (.c2 (.c2 .n))) le fun hw => h_alts ?_
          refine h_runO S rfl trivial ?_ ?_
          ·refine s_extract S rfl rfl rfl rfl fun a S => CL.bk hw S (.c1 (.c2 (.c2 .n))) le fun hw => ?_
           replace CL := CL.add (t := 37) (d := (.b ((lk (aget ((gt x1 y1).2) x3) zt1).2))) S rfl rfl
           refine h_run' S rfl trivial (s_store S rfl rfl rfl (s' := [.b20 (((lk (aget ((gt x1 y1).2) x3) zt1).1).1), .w (((lk (aget ((gt x1 y1).2) x3) zt1).1).2.1), .w4 (((lk (aget ((gt x1 y1).2) x3) zt1).1).2.2.1), .q yb ch3.2.2.2.1.1 ch3.2.2.2.1.2 (((lk (aget ((gt x1 y1).2) x3) zt1).1).2.2.2.1), .q Y66 ch3.2.2.2.2.1 ch3.2.2.2.2.2 (((lk (aget ((gt x1 y1).2) x3) zt1).1).2.2.2.2)]) .h T30 rfl rfl fun w S => CL.bk hw S (.c1 (.c2 (.c2 .n))) le fun hw => h_assign S CL hw le (subR rfl) rfl rfl rfl trivial fun a S CL => ?_)
           refine h_done ?_; clear CL hw le
           refine x_thenN ?_
           exact j2 _ g47 g38 g39 ch3.2.2.2.1.1 ch3.2.2.2.1.2 ch3.2.2.2.2.1 ch3.2.2.2.2.2 a w (S.sb rfl (.c0 (.c0 (.c0 (.c0 (.c0 .n)))))) h2
          refine h_runO S rfl trivial ?_ ?_
          ·refine s_store S rfl rfl rfl (s' := [.b20 (((lk (aget ((gt x1 y1).2) x3) zt1).1).1), .w (((lk (aget ((gt x1 y1).2) x3) zt1).1).2.1), .w4 (((lk (aget ((gt x1 y1).2) x3) zt1).1).2.2.1), .q yb ch3.2.2.2.1.1 ch3.2.2.2.1.2 (((lk (aget ((gt x1 y1).2) x3) zt1).1).2.2.2.1), .q Y66 ch3.2.2.2.2.1 ch3.2.2.2.2.2 (((lk (aget ((gt x1 y1).2) x3) zt1).1).2.2.2.2)]) .h T30 rfl rfl fun w S => CL.bk hw S (.c1 (.c2 (.c2 .n))) le fun hw => h_run' S rfl trivial (s_extract S rfl rfl rfl rfl fun a S => CL.bk hw S (.c1 (.c2 (.c2 .n))) le fun hw => ?_)
           replace CL := CL.add (t := 37) (d := (.b ((lk (aget ((gt x1 y1).2) x3) zt1).2))) S rfl rfl
           refine h_assign S CL hw le (subR rfl) rfl rfl rfl trivial fun a S CL => ?_
           refine h_done ?_; clear CL hw le
           refine x_thenN ?_
           exact j2 _ g47 g38 g39 ch3.2.2.2.1.1 ch3.2.2.2.1.2 ch3.2.2.2.2.1 ch3.2.2.2.2.2 a w (S.sb rfl (.c0 (.c0 (.c0 (.c0 (.c0 .n)))))) h2
          exact h_nil
         exact h_nil
        refine h_runO S rfl trivial ?_ ?_
        ·refine s_extract S rfl rfl rfl rfl fun a S => CL.bk hw S (.c0 (.c1 (.c1 .n))) le fun hw => ?_
         replace CL := CL.add (t := 37) (d := (.b ((lk (aget ((gt x1 y1).2) x3) zt1).2))) S rfl rfl
         refine h_alts ?_
         refine h_runO S rfl trivial ?_ ?_
         ·refine s_extract S rfl rfl rfl rfl fun a S => CL.bk hw S (.c0 (.c1 (.c1 .n))) le fun hw => h_run' S rfl trivial (s_alloc S Z30 rfl ⟨rfl, rfl, rfl, rfl, rfl, trivial⟩ rfl fun g47 a w S => CL.bk hw S (.c1 (.c2 (.c2 .n))) le fun hw => h_run' S rfl trivial (s_store S rfl rfl rfl (s' := [.b20 (((lk (aget ((gt x1 y1).2) x3) zt1).1).1), .w (((lk (aget ((gt x1 y1).2) x3) zt1).1).2.1), .w4 (((lk (aget ((gt x1 y1).2) x3) zt1).1).2.2.1), .q yb ch3.2.2.2.1.1 ch3.2.2.2.1.2 (((lk (aget ((gt x1 y1).2) x3) zt1).1).2.2.2.1), .q Y66 ch3.2.2.2.2.1 ch3.2.2.2.2.2 (((lk (aget ((gt x1 y1).2) x3) zt1).1).2.2.2.2)]) .h T30 rfl rfl fun w S => CL.bk hw S (.c1 (.c2 (.c2 .n))) le fun hw => h_assign S CL hw le (subR rfl) rfl rfl rfl trivial fun a S CL => ?_))
          refine h_done ?_; clear CL hw le
          refine x_thenN ?_
          exact j2 _ g47 g38 g39 ch3.2.2.2.1.1 ch3.2.2.2.1.2 ch3.2.2.2.2.1 ch3.2.2.2.2.2 a w (S.sb rfl (.c0 (.c0 (.c0 (.c0 (.c0 .n)))))) h2
         refine h_runO S rfl trivial ?_ ?_
         ·refine s_alloc S Z30 rfl ⟨rfl, rfl, rfl, rfl, rfl, trivial⟩ rfl fun g47 a w S => CL.bk hw S (.c1 (.c2 (.c2 .n))) le fun hw => h_run' S rfl trivial (s_extract S rfl rfl rfl rfl fun a S => CL.bk hw S (.c1 (.c2 (.c2 .n))) le fun hw => h_run' S rfl trivial (s_store S rfl rfl rfl (s' := [.b20 (((lk (aget ((gt x1 y1).2) x3) zt1).1).1), .w (((lk (aget ((gt x1 y1).2) x3) zt1).1).2.1), .w4 (((lk (aget ((gt x1 y1).2) x3) zt1).1).2.2.1), .q yb ch3.2.2.2.1.1 ch3.2.2.2.1.2 (((lk (aget ((gt x1 y1).2) x3) zt1).1).2.2.2.1), .q Y66 ch3.2.2.2.2.1 ch3.2.2.2.2.2 (((lk (aget ((gt x1 y1).2) x3) zt1).1).2.2.2.2)]) .h T30 rfl rfl fun w S => CL.bk hw S (.c1 (.c2 (.c2 .n))) le fun hw => h_assign S CL hw le (subR rfl) rfl rfl rfl trivial fun a S CL => ?_))
          refine h_done ?_; clear CL hw le
          refine x_thenN ?_
          exact j2 _ g47 g38 g39 ch3.2.2.2.1.1 ch3.2.2.2.1.2 ch3.2.2.2.2.1 ch3.2.2.2.2.2 a w (S.sb rfl (.c0 (.c0 (.c0 (.c0 (.c0 .n)))))) h2
         exact h_nil
        refine h_runO S rfl trivial ?_ ?_
        ·refine s_alloc S Z30 rfl ⟨rfl, rfl, rfl, rfl, rfl, trivial⟩ rfl fun g47 a w S => CL.bk hw S (.c1 (.c2 (.c2 .n))) le fun hw => h_alts ?_
         refine h_runO S rfl trivial ?_ ?_
         ·refine s_extract S rfl rfl rfl rfl fun a S => CL.bk hw S (.c1 (.c2 (.c2 .n))) le fun hw => h_alts ?_
          refine h_runO S rfl trivial ?_ ?_
          ·refine s_extract S rfl rfl rfl rfl fun a S => CL.bk hw S (.c1 (.c2 (.c2 .n))) le fun hw => ?_
           replace CL := CL.add (t := 37) (d := (.b ((lk (aget ((gt x1 y1).2) x3) zt1).2))) S rfl rfl
           refine h_run' S rfl trivial (s_store S rfl rfl rfl (s' := [.b20 (((lk (aget ((gt x1 y1).2) x3) zt1).1).1), .w (((lk (aget ((gt x1 y1).2) x3) zt1).1).2.1), .w4 (((lk (aget ((gt x1 y1).2) x3) zt1).1).2.2.1), .q yb ch3.2.2.2.1.1 ch3.2.2.2.1.2 (((lk (aget ((gt x1 y1).2) x3) zt1).1).2.2.2.1), .q Y66 ch3.2.2.2.2.1 ch3.2.2.2.2.2 (((lk (aget ((gt x1 y1).2) x3) zt1).1).2.2.2.2)]) .h T30 rfl rfl fun w S => CL.bk hw S (.c1 (.c2 (.c2 .n))) le fun hw => h_assign S CL hw le (subR rfl) rfl rfl rfl trivial fun a S CL => ?_)
           refine h_done ?_; clear CL hw le
           refine x_thenN ?_
           exact j2 _ g47 g38 g39 ch3.2.2.2.1.1 ch3.2.2.2.1.2 ch3.2.2.2.2.1 ch3.2.2.2.2.2 a w (S.sb rfl (.c0 (.c0 (.c0 (.c0 (.c0 .n)))))) h2
          refine h_runO S rfl trivial ?_ ?_
          ·refine s_store S rfl rfl rfl (s' := [.b20 (((lk (aget ((gt x1 y1).2) x3) zt1).1).1), .w (((lk (aget ((gt x1 y1).2) x3) zt1).1).2.1), .w4 (((lk (aget ((gt x1 y1).2) x3) zt1).1).2.2.1), .q yb ch3.2.2.2.1.1 ch3.2.2.2.1.2 (((lk (aget ((gt x1 y1).2) x3) zt1).1).2.2.2.1), .q Y66 ch3.2.2.2.2.1 ch3.2.2.2.2.2 (((lk (aget ((gt x1 y1).2) x3) zt1).1).2.2.2.2)]) .h T30 rfl rfl fun w S => CL.bk hw S (.c1 (.c2 (.c2 .n))) le fun hw => h_run' S rfl trivial (s_extract S rfl rfl rfl rfl fun a S => CL.bk hw S (.c1 (.c2 (.c2 .n))) le fun hw => ?_)
           replace CL := CL.add (t := 37) (d := (.b ((lk (aget ((gt x1 y1).2) x3) zt1).2))) S rfl rfl
           refine h_assign S CL hw le (subR rfl) rfl rfl rfl trivial fun a S CL => ?_
           refine h_done ?_; clear CL hw le
           refine x_thenN ?_
           exact j2 _ g47 g38 g39 ch3.2.2.2.1.1 ch3.2.2.2.1.2 ch3.2.2.2.2.1 ch3.2.2.2.2.2 a w (S.sb rfl (.c0 (.c0 (.c0 (.c0 (.c0 .n)))))) h2
          exact h_nil
         refine h_runO S rfl trivial ?_ ?_
         ·refine s_extract S rfl rfl rfl rfl fun a S => CL.bk hw S (.c1 (.c2 (.c2 .n))) le fun hw => ?_
          replace CL := CL.add (t := 37) (d := (.b ((lk (aget ((gt x1 y1).2) x3) zt1).2))) S rfl rfl
          refine h_run' S rfl trivial (s_extract S rfl rfl rfl rfl fun a S => CL.bk hw S (.c1 (.c2 (.c2 .n))) le fun hw => h_run' S rfl trivial (s_store S rfl rfl rfl (s' := [.b20 (((lk (aget ((gt x1 y1).2) x3) zt1).1).1), .w (((lk (aget ((gt x1 y1).2) x3) zt1).1).2.1), .w4 (((lk (aget ((gt x1 y1).2) x3) zt1).1).2.2.1), .q yb ch3.2.2.2.1.1 ch3.2.2.2.1.2 (((lk (aget ((gt x1 y1).2) x3) zt1).1).2.2.2.1), .q Y66 ch3.2.2.2.2.1 ch3.2.2.2.2.2 (((lk (aget ((gt x1 y1).2) x3) zt1).1).2.2.2.2)]) .h T30 rfl rfl fun w S => CL.bk hw S (.c1 (.c2 (.c2 .n))) le fun hw => h_assign S CL hw le (subR rfl) rfl rfl rfl trivial fun a S CL => ?_))
          refine h_done ?_; clear CL hw le
          refine x_thenN ?_
          exact j2 _ g47 g38 g39 ch3.2.2.2.1.1 ch3.2.2.2.1.2 ch3.2.2.2.2.1 ch3.2.2.2.2.2 a w (S.sb rfl (.c0 (.c0 (.c0 (.c0 (.c0 .n)))))) h2
         exact h_nil
        exact h_nil
       refine h_runO S rfl trivial ?_ ?_
       ·refine s_alloc S Z30 rfl ⟨rfl, rfl, rfl, rfl, rfl, trivial⟩ rfl fun g47 a w S => CL.bk hw S (.c1 (.c2 (.c2 .n))) le fun hw => h_run' S rfl trivial (s_move S rfl rfl fun a S => CL.bk hw S (.c1 (.c2 (.c2 .n))) le fun hw => h_alts ?_)
        refine h_runO S rfl trivial ?_ ?_
        ·refine s_extract S rfl rfl rfl rfl fun a S => CL.bk hw S (.c1 (.c2 (.c2 .n))) le fun hw => h_alts ?_
         refine h_runO S rfl trivial ?_ ?_
         ·refine s_extract S rfl rfl rfl rfl fun a S => CL.bk hw S (.c1 (.c2 (.c2 .n))) le fun hw => ?_
          replace CL := CL.add (t := 37) (d := (.b ((lk (aget ((gt x1 y1).2) x3) zt1).2))) S rfl rfl
          refine h_run' S rfl trivial (s_store S rfl rfl rfl (s' := [.b20 (((lk (aget ((gt x1 y1).2) x3) zt1).1).1), .w (((lk (aget ((gt x1 y1).2) x3) zt1).1).2.1), .w4 (((lk (aget ((gt x1 y1).2) x3) zt1).1).2.2.1), .q yb ch3.2.2.2.1.1 ch3.2.2.2.1.2 (((lk (aget ((gt x1 y1).2) x3) zt1).1).2.2.2.1), .q Y66 ch3.2.2.2.2.1 ch3.2.2.2.2.2 (((lk (aget ((gt x1 y1).2) x3) zt1).1).2.2.2.2)]) .h T30 rfl rfl fun w S => CL.bk hw S (.c1 (.c2 (.c2 .n))) le fun hw => h_assign S CL hw le (subR rfl) rfl rfl rfl trivial fun a S CL => ?_)
          refine h_done ?_; clear CL hw le
          refine x_thenN ?_
          exact j2 _ g47 g38 g39 ch3.2.2.2.1.1 ch3.2.2.2.1.2 ch3.2.2.2.2.1 ch3.2.2.2.2.2 a w (S.sb rfl (.c0 (.c0 (.c0 (.c0 (.c0 .n)))))) h2
         refine h_runO S rfl trivial ?_ ?_
         ·refine s_store S rfl rfl rfl (s' := [.b20 (((lk (aget ((gt x1 y1).2) x3) zt1).1).1), .w (((lk (aget ((gt x1 y1).2) x3) zt1).1).2.1), .w4 (((lk (aget ((gt x1 y1).2) x3) zt1).1).2.2.1), .q yb ch3.2.2.2.1.1 ch3.2.2.2.1.2 (((lk (aget ((gt x1 y1).2) x3) zt1).1).2.2.2.1), .q Y66 ch3.2.2.2.2.1 ch3.2.2.2.2.2 (((lk (aget ((gt x1 y1).2) x3) zt1).1).2.2.2.2)]) .h T30 rfl rfl fun w S => CL.bk hw S (.c1 (.c2 (.c2 .n))) le fun hw => h_run' S rfl trivial (s_extract S rfl rfl rfl rfl fun a S => CL.bk hw S (.c1 (.c2 (.c2 .n))) le fun hw => ?_)
          replace CL := CL.add (t := 37) (d := (.b ((lk (aget ((gt x1 y1).2) x3) zt1).2))) S rfl rfl
          refine h_assign S CL hw le (subR rfl) rfl rfl rfl trivial fun a S CL => ?_
          refine h_done ?_; clear CL hw le
          refine x_thenN ?_
          exact j2 _ g47 g38 g39 ch3.2.2.2.1.1 ch3.2.2.2.1.2 ch3.2.2.2.2.1 ch3.2.2.2.2.2 a w (S.sb rfl (.c0 (.c0 (.c0 (.c0 (.c0 .n)))))) h2
         exact h_nil
        refine h_runO S rfl trivial ?_ ?_
        ·refine s_extract S rfl rfl rfl rfl fun a S => CL.bk hw S (.c1 (.c2 (.c2 .n))) le fun hw => ?_
         replace CL := CL.add (t := 37) (d := (.b ((lk (aget ((gt x1 y1).2) x3) zt1).2))) S rfl rfl
         refine h_run' S rfl trivial (s_extract S rfl rfl rfl rfl fun a S => CL.bk hw S (.c1 (.c2 (.c2 .n))) le fun hw => h_run' S rfl trivial (s_store S rfl rfl rfl (s' := [.b20 (((lk (aget ((gt x1 y1).2) x3) zt1).1).1), .w (((lk (aget ((gt x1 y1).2) x3) zt1).1).2.1), .w4 (((lk (aget ((gt x1 y1).2) x3) zt1).1).2.2.1), .q yb ch3.2.2.2.1.1 ch3.2.2.2.1.2 (((lk (aget ((gt x1 y1).2) x3) zt1).1).2.2.2.1), .q Y66 ch3.2.2.2.2.1 ch3.2.2.2.2.2 (((lk (aget ((gt x1 y1).2) x3) zt1).1).2.2.2.2)]) .h T30 rfl rfl fun w S => CL.bk hw S (.c1 (.c2 (.c2 .n))) le fun hw => h_assign S CL hw le (subR rfl) rfl rfl rfl trivial fun a S CL => ?_))
         refine h_done ?_; clear CL hw le
         refine x_thenN ?_
         exact j2 _ g47 g38 g39 ch3.2.2.2.1.1 ch3.2.2.2.1.2 ch3.2.2.2.2.1 ch3.2.2.2.2.2 a w (S.sb rfl (.c0 (.c0 (.c0 (.c0 (.c0 .n)))))) h2
        exact h_nil
       exact h_nil
      refine h_runO S rfl trivial ?_ ?_
      ·refine s_alloc S Z30 rfl ⟨rfl, rfl, rfl, rfl, rfl, trivial⟩ rfl fun g47 a w S => CL.bk hw S (.c1 (.c2 (.c2 .n))) le fun hw => h_run' S rfl trivial (s_lookR S (z := zt1) (k := x3) rfl ((), (), (), (none, 0), (none, 0)) rfl (fun h => ⟨(), rfl, h⟩) underlying69 KT23 Z30 ⟨rfl, rfl, rfl, ⟨Nat.le_refl _, Nat.zero_le _, RdS.nil _ _ _, RdS.mono _ _ _⟩, ⟨Nat.le_refl _, Nat.zero_le _, RdS.nil _ _ _, RdS.mono _ _ _⟩, trivial⟩ rfl fun ch3 a S => CL.bk hw S (.c1 (.c2 (.c2 .n))) le fun hw => h_run' S rfl trivial (s_move S rfl rfl fun a S => CL.bk hw S (.c1 (.c2 (.c2 .n))) le fun hw => h_alts ?_))
       refine h_runO S rfl trivial ?_ ?_
       ·refine s_extract S rfl rfl rfl rfl fun a S => CL.bk hw S (.c1 (.c2 (.c2 .n))) le fun hw => h_alts ?_
        refine h_runO S rfl trivial ?_ ?_
        ·refine s_extract S rfl rfl rfl rfl fun a S => CL.bk hw S (.c1 (.c2 (.c2 .n))) le fun hw => ?_
         replace CL := CL.add (t := 37) (d := (.b ((lk (aget ((gt x1 y1).2) x3) zt1).2))) S rfl rfl
         refine h_run' S rfl trivial (s_store S rfl rfl rfl (s' := [.b20 (((lk (aget ((gt x1 y1).2) x3) zt1).1).1), .w (((lk (aget ((gt x1 y1).2) x3) zt1).1).2.1), .w4 (((lk (aget ((gt x1 y1).2) x3) zt1).1).2.2.1), .q yb ch3.2.2.2.1.1 ch3.2.2.2.1.2 (((lk (aget ((gt x1 y1).2) x3) zt1).1).2.2.2.1), .q Y66 ch3.2.2.2.2.1 ch3.2.2.2.2.2 (((lk (aget ((gt x1 y1).2) x3) zt1).1).2.2.2.2)]) .h T30 rfl rfl fun w S => CL.bk hw S (.c1 (.c2 (.c2 .n))) le fun hw => h_assign S CL hw le (subR rfl) rfl rfl rfl trivial fun a S CL => ?_)
         refine h_done ?_; clear CL hw le
         refine x_thenN ?_
         exact j2 _ g47 g38 g39 ch3.2.2.2.1.1 ch3.2.2.2.1.2 ch3.2.2.2.2.1 ch3.2.2.2.2.2 a w (S.sb rfl (.c0 (.c0 (.c0 (.c0 (.c0 .n)))))) h2
        refine h_runO S rfl trivial ?_ ?_
        ·refine s_store S rfl rfl rfl (s' := [.b20 (((lk (aget ((gt x1 y1).2) x3) zt1).1).1), .w (((lk (aget ((gt x1 y1).2) x3) zt1).1).2.1), .w4 (((lk (aget ((gt x1 y1).2) x3) zt1).1).2.2.1), .q yb ch3.2.2.2.1.1 ch3.2.2.2.1.2 (((lk (aget ((gt x1 y1).2) x3) zt1).1).2.2.2.1), .q Y66 ch3.2.2.2.2.1 ch3.2.2.2.2.2 (((lk (aget ((gt x1 y1).2) x3) zt1).1).2.2.2.2)]) .h T30 rfl rfl fun w S => CL.bk hw S (.c1 (.c2 (.c2 .n))) le fun hw => h_run' S rfl trivial (s_extract S rfl rfl rfl rfl fun a S => CL.bk hw S (.c1 (.c2 (.c2 .n))) le fun hw => ?_)
         replace CL := CL.add (t := 37) (d := (.b ((lk (aget ((gt x1 y1).2) x3) zt1).2))) S rfl rfl
         refine h_assign S CL hw le (subR rfl) rfl rfl rfl trivial fun a S CL => ?_
         refine h_done ?_; clear CL hw le
         refine x_thenN ?_
         exact j2 _ g47 g38 g39 ch3.2.2.2.1.1 ch3.2.2.2.1.2 ch3.2.2.2.2.1 ch3.2.2.2.2.2 a w (S.sb rfl (.c0 (.c0 (.c0 (.c0 (.c0 .n)))))) h2
        exact h_nil
       refine h_runO S rfl trivial ?_ ?_
       ·refine s_extract S rfl rfl rfl rfl fun a S => CL.bk hw S (.c1 (.c2 (.c2 .n))) le fun hw => ?_
        replace CL := CL.add (t := 37) (d := (.b ((lk (aget ((gt x1 y1).2) x3) zt1).2))) S rfl rfl
        refine h_run' S rfl trivial (s_extract S rfl rfl rfl rfl fun a S => CL.bk hw S (.c1 (.c2 (.c2 .n))) le fun hw => h_run' S rfl trivial (s_store S rfl rfl rfl (s' := [.b20 (((lk (aget ((gt x1 y1).2) x3) zt1).1).1), .w (((lk (aget ((gt x1 y1).2) x3) zt1).1).2.1), .w4 (((lk (aget ((gt x1 y1).2) x3) zt1).1).2.2.1), .q yb ch3.2.2.2.1.1 ch3.2.2.2.1.2 (((lk (aget ((gt x1 y1).2) x3) zt1).1).2.2.2.1), .q Y66 ch3.2.2.2.2.1 ch3.2.2.2.2.2 (((lk (aget ((gt x1 y1).2) x3) zt1).1).2.2.2.2)]) .h T30 rfl rfl fun w S => CL.bk hw S (.c1 (.c2 (.c2 .n))) le fun hw => h_assign S CL hw le (subR rfl) rfl rfl rfl trivial fun a S CL => ?_))
        refine h_done ?_; clear CL hw le
        refine x_thenN ?_
        exact j2 _ g47 g38 g39 ch3.2.2.2.1.1 ch3.2.2.2.1.2 ch3.2.2.2.2.1 ch3.2.2.2.2.2 a w (S.sb rfl (.c0 (.c0 (.c0 (.c0 (.c0 .n)))))) h2
       exact h_nil
      exact h_nil
     refine h_runO S rfl trivial ?_ ?_
     ·refine s_alloc S Z30 rfl ⟨rfl, rfl, rfl, rfl, rfl, trivial⟩ rfl fun g47 a w S => CL.bk hw S (.c1 (.c2 (.c2 .n))) le fun hw => h_run' S rfl trivial (s_ldRM S (ty' := (Ty.prod yi Y69)) (i := y1) (off := 1) (fun (c : Unit × (Option Nat)) => c.2) rfl hA2 .h2 T69 c5.1 c5.2 rfl (fun _ => rfl) rfl fun mg1 a S => CL.bk hw S (.c1 (.c2 (.c2 .n))) le fun hw => h_run' S rfl trivial (s_lookR S (z := zt1) (k := x3) rfl ((), (), (), (none, 0), (none, 0)) rfl (fun h => ⟨(), rfl, h⟩) underlying69 KT23 Z30 ⟨rfl, rfl, rfl, ⟨Nat.le_refl _, Nat.zero_le _, RdS.nil _ _ _, RdS.mono _ _ _⟩, ⟨Nat.le_refl _, Nat.zero_le _, RdS.nil _ _ _, RdS.mono _ _ _⟩, trivial⟩ rfl fun ch3 a S => CL.bk hw S (.c1 (.c2 (.c2 .n))) le fun hw => h_run' S rfl trivial (s_move S rfl rfl fun a S => CL.bk hw S (.c1 (.c2 (.c2 .n))) le fun hw => h_alts ?_)))
      refine h_runO S rfl trivial ?_ ?_
      ·refine s_extract S rfl rfl rfl rfl fun a S => CL.bk hw S (.c1 (.c2 (.c2 .n))) le fun hw => h_alts ?_
       refine h_runO S rfl trivial ?_ ?_
       ·refine s_extract S rfl rfl rfl rfl fun a S => CL.bk hw S (.c1 (.c2 (.c2 .n))) le fun hw => ?_
        replace CL := CL.add (t := 37) (d := (.b ((lk (aget ((gt x1 y1).2) x3) zt1).2))) S rfl rfl
        refine h_run' S rfl trivial (s_store S rfl rfl rfl (s' := [.b20 (((lk (aget ((gt x1 y1).2) x3) zt1).1).1), .w (((lk (aget ((gt x1 y1).2) x3) zt1).1).2.1), .w4 (((lk (aget ((gt x1 y1).2) x3) zt1).1).2.2.1), .q yb ch3.2.2.2.1.1 ch3.2.2.2.1.2 (((lk (aget ((gt x1 y1).2) x3) zt1).1).2.2.2.1), .q Y66 ch3.2.2.2.2.1 ch3.2.2.2.2.2 (((lk (aget ((gt x1 y1).2) x3) zt1).1).2.2.2.2)]) .h T30 rfl rfl fun w S => CL.bk hw S (.c1 (.c2 (.c2 .n))) le fun hw => h_assign S CL hw le (subR rfl) rfl rfl rfl trivial fun a S CL => ?_)
        refine h_done ?_; clear CL hw le
        refine x_thenN ?_
        exact j2 _ g47 g38 g39 ch3.2.2.2.1.1 ch3.2.2.2.1.2 ch3.2.2.2.2.1 ch3.2.2.2.2.2 a w (S.sb rfl (.c0 (.c0 (.c0 (.c0 (.c0 .n)))))) h2
       refine h_runO S rfl trivial ?_ ?_
       ·refine s_store S rfl rfl rfl (s' := [.b20 (((lk (aget ((gt x1 y1).2) x3) zt1).1).1), .w (((lk (aget ((gt x1 y1).2) x3) zt1).1).2.1), .w4 (((lk (aget ((gt x1 y1).2) x3) zt1).1).2.2.1), .q yb ch3.2.2.2.1.1 ch3.2.2.2.1.2 (((lk (aget ((gt x1 y1).2) x3) zt1).1).2.2.2.1), .q Y66 ch3.2.2.2.2.1 ch3.2.2.2.2.2 (((lk (aget ((gt x1 y1).2) x3) zt1).1).2.2.2.2)]) .h T30 rfl rfl fun w S => CL.bk hw S (.c1 (.c2 (.c2 .n))) le fun hw => h_run' S rfl trivial (s_extract S rfl rfl rfl rfl fun a S => CL.bk hw S (.c1 (.c2 (.c2 .n))) le fun hw => ?_)
        replace CL := CL.add (t := 37) (d := (.b ((lk (aget ((gt x1 y1).2) x3) zt1).2))) S rfl rfl
        refine h_assign S CL hw le (subR rfl) rfl rfl rfl trivial fun a S CL => ?_
        refine h_done ?_; clear CL hw le
        refine x_thenN ?_
        exact j2 _ g47 g38 g39 ch3.2.2.2.1.1 ch3.2.2.2.1.2 ch3.2.2.2.2.1 ch3.2.2.2.2.2 a w (S.sb rfl (.c0 (.c0 (.c0 (.c0 (.c0 .n)))))) h2
       exact h_nil
      refine h_runO S rfl trivial ?_ ?_
      ·refine s_extract S rfl rfl rfl rfl fun a S => CL.bk hw S (.c1 (.c2 (.c2 .n))) le fun hw => ?_
       replace CL := CL.add (t := 37) (d := (.b ((lk (aget ((gt x1 y1).2) x3) zt1).2))) S rfl rfl
       refine h_run' S rfl trivial (s_extract S rfl rfl rfl rfl fun a S => CL.bk hw S (.c1 (.c2 (.c2 .n))) le fun hw => h_run' S rfl trivial (s_store S rfl rfl rfl (s' := [.b20 (((lk (aget ((gt x1 y1).2) x3) zt1).1).1), .w (((lk (aget ((gt x1 y1).2) x3) zt1).1).2.1), .w4 (((lk (aget ((gt x1 y1).2) x3) zt1).1).2.2.1), .q yb ch3.2.2.2.1.1 ch3.2.2.2.1.2 (((lk (aget ((gt x1 y1).2) x3) zt1).1).2.2.2.1), .q Y66 ch3.2.2.2.2.1 ch3.2.2.2.2.2 (((lk (aget ((gt x1 y1).2) x3) zt1).1).2.2.2.2)]) .h T30 rfl rfl fun w S => CL.bk hw S (.c1 (.c2 (.c2 .n))) le fun hw => h_assign S CL hw le (subR rfl) rfl rfl rfl trivial fun a S CL => ?_))
       refine h_done ?_; clear CL hw le
       refine x_thenN ?_
       exact j2 _ g47 g38 g39 ch3.2.2.2.1.1 ch3.2.2.2.1.2 ch3.2.2.2.2.1 ch3.2.2.2.2.2 a w (S.sb rfl (.c0 (.c0 (.c0 (.c0 (.c0 .n)))))) h2
      exact h_nil
     exact h_nil
    refine h_runO S rfl trivial ?_ ?_
    ·refine s_alloc S Z30 rfl ⟨rfl, rfl, rfl, rfl, rfl, trivial⟩ rfl fun g46 a w S => CL.bk hw S (.c1 (.c2 (.c2 .n))) le fun hw => h_run' S rfl trivial (s_iaddrO S (ty' := (Ty.prod yi Y69)) rfl .h2 rfl underlying72 T71 c5.1 c5.2 rfl fun g47 a hA2 S => CL.bk hw S (.c1 (.c2 (.c2 .n))) le fun hw => ?_)
     replace CL := CL.add (t := 31) (d := (.v (.pointer (some ⟨g47, Int.toNat y1 * ((Ty.prod yi Y69)).size, none⟩)))) S rfl rfl
     refine h_fieldAddr S CL hw le (subR rfl) rfl I71_1 T69 (by decide) rfl rfl rfl trivial fun a S CL => h_run' S rfl trivial (s_ldRM S (ty' := (Ty.prod yi Y69)) (i := y1) (off := 1) (fun (c : Unit × (Option Nat)) => c.2) rfl hA2 .h2 T69 c5.1 c5.2 rfl (fun _ => rfl) rfl fun mg1 a S => CL.bk hw S (.c1 (.c2 (.c2 .n))) le fun hw => h_run' S rfl trivial (s_lookR S (z := zt1) (k := x3) rfl ((), (), (), (none, 0), (none, 0)) rfl (fun h => ⟨(), rfl, h⟩) underlying69 KT23 Z30 ⟨rfl, rfl, rfl, ⟨Nat.le_refl _, Nat.zero_le _, RdS.nil _ _ _, RdS.mono _ _ _⟩, ⟨Nat.le_refl _, Nat.zero_le _, RdS.nil _ _ _, RdS.mono _ _ _⟩, trivial⟩ rfl fun ch3 a S => CL.bk hw S (.c1 (.c2 (.c2 .n))) le fun hw => h_run' S rfl trivial (s_move S rfl rfl fun a S => CL.bk hw S (.c1 (.c2 (.c2 .n))) le fun hw => h_alts ?_)))
     refine h_runO S rfl trivial ?_ ?_
     ·refine s_extract S rfl rfl rfl rfl fun a S => CL.bk hw S (.c1 (.c2 (.c2 .n))) le fun hw => h_alts ?_
      refine h_runO S rfl trivial ?_ ?_
      ·refine s_extract S rfl rfl rfl rfl fun a S => CL.bk hw S (.c1 (.c2 (.c2 .n))) le fun hw => ?_
       replace CL := CL.add (t := 37) (d := (.b ((lk (aget ((gt x1 y1).2) x3) zt1).2))) S rfl rfl
       refine h_run' S rfl trivial (s_store S rfl rfl rfl (s' := [.b20 (((lk (aget ((gt x1 y1).2) x3) zt1).1).1), .w (((lk (aget ((gt x1 y1).2) x3) zt1).1).2.1), .w4 (((lk (aget ((gt x1 y1).2) x3) zt1).1).2.2.1), .q yb ch3.2.2.2.1.1 ch3.2.2.2.1.2 (((lk (aget ((gt x1 y1).2) x3) zt1).1).2.2.2.1), .q Y66 ch3.2.2.2.2.1 ch3.2.2.2.2.2 (((lk (aget ((gt x1 y1).2) x3) zt1).1).2.2.2.2)]) .h T30 rfl rfl fun w S => CL.bk hw S (.c1 (.c2 (.c2 .n))) le fun hw => h_assign S CL hw le (subR rfl) rfl rfl rfl trivial fun a S CL => ?_)
       refine h_done ?_; clear CL hw le
       refine x_thenN ?_
       exact j2 _ g46 g38 g39 ch3.2.2.2.1.1 ch3.2.2.2.1.2 ch3.2.2.2.2.1 ch3.2.2.2.2.2 a w (S.sb rfl (.c0 (.c0 (.c0 (.c0 (.c0 .n)))))) h2
      refine h_runO S rfl trivial ?_ ?_
      ·refine s_store S rfl rfl rfl (s' := [.b20 (((lk (aget ((gt x1 y1).2) x3) zt1).1).1), .w (((lk (aget ((gt x1 y1).2) x3) zt1).1).2.1), .w4 (((lk (aget ((gt x1 y1).2) x3) zt1).1).2.2.1), .q yb ch3.2.2.2.1.1 ch3.2.2.2.1.2 (((lk (aget ((gt x1 y1).2) x3) zt1).1).2.2.2.1), .q Y66 ch3.2.2.2.2.1 ch3.2.2.2.2.2 (((lk (aget ((gt x1 y1).2) x3) zt1).1).2.2.2.2)]) .h T30 rfl rfl fun w S => CL.bk hw S (.c1 (.c2 (.c2 .n))) le fun hw => h_run' S rfl trivial (s_extract S rfl rfl rfl rfl fun a S => CL.bk hw S (.c1 (.c2 (.c2 .n))) le fun hw => ?_)
       replace CL := CL.add (t := 37) (d := (.b ((lk (aget ((gt x1 y1).2) x3) zt1).2))) S rfl rfl
       refine h_assign S CL hw le (subR rfl) rfl rfl rfl trivial fun a S CL => ?_
       refine h_done ?_; clear CL hw le
       refine x_thenN ?_
       exact j2 _ g46 g38 g39 ch3.2.2.2.1.1 ch3.2.2.2.1.2 ch3.2.2.2.2.1 ch3.2.2.2.2.2 a w (S.sb rfl (.c0 (.c0 (.c0 (.c0 (.c0 .n)))))) h2
      exact h_nil
     refine h_runO S rfl trivial ?_ ?_
     ·refine s_extract S rfl rfl rfl rfl fun a S => CL.bk hw S (.c1 (.c2 (.c2 .n))) le fun hw => ?_
      replace CL := CL.add (t := 37) (d := (.b ((lk (aget ((gt x1 y1).2) x3) zt1).2))) S rfl rfl
      refine h_run' S rfl trivial (s_extract S rfl rfl rfl rfl fun a S => CL.bk hw S (.c1 (.c2 (.c2 .n))) le fun hw => h_run' S rfl trivial (s_store S rfl rfl rfl (s' := [.b20 (((lk (aget ((gt x1 y1).2) x3) zt1).1).1), .w (((lk (aget ((gt x1 y1).2) x3) zt1).1).2.1), .w4 (((lk (aget ((gt x1 y1).2) x3) zt1).1).2.2.1), .q yb ch3.2.2.2.1.1 ch3.2.2.2.1.2 (((lk (aget ((gt x1 y1).2) x3) zt1).1).2.2.2.1), .q Y66 ch3.2.2.2.2.1 ch3.2.2.2.2.2 (((lk (aget ((gt x1 y1).2) x3) zt1).1).2.2.2.2)]) .h T30 rfl rfl fun w S => CL.bk hw S (.c1 (.c2 (.c2 .n))) le fun hw => h_assign S CL hw le (subR rfl) rfl rfl rfl trivial fun a S CL => ?_))
      refine h_done ?_; clear CL hw le
      refine x_thenN ?_
      exact j2 _ g46 g38 g39 ch3.2.2.2.1.1 ch3.2.2.2.1.2 ch3.2.2.2.2.1 ch3.2.2.2.2.2 a w (S.sb rfl (.c0 (.c0 (.c0 (.c0 (.c0 .n)))))) h2
     exact h_nil
    exact h_nil
   ·refine c_condF S rfl c2 (wp_exit (x_thenX (x_thenX (x_blockX (x_thenN ?_)))))
    exact j1 _ g38 a w (S.sub ⟨rfl, trivial⟩ (.c0 (.c0 (.c0 .n)))) h1
abbrev store_Store_Find.Ty : Type := L72 → Int → (List Int) → Option ((L30) × Bool)
def store_Store_Find.Ctr (s : store_Store_Find.Ty) : Prop := ∀ (x1 : L72) (x2 : Int) (x3 : List Int) (ch_0_0 : Nat) (ch_0_1 : Option Addr) (ch_0_2 : Nat) (ch_0_3 : Nat) (r : (L30) × Bool), Ct (C := ((Option Addr) × Nat × Nat × (Option Addr) × Nat × Nat)) Try.prog 20 (s x1 x2 x3 = some r) [Res.cells ch_0_0 74 [.s ch_0_1 ch_0_2 ch_0_3], Res.row (Ty.prod yi Y69) 71 ch_0_1 ch_0_2 ch_0_3 x1] [(.p ch_0_0), (.i x2), (.agg [.b20 x3])] (fun ch => (.tup [(true, [.b20 r.1.1, .w r.1.2.1, .w4 r.1.2.2.1, .s ch.1 ch.2.1 ch.2.2.1, .s ch.2.2.2.1 ch.2.2.2.2.1 ch.2.2.2.2.2]), (false, [.b r.2])])) fun ch => [Res.row yb 5 ch.1 ch.2.1 ch.2.2.1 r.1.2.2.2.1, Res.row Y66 66 ch.2.2.2.1 ch.2.2.2.2.1 ch.2.2.2.2.2 r.1.2.2.2.2, Res.cells ch_0_0 74 [.s ch_0_1 ch_0_2 ch_0_3], Res.row (Ty.prod yi Y69) 71 ch_0_1 ch_0_2 ch_0_3 x1]
def store_Store_Find.f (k : Nat) (x1 : L72) (x2 : Int) (x3 : List Int) : Option ((L30) × Bool) := (store_Store_find.f k (x1) x2 x3).bind fun t1 => ((store_own.f t1.1).bind fun t2 => (some (t2, t1.2)))
theorem store_Store_Find.ok (k : Nat) : store_Store_Find.Ctr (store_Store_Find.f k) := by
 intro x1 x2 x3 ch_0_0 ch_0_1 ch_0_2 ch_0_3 r h0 mi w0 ok hm
 delta store_Store_Find.f at h0
 refine c_enterZ (n := 20) ok hm func20 rfl rfl rfl fun b0 hb a S => c_region (s_box S rfl rfl rfl fun g1 a w S => s_alloc S Z30 rfl ⟨rfl, rfl, rfl, rfl, rfl, trivial⟩ rfl fun g2 a w S => s_assign S rfl rfl fun a S => c_end (c_region (s_move S rfl rfl fun a S => s_move S rfl rfl fun a S => s_loada S rfl .h1 T23 (s' := [.b20 x3]) rfl rfl fun a S => bindX h0 fun t1 et1 h1 => s_callX S (ds' := [(.p ch_0_0), (.i x2), (.agg [.b20 x3])]) (ds := [(.p ch_0_0), (.i x2), (.agg [.b20 x3])]) [Res.cells ch_0_0 74 [.s ch_0_1 ch_0_2 ch_0_3], Res.row (Ty.prod yi Y69) 71 ch_0_1 ch_0_2 ch_0_3 x1] [Res.cells g2 30 [.b20 z20, .w 0, .w4 [0, 0, 0, 0], .s none 0 0, .s none 0 0], Res.cells g1 23 [.b20 x3]] (fun (ch : (Option Addr) × Nat × (Option Addr) × Nat) => ((.tup [(true, (Y30.segs t1.1 ((), (), (), (ch.1, ch.2.1), (ch.2.2.1, ch.2.2.2)))), (false, [.b t1.2])]) : D)) (fun (ch : (Option Addr) × Nat × (Option Addr) × Nat) => [Res.cells ch_0_0 74 [.s ch_0_1 ch_0_2 ch_0_3], Res.row (Ty.prod yi Y69) 71 ch_0_1 ch_0_2 ch_0_3 x1]) (fun (ch : (Option Addr) × Nat × (Option Addr) × Nat) => [Res.cells ch_0_0 74 [.s ch_0_1 ch_0_2 ch_0_3], Res.row (Ty.prod yi Y69) 71 ch_0_1 ch_0_2 ch_0_3 x1, Res.cells g2 30 [.b20 z20, .w 0, .w4 [0, 0, 0, 0], .s none 0 0, .s none 0 0], Res.cells g1 23 [.b20 x3]]) (fun _ => rfl) N37 rfl rfl (fun ok => ok) (.c2 (.c2 (.c0 (.c0 .n)))) rfl (store_Store_find.ok k (x1) x2 x3 ch_0_0 ch_0_1 ch_0_2 ch_0_3 t1 et1 _ _) fun ch1 m le1 a w S => s_move S rfl rfl fun a S => s_extract S rfl rfl rfl rfl fun a S => s_extract S rfl rfl rfl rfl fun a S => s_alloc S Z30 rfl ⟨rfl, rfl, rfl, rfl, rfl, trivial⟩ rfl fun g3 a w S => s_store S rfl rfl rfl (s' := [.b20 t1.1.1, .w t1.1.2.1, .w4 t1.1.2.2.1, .q yb ch1.1 ch1.2.1 t1.1.2.2.2.1, .q Y66 ch1.2.2.1 ch1.2.2.2 t1.1.2.2.2.2]) .h T30 rfl rfl fun w S => s_assign S rfl rfl fun a S => c_end (c_region (s_loada S rfl .h T30 (s' := (Y30.segs t1.1 ((), (), (), (ch1.1, ch1.2.1), (ch1.2.2.1, ch1.2.2.2)))) rfl rfl fun a S => bindX h1 fun t2 et2 h2 => s_callX S (ds' := [(.agg (Y30.segs t1.1 ((), (), (), (ch1.1, ch1.2.1), (ch1.2.2.1, ch1.2.2.2))))]) (ds := [(.agg (Y30.segs t1.1 ((), (), (), (ch1.1, ch1.2.1), (ch1.2.2.1, ch1.2.2.2))))]) [] [Res.cells g3 30 (Y30.segs t1.1 ((), (), (), (ch1.1, ch1.2.1), (ch1.2.2.1, ch1.2.2.2))), Res.cells ch_0_0 74 [.s ch_0_1 ch_0_2 ch_0_3], Res.row (Ty.prod yi Y69) 71 ch_0_1 ch_0_2 ch_0_3 x1, Res.cells g2 30 [.b20 z20, .w 0, .w4 [0, 0, 0, 0], .s none 0 0, .s none 0 0], Res.cells g1 23 [.b20 x3]] (fun (ch : (Option Addr) × Nat × Nat × (Option Addr) × Nat × Nat) => ((.agg [.b20 t2.1, .w t2.2.1, .w4 t2.2.2.1, .s ch.1 ch.2.1 ch.2.2.1, .s ch.2.2.2.1 ch.2.2.2.2.1 ch.2.2.2.2.2]) : D)) (fun (ch : (Option Addr) × Nat × Nat × (Option Addr) × Nat × Nat) => [Res.row yb 5 ch.1 ch.2.1 ch.2.2.1 t2.2.2.2.1, Res.row Y66 66 ch.2.2.2.1 ch.2.2.2.2.1 ch.2.2.2.2.2 t2.2.2.2.2]) (fun (ch : (Option Addr) × Nat × Nat × (Option Addr) × Nat × Nat) => [Res.row yb 5 ch.1 ch.2.1 ch.2.2.1 t2.2.2.2.1, Res.row Y66 66 ch.2.2.2.1 ch.2.2.2.2.1 ch.2.2.2.2.2 t2.2.2.2.2, Res.cells g3 30 (Y30.segs t1.1 ((), (), (), (ch1.1, ch1.2.1), (ch1.2.2.1, ch1.2.2.2))), Res.cells ch_0_0 74 [.s ch_0_1 ch_0_2 ch_0_3], Res.row (Ty.prod yi Y69) 71 ch_0_1 ch_0_2 ch_0_3 x1, Res.cells g2 30 [.b20 z20, .w 0, .w4 [0, 0, 0, 0], .s none 0 0, .s none 0 0], Res.cells g1 23 [.b20 x3]]) (fun _ => rfl) N33 rfl rfl (fun ok => ok) (.c0 (.c0 (.c0 (.c0 (.c0 .n))))) rfl (store_own.ok t1.1 ch1.1 ch1.2.1 ch1.2.2.1 ch1.2.2.2 t2 et2 _ _) fun ch2 m le1 a w S => s_move S rfl rfl fun a S => s_store S rfl rfl rfl (s' := [.b20 t2.1, .w t2.2.1, .w4 t2.2.2.1, .s ch2.1 ch2.2.1 ch2.2.2.1, .s ch2.2.2.2.1 ch2.2.2.2.2.1 ch2.2.2.2.2.2]) .h5 T30 rfl rfl fun w S => s_assign S rfl rfl fun a S => c_end (wp_ret ?_))))))
 obtain rfl := Option.some.inj h2
 exact b_ret2 (d1 := (.agg [.b20 t2.1, .w t2.2.1, .w4 t2.2.2.1, .s ch2.1 ch2.2.1 ch2.2.2.1, .s ch2.2.2.2.1 ch2.2.2.2.2.1 ch2.2.2.2.2.2])) (d2 := (.b t1.2)) S rfl (resD_cell rfl .h5 T30 rfl rfl) rfl fun ok1 ok2 => S.retX (Hx := []) hb _ _ ((ch2.1, ch2.2.1, ch2.2.2.1, ch2.2.2.2.1, ch2.2.2.2.2.1, ch2.2.2.2.2.2) : (Option Addr) × Nat × Nat × (Option Addr) × Nat × Nat) (.c0 (.c0 (.c1 (.c1 .n)))) ⟨ok1, ⟨ok2, trivial⟩, trivial⟩
end
end GW
