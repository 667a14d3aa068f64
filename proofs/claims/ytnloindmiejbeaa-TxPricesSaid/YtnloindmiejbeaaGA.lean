/-
  Printed by a program of these sessions (wip/gw/gx.py): for each Go function a Lean function with the same answers, and the walk that shows it.
-/
import Derived.Test.YtnloindmiejbeaaProg
import Derived.Test.YtnloindmiejbeaaGWRQui
set_option linter.unusedVariables false
set_option maxRecDepth 10000
namespace GW
open Go Go.RowKit Go.Proofs
theorem T30 : tyI Try.prog 30 = some (true, 57) := by kernel_rfl
theorem I30_5 : fieldI Try.prog 30 5 = some (46, 27) := by kernel_rfl
theorem T27 : tyI Try.prog 27 = some (false, 1) := by kernel_rfl
theorem I30_9 : fieldI Try.prog 30 9 = some (56, 28) := by kernel_rfl
theorem T28 : tyI Try.prog 28 = some (false, 1) := by kernel_rfl
theorem T63 : tyI Try.prog 63 = some (true, 21) := by kernel_rfl
theorem I63_1 : fieldI Try.prog 63 1 = some (20, 61) := by kernel_rfl
theorem T61 : tyI Try.prog 61 = some (false, 1) := by kernel_rfl
theorem N5 : Fn_ Try.prog 5 := ⟨_, Try.func5, rfl, by decide⟩
theorem P30 : ∀ w : World, ((match Try.prog.underlying 30 with | some (.struct fs) => fs | _ => (#[] : Array Field)).mapM fun (f : Field) => (do pure (f.offset, ← Go.sizeOf f.type) : Sem (Nat × Nat))).run Try.prog w = .ok #[(0, 20), (20, 20), (40, 1), (41, 1), (42, 4), (46, 1), (47, 1), (48, 4), (52, 4), (56, 1)] w := fun _ => by kernel_rfl
theorem Z30 : zeroI Try.prog 30 = some (D.val (.agg [.ints .u8 [0, 0, 0, 0, 0, 0, 0, 0, 0, 0, 0, 0, 0, 0, 0, 0, 0, 0, 0, 0] 20, .ints .u8 [0, 0, 0, 0, 0, 0, 0, 0, 0, 0, 0, 0, 0, 0, 0, 0, 0, 0, 0, 0] 20, .one (.bool false), .one (.int .u64 0), .ints .u64 [0, 0, 0, 0] 4, .one (.slice none 0 0), .one (.int .u64 0), .ints .u64 [0, 0, 0, 0] 4, .ints .u64 [0, 0, 0, 0] 4, .one (.slice none 0 0)])) := by kernel_rfl
theorem Z26 : zeroI Try.prog 26 = some (D.val (.agg [.ints .u64 [0, 0, 0, 0] 4])) := by kernel_rfl
theorem I30_6 : fieldI Try.prog 30 6 = some (47, 24) := by kernel_rfl
theorem T24 : tyI Try.prog 24 = some (false, 1) := by kernel_rfl
theorem I30_7 : fieldI Try.prog 30 7 = some (48, 26) := by kernel_rfl
theorem T26 : tyI Try.prog 26 = some (true, 4) := by kernel_rfl
theorem N26 : Fn_ Try.prog 26 := ⟨_, Try.func26, rfl, by decide⟩
theorem Z100 : zeroI Try.prog 100 = some (D.val (.agg [.ints .u64 [0, 0, 0, 0, 0, 0, 0, 0] 8])) := by kernel_rfl
theorem N44 : Fn_ Try.prog 44 := ⟨_, Try.func44, rfl, by decide⟩
theorem X45 : isExt Try.prog 45 add64Entry := ⟨_, Try.func45, by kernel_rfl, by kernel_rfl, by kernel_rfl, by kernel_rfl⟩
theorem N25 : Fn_ Try.prog 25 := ⟨_, Try.func25, rfl, by decide⟩
theorem I30_4 : fieldI Try.prog 30 4 = some (42, 26) := by kernel_rfl
theorem N27 : Fn_ Try.prog 27 := ⟨_, Try.func27, rfl, by decide⟩
theorem Q26 : Try.prog.eqGuardType Try.prog.depth 26 = false := by kernel_rfl
theorem N28 : Fn_ Try.prog 28 := ⟨_, Try.func28, rfl, by decide⟩
theorem N7 : Fn_ Try.prog 7 := ⟨_, Try.func7, rfl, by decide⟩
theorem X46 : isExt Try.prog 46 subEntry := ⟨_, Try.func46, by kernel_rfl, by kernel_rfl, by kernel_rfl, by kernel_rfl⟩
theorem N31 : Fn_ Try.prog 31 := ⟨_, Try.func31, rfl, by decide⟩
theorem I30_8 : fieldI Try.prog 30 8 = some (52, 26) := by kernel_rfl
theorem N12 : Fn_ Try.prog 12 := ⟨_, Try.func12, rfl, by decide⟩
theorem N6 : Fn_ Try.prog 6 := ⟨_, Try.func6, rfl, by decide⟩
theorem Z70 : zeroI Try.prog 70 = some (D.val (.agg [.ints .i64 [0, 0, 0, 0, 0, 0, 0, 0, 0, 0, 0, 0, 0, 0, 0, 0, 0, 0, 0, 0, 0, 0, 0, 0, 0, 0, 0, 0, 0, 0, 0, 0] 32])) := by kernel_rfl
theorem T70 : tyI Try.prog 70 = some (true, 32) := by kernel_rfl
theorem T3 : tyI Try.prog 3 = some (false, 1) := by kernel_rfl
theorem N42 : Fn_ Try.prog 42 := ⟨_, Try.func42, rfl, by decide⟩
theorem J3 : appI Try.prog 3 = some (1, 8) := by kernel_rfl
theorem Z3 : zeroI Try.prog 3 = some (D.val (.v (.int .i64 0))) := by kernel_rfl
theorem N22 : Fn_ Try.prog 22 := ⟨_, Try.func22, rfl, by decide⟩
theorem N29 : Fn_ Try.prog 29 := ⟨_, Try.func29, rfl, by decide⟩
theorem N21 : Fn_ Try.prog 21 := ⟨_, Try.func21, rfl, by decide⟩
theorem N20 : Fn_ Try.prog 20 := ⟨_, Try.func20, rfl, by decide⟩
theorem N8 : Fn_ Try.prog 8 := ⟨_, Try.func8, rfl, by decide⟩
theorem N10 : Fn_ Try.prog 10 := ⟨_, Try.func10, rfl, by decide⟩
theorem N9 : Fn_ Try.prog 9 := ⟨_, Try.func9, rfl, by decide⟩
theorem N30 : Fn_ Try.prog 30 := ⟨_, Try.func30, rfl, by decide⟩
theorem N11 : Fn_ Try.prog 11 := ⟨_, Try.func11, rfl, by decide⟩
theorem N47 : Fn_ Try.prog 47 := ⟨_, Try.func47, rfl, by decide⟩
theorem N32 : Fn_ Try.prog 32 := ⟨_, Try.func32, rfl, by decide⟩
theorem N23 : Fn_ Try.prog 23 := ⟨_, Try.func23, rfl, by decide⟩
theorem N13 : Fn_ Try.prog 13 := ⟨_, Try.func13, rfl, by decide⟩
theorem Z63 : zeroI Try.prog 63 = some (D.val (.agg [.ints .u8 [0, 0, 0, 0, 0, 0, 0, 0, 0, 0, 0, 0, 0, 0, 0, 0, 0, 0, 0, 0] 20, .one (.slice none 0 0)])) := by kernel_rfl
theorem I30_2 : fieldI Try.prog 30 2 = some (40, 4) := by kernel_rfl
theorem T4 : tyI Try.prog 4 = some (false, 1) := by kernel_rfl
theorem T5 : tyI Try.prog 5 = some (false, 1) := by kernel_rfl
theorem N48 : Fn_ Try.prog 48 := ⟨_, Try.func48, rfl, by decide⟩
theorem N49 : Fn_ Try.prog 49 := ⟨_, Try.func49, rfl, by decide⟩
theorem N33 : Fn_ Try.prog 33 := ⟨_, Try.func33, rfl, by decide⟩
theorem N14 : Fn_ Try.prog 14 := ⟨_, Try.func14, rfl, by decide⟩
theorem N50 : Fn_ Try.prog 50 := ⟨_, Try.func50, rfl, by decide⟩
theorem N34 : Fn_ Try.prog 34 := ⟨_, Try.func34, rfl, by decide⟩
theorem N15 : Fn_ Try.prog 15 := ⟨_, Try.func15, rfl, by decide⟩
def Gd23 : (List Int) → Prop := fun xs => xs.length = 20 ∧ ∀ y ∈ xs, inK .u8 y
def Gd4 : Bool → Prop := fun _ => True
def Gd24 : Int → Prop := fun x => inK .u64 x
def Gd26 : (List Int) → Prop := fun xs => xs.length = 4 ∧ ∀ y ∈ xs, inK .u64 y
def Gd5 : Int → Prop := fun x => inK .u8 x
def Gd27 : (List Int) → Prop := fun xs => (∀ y ∈ xs, Gd5 y) ∧ xs.length ≤ maxLen
def Gd61 : (List (List Int)) → Prop := fun xs => (∀ y ∈ xs, Gd26 y) ∧ xs.length ≤ maxLen
def Gd63 : ((List Int) × (List (List Int))) → Prop := fun y => Gd23 y.1 ∧ (Gd61 y.2)
def Gd28 : (List ((List Int) × (List (List Int)))) → Prop := fun xs => (∀ y ∈ xs, Gd63 y) ∧ xs.length ≤ maxLen
def Gd30 : ((List Int) × (List Int) × Bool × Int × (List Int) × (List Int) × Int × (List Int) × (List Int) × (List ((List Int) × (List (List Int))))) → Prop := fun y => Gd23 y.1 ∧ (Gd23 y.2.1 ∧ (Gd4 y.2.2.1 ∧ (Gd24 y.2.2.2.1 ∧ (Gd26 y.2.2.2.2.1 ∧ (Gd27 y.2.2.2.2.2.1 ∧ (Gd24 y.2.2.2.2.2.2.1 ∧ (Gd26 y.2.2.2.2.2.2.2.1 ∧ (Gd26 y.2.2.2.2.2.2.2.2.1 ∧ (Gd28 y.2.2.2.2.2.2.2.2.2)))))))))
theorem T23 : tyI Try.prog 23 = some (true, 20) := by kernel_rfl
/-! smithy/smithyref19.Great -/
abbrev smithyref19_Great.Ty : Type := ((List Int) × (List Int) × Bool × Int × (List Int) × (List Int) × Int × (List Int) × (List Int) × (List ((List Int) × (List (List Int))))) → Option Bool
def smithyref19_Great.Ctr (s : smithyref19_Great.Ty) : Prop := ∀ (x1 : (List Int) × (List Int) × Bool × Int × (List Int) × (List Int) × Int × (List Int) × (List Int) × (List ((List Int) × (List (List Int))))) (ch_0_0 : Option Addr) (ch_0_1 : Nat) (ch_0_2 : Option Addr) (ch_0_3 : Nat) (r : Bool) (h0 : s x1 = some r) (mi : Mem) (w0 : World), okL mi [(.agg [.ints .u8 x1.1 20, .ints .u8 x1.2.1 20, .one (.bool x1.2.2.1), .one (.int .u64 x1.2.2.2.1), .ints .u64 x1.2.2.2.2.1 4, .sl ch_0_0 (x1.2.2.2.2.2.1).length ch_0_1 (RdS (Ty.int .u8) ch_0_0 x1.2.2.2.2.2.1), .one (.int .u64 x1.2.2.2.2.2.2.1), .ints .u64 x1.2.2.2.2.2.2.2.1 4, .ints .u64 x1.2.2.2.2.2.2.2.2.1 4, .sl ch_0_2 (x1.2.2.2.2.2.2.2.2.2).length ch_0_3 (RdS (Ty.prod (Ty.arr .u8 20) (Ty.slice (Ty.arr .u64 4))) ch_0_2 x1.2.2.2.2.2.2.2.2.2)])] → Pre mi [] w0 → Calls Try.prog 5 (([(.agg [.ints .u8 x1.1 20, .ints .u8 x1.2.1 20, .one (.bool x1.2.2.1), .one (.int .u64 x1.2.2.2.1), .ints .u64 x1.2.2.2.2.1 4, .sl ch_0_0 (x1.2.2.2.2.2.1).length ch_0_1 (RdS (Ty.int .u8) ch_0_0 x1.2.2.2.2.2.1), .one (.int .u64 x1.2.2.2.2.2.2.1), .ints .u64 x1.2.2.2.2.2.2.2.1 4, .ints .u64 x1.2.2.2.2.2.2.2.2.1 4, .sl ch_0_2 (x1.2.2.2.2.2.2.2.2.2).length ch_0_3 (RdS (Ty.prod (Ty.arr .u8 20) (Ty.slice (Ty.arr .u64 4))) ch_0_2 x1.2.2.2.2.2.2.2.2.2)])] : List D).map D.val).toArray w0 (RetX mi [] (fun (ch : Unit) => ((.v (.bool r)) : D)) (fun (ch : Unit) => []) w0)
def smithyref19_Great.j2 : Option Bool := some false
def smithyref19_Great.b1 (x1 : (List Int) × (List Int) × Bool × Int × (List Int) × (List Int) × Int × (List Int) × (List Int) × (List ((List Int) × (List (List Int))))) (rec1 : Int → Option Bool) (y5 : Int) : Option Bool := if (decide (y5 < ((x1.2.2.2.2.2.2.2.2.2).length : Int))) = true then (if (0 : Int) ≤ y5 ∧ y5 < ((x1.2.2.2.2.2.2.2.2.2).length : Int) then (if (decide (30 < (((gt x1.2.2.2.2.2.2.2.2.2 y5).2).length : Int))) = true then (some true) else (rec1 (wr .i64 (y5 + 1)))) else none) else smithyref19_Great.j2
def smithyref19_Great.l1 (x1 : (List Int) × (List Int) × Bool × Int × (List Int) × (List Int) × Int × (List Int) × (List Int) × (List ((List Int) × (List (List Int))))) : Nat → Int → Option Bool
  | 0, _ => none
  | q + 1, y5 => smithyref19_Great.b1 x1 (smithyref19_Great.l1 x1 q) y5
def smithyref19_Great.j1 (k : Nat) (x1 : (List Int) × (List Int) × Bool × Int × (List Int) × (List Int) × Int × (List Int) × (List Int) × (List ((List Int) × (List (List Int))))) (y1 : Bool) : Option Bool := if y1 = true then (some true) else (smithyref19_Great.l1 x1 k 0)
def smithyref19_Great.f (k : Nat) (x1 : (List Int) × (List Int) × Bool × Int × (List Int) × (List Int) × Int × (List Int) × (List Int) × (List ((List Int) × (List (List Int))))) : Option Bool := if (decide (3000 < ((x1.2.2.2.2.2.1).length : Int))) = true then (smithyref19_Great.j1 k x1 true) else (smithyref19_Great.j1 k x1 (decide (30 < ((x1.2.2.2.2.2.2.2.2.2).length : Int))))
theorem smithyref19_Great.ok (k : Nat) : smithyref19_Great.Ctr (smithyref19_Great.f k) := by
  intro x1 ch_0_0 ch_0_1 ch_0_2 ch_0_3 r h0 mi w0 ok hm
  delta smithyref19_Great.f at h0
  refine c_enterX (n := 29) [(.agg [.ints .u8 x1.1 20, .ints .u8 x1.2.1 20, .one (.bool x1.2.2.1), .one (.int .u64 x1.2.2.2.1), .ints .u64 x1.2.2.2.2.1 4, .sl ch_0_0 (x1.2.2.2.2.2.1).length ch_0_1 (RdS (Ty.int .u8) ch_0_0 x1.2.2.2.2.2.1), .one (.int .u64 x1.2.2.2.2.2.2.1), .ints .u64 x1.2.2.2.2.2.2.2.1 4, .ints .u64 x1.2.2.2.2.2.2.2.2.1 4, .sl ch_0_2 (x1.2.2.2.2.2.2.2.2.2).length ch_0_3 (RdS (Ty.prod (Ty.arr .u8 20) (Ty.slice (Ty.arr .u64 4))) ch_0_2 x1.2.2.2.2.2.2.2.2.2)])] (l := [(0, (.agg [.ints .u8 x1.1 20, .ints .u8 x1.2.1 20, .one (.bool x1.2.2.1), .one (.int .u64 x1.2.2.2.1), .ints .u64 x1.2.2.2.2.1 4, .sl ch_0_0 (x1.2.2.2.2.2.1).length ch_0_1 (RdS (Ty.int .u8) ch_0_0 x1.2.2.2.2.2.1), .one (.int .u64 x1.2.2.2.2.2.2.1), .ints .u64 x1.2.2.2.2.2.2.2.1 4, .ints .u64 x1.2.2.2.2.2.2.2.2.1 4, .sl ch_0_2 (x1.2.2.2.2.2.2.2.2.2).length ch_0_3 (RdS (Ty.prod (Ty.arr .u8 20) (Ty.slice (Ty.arr .u64 4))) ch_0_2 x1.2.2.2.2.2.2.2.2.2)]))]) Try.func5 rfl rfl rfl rfl ok hm ?_
  clear ok hm
  intro b0 hb a S
  refine c_region ?_
  refine s_box S rfl rfl rfl ?_; clear S a; intro g1 a w S
  refine s_assign S rfl rfl ?_; clear S a; intro a S
  refine c_end ?_
  refine wp_seq ?_
  refine wp_seq_k ?_
  intro K1 hK1
  have j1 : ∀ (m : Mem) (y1 : Bool) (g2 : Nat) (a : Act) (w : World), St 29 m b0 [(13, (.v (.bool y1))), (1, (.v (.pointer (some ⟨g2, 0, none⟩))))] [Res.cells g2 30 [.ints .u8 x1.1 20, .ints .u8 x1.2.1 20, .one (.bool x1.2.2.1), .one (.int .u64 x1.2.2.2.1), .ints .u64 x1.2.2.2.2.1 4, .sl ch_0_0 (x1.2.2.2.2.2.1).length ch_0_1 (RdS (Ty.int .u8) ch_0_0 x1.2.2.2.2.2.1), .one (.int .u64 x1.2.2.2.2.2.2.1), .ints .u64 x1.2.2.2.2.2.2.2.1 4, .ints .u64 x1.2.2.2.2.2.2.2.2.1 4, .sl ch_0_2 (x1.2.2.2.2.2.2.2.2.2).length ch_0_3 (RdS (Ty.prod (Ty.arr .u8 20) (Ty.slice (Ty.arr .u64 4))) ch_0_2 x1.2.2.2.2.2.2.2.2.2)]] a w → smithyref19_Great.j1 k x1 y1 = some r → K1 a w := by
    intro m y1 g2 a w S h0
    delta smithyref19_Great.j1 at h0
    refine hK1 a w ?_
    rcases ite_of h0 with ⟨c1, h1⟩ | ⟨c1, h1⟩ <;> clear h0
    · refine c_condT S rfl c1 ?_
      refine c_region ?_
      refine s_assign S rfl rfl ?_; clear S a; intro a S
      refine c_end ?_
      refine wp_ret ?_
      refine x_thenR ?_
      obtain rfl := Option.some.inj h1
      exact b_ret1 (d := (.v (.bool true))) S rfl rfl fun ok => S.retX (Hx := []) hb _ _ (() : Unit) .nil ok
    · refine c_condF S rfl c1 ?_
      refine wp_skip ?_
      refine x_thenN ?_
      refine wp_seq_k ?_
      intro K2 hK2
      have j2 : ∀ (m : Mem) (a : Act) (w : World), St 29 m b0 [] [] a w → smithyref19_Great.j2 = some r → K2 a w := by
        intro m a w S h0
        delta smithyref19_Great.j2 at h0
        refine hK2 a w ?_
        refine c_region ?_
        refine s_assign S rfl rfl ?_; clear S a; intro a S
        refine c_end ?_
        refine wp_ret ?_
        obtain rfl := Option.some.inj h0
        exact b_ret1 (d := (.v (.bool false))) S rfl rfl fun ok => S.retX (Hx := []) hb _ _ (() : Unit) .nil ok
      refine c_region ?_
      refine s_fieldAddr S rfl I30_9 T28 (by decide) rfl rfl ?_; clear S a; intro a S
      refine s_loadSl S rfl .here T28 (A := ch_0_2) (len := (x1.2.2.2.2.2.2.2.2.2).length) (cap := ch_0_3) rfl rfl ?_; clear S a; intro a S
      refine s_lenS S rfl Try.underlying28 rfl ?_; clear S a; intro a S
      refine s_move S rfl rfl ?_; clear S a; intro a S
      refine c_end ?_
      refine wp_block ?_
      refine c_loop (fun q1 a w => ∃ (m : Mem) (y5 : Int) (g8 : Nat), St 29 m b0 [(17, (.v (.int .i64 y5))), (16, (.v (.int .i64 ((x1.2.2.2.2.2.2.2.2.2).length : Int)))), (1, (.v (.pointer (some ⟨g8, 0, none⟩))))] [Res.cells g8 30 [.ints .u8 x1.1 20, .ints .u8 x1.2.1 20, .one (.bool x1.2.2.1), .one (.int .u64 x1.2.2.2.1), .ints .u64 x1.2.2.2.2.1 4, .sl ch_0_0 (x1.2.2.2.2.2.1).length ch_0_1 (RdS (Ty.int .u8) ch_0_0 x1.2.2.2.2.2.1), .one (.int .u64 x1.2.2.2.2.2.2.1), .ints .u64 x1.2.2.2.2.2.2.2.1 4, .ints .u64 x1.2.2.2.2.2.2.2.2.1 4, .sl ch_0_2 (x1.2.2.2.2.2.2.2.2.2).length ch_0_3 (RdS (Ty.prod (Ty.arr .u8 20) (Ty.slice (Ty.arr .u64 4))) ch_0_2 x1.2.2.2.2.2.2.2.2.2)]] a w ∧ smithyref19_Great.l1 x1 q1 y5 = some r) ?_ ?_ (k := k) ⟨_, 0, g2, (S.sub ⟨rfl, rfl, rfl, trivial⟩ (.cons .here .nil)), h1⟩
      · rintro a w ⟨m, y5, g8, S, h0⟩
        exact (nomatch (show (none : Option Bool) = some r from h0))
      · clear S h1
        rintro q1 a w ⟨m, y5, g8, S, h0⟩
        replace h0 : smithyref19_Great.b1 x1 (smithyref19_Great.l1 x1 q1) y5 = some r := h0
        delta smithyref19_Great.b1 at h0
        refine c_region ?_
        refine s_bin S rfl rfl rfl rfl ?_; clear S a; intro a S
        refine c_end ?_
        refine wp_seq ?_
        rcases ite_of h0 with ⟨c2, h1⟩ | ⟨c2, h1⟩ <;> clear h0
        · refine c_condT S rfl c2 ?_
          refine wp_skip ?_
          refine x_thenN ?_
          refine wp_seq ?_
          refine wp_block ?_
          refine c_region ?_
          refine s_move S rfl rfl ?_; clear S a; intro a S
          refine s_assign S rfl rfl ?_; clear S a; intro a S
          refine c_end ?_
          refine c_region ?_
          refine s_fieldAddr S rfl I30_9 T28 (by decide) rfl rfl ?_; clear S a; intro a S
          refine s_loadSl S rfl .here T28 (A := ch_0_2) (len := (x1.2.2.2.2.2.2.2.2.2).length) (cap := ch_0_3) rfl rfl ?_; clear S a; intro a S
          refine s_move S rfl rfl ?_; clear S a; intro a S
          obtain ⟨c3, h2⟩ := chk_of h1; clear h1
          refine s_iaddrS S rfl rfl rfl Try.underlying28 T63 c3.1 c3.2 rfl ?_; clear S a; intro p1 a S
          refine s_faddrP S (tF := (Ty.slice (Ty.arr .u64 4))) (y := (gt x1.2.2.2.2.2.2.2.2.2 y5).2) rfl I63_1 T61 (by decide) (fun m h => (at_snd (at_0 h))) rfl ?_; clear S a; intro a S
          refine s_ldS S (fun c => c) rfl T61 (fun _ => rfl) rfl ?_; clear S a; intro A1 cp1 a S
          refine s_lenS S rfl Try.underlying61 rfl ?_; clear S a; intro a S
          refine s_bin S rfl rfl rfl rfl ?_; clear S a; intro a S
          refine c_end ?_
          rcases ite_of h2 with ⟨c4, h3⟩ | ⟨c4, h3⟩ <;> clear h2
          · refine c_condT S rfl c4 ?_
            refine c_region ?_
            refine s_assign S rfl rfl ?_; clear S a; intro a S
            refine c_end ?_
            refine wp_ret ?_
            refine x_blockR ?_
            refine x_thenR ?_
            refine x_thenR ?_
            refine x_blockR ?_
            refine x_thenR ?_
            obtain rfl := Option.some.inj h3
            exact b_ret1 (d := (.v (.bool true))) S rfl rfl fun ok => S.retX (Hx := []) hb _ _ (() : Unit) .nil ok
          · refine c_condF S rfl c4 ?_
            refine wp_skip ?_
            refine x_blockN ?_
            refine x_thenN ?_
            refine c_region' ?_
            refine s_bin S rfl rfl rfl rfl ?_; clear S a; intro a S
            refine s_move S rfl rfl ?_; clear S a; intro a S
            refine c_end' ?_
            refine x_thenN ?_
            exact ⟨_, (wr .i64 (y5 + 1)), g8, (S.sub ⟨rfl, rfl, rfl, trivial⟩ (.cons .here .nil)), h3⟩
        · refine c_condF S rfl c2 ?_
          refine wp_exit ?_
          refine x_thenX ?_
          refine x_thenX ?_
          refine x_blockX ?_
          refine x_thenN ?_
          exact j2 _ a w (S.sub trivial .nil) h1
  refine c_region' ?_
  refine s_fieldAddr S rfl I30_5 T27 (by decide) rfl rfl ?_; clear S a; intro a S
  refine s_loadSl S rfl .here T27 (A := ch_0_0) (len := (x1.2.2.2.2.2.1).length) (cap := ch_0_1) rfl rfl ?_; clear S a; intro a S
  refine s_lenS S rfl Try.underlying27 rfl ?_; clear S a; intro a S
  refine s_bin S rfl rfl rfl rfl ?_; clear S a; intro a S
  refine s_move S rfl rfl ?_; clear S a; intro a S
  rcases ite_of h0 with ⟨c5, h1⟩ | ⟨c5, h1⟩ <;> clear h0
  · refine s_gF S (b := (decide (3000 < ((x1.2.2.2.2.2.1).length : Int)))) rfl rfl c5 rfl ?_; clear S a; intro a S
    refine s_gF S (b := (decide (3000 < ((x1.2.2.2.2.2.1).length : Int)))) rfl rfl c5 rfl ?_; clear S a; intro a S
    refine s_gF S (b := (decide (3000 < ((x1.2.2.2.2.2.1).length : Int)))) rfl rfl c5 rfl ?_; clear S a; intro a S
    refine s_gF S (b := (decide (3000 < ((x1.2.2.2.2.2.1).length : Int)))) rfl rfl c5 rfl ?_; clear S a; intro a S
    refine s_pick S (b := true) (hc_of rfl c5) rfl rfl ?_; clear S a; intro a S
    refine c_end' ?_
    refine x_thenN ?_
    exact j1 _ true g1 a w (S.sub ⟨rfl, rfl, trivial⟩ (.cons .here .nil)) h1
  · refine s_gT S (b := (decide (3000 < ((x1.2.2.2.2.2.1).length : Int)))) rfl rfl c5 ?_
    refine s_fieldAddr S rfl I30_9 T28 (by decide) rfl rfl ?_; clear S a; intro a S
    refine s_gT S (b := (decide (3000 < ((x1.2.2.2.2.2.1).length : Int)))) rfl rfl c5 ?_
    refine s_loadSl S rfl .here T28 (A := ch_0_2) (len := (x1.2.2.2.2.2.2.2.2.2).length) (cap := ch_0_3) rfl rfl ?_; clear S a; intro a S
    refine s_gT S (b := (decide (3000 < ((x1.2.2.2.2.2.1).length : Int)))) rfl rfl c5 ?_
    refine s_lenS S rfl Try.underlying28 rfl ?_; clear S a; intro a S
    refine s_gT S (b := (decide (3000 < ((x1.2.2.2.2.2.1).length : Int)))) rfl rfl c5 ?_
    refine s_bin S rfl rfl rfl rfl ?_; clear S a; intro a S
    refine s_pick S (b := false) (hc_of rfl c5) rfl rfl ?_; clear S a; intro a S
    refine c_end' ?_
    refine x_thenN ?_
    exact j1 _ (decide (30 < ((x1.2.2.2.2.2.2.2.2.2).length : Int))) g1 a w (S.sub ⟨rfl, rfl, trivial⟩ (.cons .here .nil)) h1
/-! smithy/word.Of -/
abbrev word_Of.Ty : Type := Int → Option ((List Int))
def word_Of.Ctr (s : word_Of.Ty) : Prop := ∀ (x1 : Int) (r : (List Int)) (h0 : s x1 = some r) (mi : Mem) (w0 : World), okL mi [(.v (.int .u64 x1))] → Pre mi [] w0 → Calls Try.prog 26 (([(.v (.int .u64 x1))] : List D).map D.val).toArray w0 (RetX mi [] (fun (ch : Unit) => ((.agg [.ints .u64 r 4]) : D)) (fun (ch : Unit) => []) w0)
def word_Of.f (x1 : Int) : Option ((List Int)) := some [x1, 0, 0, 0]
theorem word_Of.ok : word_Of.Ctr (word_Of.f) := by
  intro x1 r h0 mi w0 ok hm
  delta word_Of.f at h0
  refine c_enterX (n := 5) [(.v (.int .u64 x1))] (l := [(0, (.v (.int .u64 x1)))]) Try.func26 rfl rfl rfl rfl ok hm ?_
  clear ok hm
  intro b0 hb a S
  refine c_region ?_
  refine s_alloc S Z26 rfl ⟨rfl, trivial⟩ rfl ?_; clear S a; intro g1 a w S
  refine c_end ?_
  refine c_region ?_
  refine s_move S rfl rfl ?_; clear S a; intro a S
  refine s_build S (ds := [(0, (.v (.int .u64 x1)))]) (dv := (.agg [.ints .u64 [x1, 0, 0, 0] 4])) rfl (fun _ => by kernel_rfl) ⟨rfl, trivial⟩ rfl ?_; clear S a; intro a S
  refine s_store S rfl rfl rfl (s' := [.ints .u64 [x1, 0, 0, 0] 4]) .here T26 rfl rfl ?_; clear S w; intro w S
  refine c_end ?_
  refine wp_ret ?_
  obtain rfl := Option.some.inj h0
  exact b_ret1 (d := (.agg [.ints .u64 [x1, 0, 0, 0] 4])) S rfl (resD_cell rfl .here T26 rfl rfl) fun ok => S.retX (Hx := []) hb _ _ (() : Unit) .nil ok
/-! math/bits.Mul64 -/
abbrev bits_Mul64.Ty : Type := Int → Int → Option (Int × Int)
def bits_Mul64.Ctr (s : bits_Mul64.Ty) : Prop := ∀ (x1 : Int) (x2 : Int) (r : Int × Int) (h0 : s x1 x2 = some r) (mi : Mem) (w0 : World), okL mi [(.v (.int .u64 x1)), (.v (.int .u64 x2))] → Pre mi [] w0 → Calls Try.prog 44 (([(.v (.int .u64 x1)), (.v (.int .u64 x2))] : List D).map D.val).toArray w0 (RetX mi [] (fun (ch : Unit) => ((.tup [(false, [.one (.int .u64 r.1)]), (false, [.one (.int .u64 r.2)])]) : D)) (fun (ch : Unit) => []) w0)
def bits_Mul64.f (x1 : Int) (x2 : Int) : Option (Int × Int) := some (wr .u64 ((wr .u64 ((wr .u64 ((shr x1 32) * (shr x2 32))) + (shr (wr .u64 ((wr .u64 ((shr x1 32) * (bits .and .u64 x2 4294967295))) + (shr (wr .u64 ((bits .and .u64 x1 4294967295) * (bits .and .u64 x2 4294967295))) 32))) 32))) + (shr (wr .u64 ((bits .and .u64 (wr .u64 ((wr .u64 ((shr x1 32) * (bits .and .u64 x2 4294967295))) + (shr (wr .u64 ((bits .and .u64 x1 4294967295) * (bits .and .u64 x2 4294967295))) 32))) 4294967295) + (wr .u64 ((bits .and .u64 x1 4294967295) * (shr x2 32))))) 32)), wr .u64 (x1 * x2))
theorem bits_Mul64.ok : bits_Mul64.Ctr (bits_Mul64.f) := by
  intro x1 x2 r h0 mi w0 ok hm
  delta bits_Mul64.f at h0
  refine c_enterX (n := 51) [(.v (.int .u64 x1)), (.v (.int .u64 x2))] (l := [(0, (.v (.int .u64 x1))), (1, (.v (.int .u64 x2)))]) Try.func44 rfl rfl rfl rfl ok hm ?_
  clear ok hm
  intro b0 hb a S
  refine c_region ?_
  refine s_assign S rfl rfl ?_; clear S a; intro a S
  refine s_assign S rfl rfl ?_; clear S a; intro a S
  refine c_end ?_
  refine c_region ?_
  refine s_move S rfl rfl ?_; clear S a; intro a S
  refine s_bin S rfl rfl rfl rfl ?_; clear S a; intro a S
  refine s_assign S rfl rfl ?_; clear S a; intro a S
  refine c_end ?_
  refine c_region ?_
  refine s_move S rfl rfl ?_; clear S a; intro a S
  refine s_shr S (e := 32) rfl rfl (by decide) rfl rfl ?_; clear S a; intro a S
  refine s_assign S rfl rfl ?_; clear S a; intro a S
  refine c_end ?_
  refine c_region ?_
  refine s_move S rfl rfl ?_; clear S a; intro a S
  refine s_bin S rfl rfl rfl rfl ?_; clear S a; intro a S
  refine s_assign S rfl rfl ?_; clear S a; intro a S
  refine c_end ?_
  refine c_region ?_
  refine s_move S rfl rfl ?_; clear S a; intro a S
  refine s_shr S (e := 32) rfl rfl (by decide) rfl rfl ?_; clear S a; intro a S
  refine s_assign S rfl rfl ?_; clear S a; intro a S
  refine c_end ?_
  refine c_region ?_
  refine s_move S rfl rfl ?_; clear S a; intro a S
  refine s_move S rfl rfl ?_; clear S a; intro a S
  refine s_bin S rfl rfl rfl rfl ?_; clear S a; intro a S
  refine s_assign S rfl rfl ?_; clear S a; intro a S
  refine c_end ?_
  refine c_region ?_
  refine s_move S rfl rfl ?_; clear S a; intro a S
  refine s_move S rfl rfl ?_; clear S a; intro a S
  refine s_bin S rfl rfl rfl rfl ?_; clear S a; intro a S
  refine s_move S rfl rfl ?_; clear S a; intro a S
  refine s_shr S (e := 32) rfl rfl (by decide) rfl rfl ?_; clear S a; intro a S
  refine s_bin S rfl rfl rfl rfl ?_; clear S a; intro a S
  refine s_assign S rfl rfl ?_; clear S a; intro a S
  refine c_end ?_
  refine c_region ?_
  refine s_move S rfl rfl ?_; clear S a; intro a S
  refine s_bin S rfl rfl rfl rfl ?_; clear S a; intro a S
  refine s_assign S rfl rfl ?_; clear S a; intro a S
  refine c_end ?_
  refine c_region ?_
  refine s_move S rfl rfl ?_; clear S a; intro a S
  refine s_shr S (e := 32) rfl rfl (by decide) rfl rfl ?_; clear S a; intro a S
  refine s_assign S rfl rfl ?_; clear S a; intro a S
  refine c_end ?_
  refine c_region ?_
  refine s_move S rfl rfl ?_; clear S a; intro a S
  refine s_move S rfl rfl ?_; clear S a; intro a S
  refine s_move S rfl rfl ?_; clear S a; intro a S
  refine s_bin S rfl rfl rfl rfl ?_; clear S a; intro a S
  refine s_bin S rfl rfl rfl rfl ?_; clear S a; intro a S
  refine s_assign S rfl rfl ?_; clear S a; intro a S
  refine c_end ?_
  refine c_region ?_
  refine s_move S rfl rfl ?_; clear S a; intro a S
  refine s_move S rfl rfl ?_; clear S a; intro a S
  refine s_bin S rfl rfl rfl rfl ?_; clear S a; intro a S
  refine s_move S rfl rfl ?_; clear S a; intro a S
  refine s_bin S rfl rfl rfl rfl ?_; clear S a; intro a S
  refine s_move S rfl rfl ?_; clear S a; intro a S
  refine s_shr S (e := 32) rfl rfl (by decide) rfl rfl ?_; clear S a; intro a S
  refine s_bin S rfl rfl rfl rfl ?_; clear S a; intro a S
  refine s_assign S rfl rfl ?_; clear S a; intro a S
  refine c_end ?_
  refine c_region ?_
  refine s_move S rfl rfl ?_; clear S a; intro a S
  refine s_move S rfl rfl ?_; clear S a; intro a S
  refine s_bin S rfl rfl rfl rfl ?_; clear S a; intro a S
  refine s_assign S rfl rfl ?_; clear S a; intro a S
  refine c_end ?_
  refine wp_ret ?_
  obtain rfl := Option.some.inj h0
  exact b_ret2 (d1 := (.v (.int .u64 (wr .u64 ((wr .u64 ((wr .u64 ((shr x1 32) * (shr x2 32))) + (shr (wr .u64 ((wr .u64 ((shr x1 32) * (bits .and .u64 x2 4294967295))) + (shr (wr .u64 ((bits .and .u64 x1 4294967295) * (bits .and .u64 x2 4294967295))) 32))) 32))) + (shr (wr .u64 ((bits .and .u64 (wr .u64 ((wr .u64 ((shr x1 32) * (bits .and .u64 x2 4294967295))) + (shr (wr .u64 ((bits .and .u64 x1 4294967295) * (bits .and .u64 x2 4294967295))) 32))) 4294967295) + (wr .u64 ((bits .and .u64 x1 4294967295) * (shr x2 32))))) 32)))))) (d2 := (.v (.int .u64 (wr .u64 (x1 * x2))))) S rfl rfl rfl fun ok1 ok2 => S.retX (Hx := []) hb _ _ (() : Unit) .nil ⟨⟨ok1, trivial⟩, ⟨ok2, trivial⟩, trivial⟩
/-! smithy/wide.Product -/
abbrev wide_Product.Ty : Type := (List Int) → (List Int) → Option ((List Int) × (List Int))
def wide_Product.Ctr (s : wide_Product.Ty) : Prop := ∀ (x1 : List Int) (x2 : List Int) (r : (List Int) × (List Int)) (h0 : s x1 x2 = some r) (mi : Mem) (w0 : World), okL mi [(.agg [.ints .u64 x1 4]), (.agg [.ints .u64 x2 4])] → Pre mi [] w0 → Calls Try.prog 25 (([(.agg [.ints .u64 x1 4]), (.agg [.ints .u64 x2 4])] : List D).map D.val).toArray w0 (RetX mi [] (fun (ch : Unit) => ((.tup [(true, [.ints .u64 r.1 4]), (true, [.ints .u64 r.2 4])]) : D)) (fun (ch : Unit) => []) w0)
def wide_Product.j1 (y1 : List Int) : Option ((List Int) × (List Int)) := some (((y1).drop 0).take 4, ((y1).drop 4).take 4)
def wide_Product.j2 (y22 : Int) (rec1 : Int → (List Int) → Option ((List Int) × (List Int))) (y32 : List Int) : Option ((List Int) × (List Int)) := rec1 (wr .i64 (y22 + 1)) y32
def wide_Product.j3 (y22 : Int) (rec1 : Int → (List Int) → Option ((List Int) × (List Int))) (y39 : Int) (y40 : List Int) : Option ((List Int) × (List Int)) := if (0 : Int) ≤ (wr .i64 (y22 + 4)) ∧ (wr .i64 (y22 + 4)) < 8 then (wide_Product.j2 y22 rec1 (y40.set (Int.toNat (wr .i64 (y22 + 4))) y39)) else none
def wide_Product.b2 (x1 : List Int) (x2 : List Int) (y22 : Int) (rec1 : Int → (List Int) → Option ((List Int) × (List Int))) (rec2 : Int → Int → (List Int) → Option ((List Int) × (List Int))) (y44 : Int) (y45 : Int) (y46 : List Int) : Option ((List Int) × (List Int)) := if (decide (y44 < 4)) = true then (if (0 : Int) ≤ y22 ∧ y22 < 4 then (if (0 : Int) ≤ y44 ∧ y44 < 4 then ((bits_Mul64.f (rd x1 y22) (rd x2 y44)).bind fun t1 => (if (0 : Int) ≤ (wr .i64 (y22 + y44)) ∧ (wr .i64 (y22 + y44)) < 8 then (if (0 : Int) ≤ t1.2 ∧ (0 : Int) ≤ (rd y46 (wr .i64 (y22 + y44))) ∧ (0 : Int) ≤ 0 ∧ (0 : Int) ≤ 1 then (if (0 : Int) ≤ ((t1.2 + (rd y46 (wr .i64 (y22 + y44))) + 0) % 18446744073709551616) ∧ (0 : Int) ≤ y45 ∧ (0 : Int) ≤ 0 ∧ (0 : Int) ≤ 1 then (rec2 (wr .i64 (y44 + 1)) (wr .u64 ((wr .u64 (t1.1 + ((t1.2 + (rd y46 (wr .i64 (y22 + y44))) + 0) / 18446744073709551616))) + ((((t1.2 + (rd y46 (wr .i64 (y22 + y44))) + 0) % 18446744073709551616) + y45 + 0) / 18446744073709551616))) (y46.set (Int.toNat (wr .i64 (y22 + y44))) ((((t1.2 + (rd y46 (wr .i64 (y22 + y44))) + 0) % 18446744073709551616) + y45 + 0) % 18446744073709551616))) else none) else none) else none)) else none) else none) else (wide_Product.j3 y22 rec1 y45 y46)
def wide_Product.l2 (x1 : List Int) (x2 : List Int) (y22 : Int) (rec1 : Int → (List Int) → Option ((List Int) × (List Int))) : Nat → Int → Int → (List Int) → Option ((List Int) × (List Int))
  | 0, _, _, _ => none
  | q + 1, y44, y45, y46 => wide_Product.b2 x1 x2 y22 rec1 (wide_Product.l2 x1 x2 y22 rec1 q) y44 y45 y46
def wide_Product.b1 (k : Nat) (x1 : List Int) (x2 : List Int) (rec1 : Int → (List Int) → Option ((List Int) × (List Int))) (y22 : Int) (y23 : List Int) : Option ((List Int) × (List Int)) := if (decide (y22 < 4)) = true then (wide_Product.l2 x1 x2 y22 rec1 k 0 0 y23) else (wide_Product.j1 y23)
def wide_Product.l1 (k : Nat) (x1 : List Int) (x2 : List Int) : Nat → Int → (List Int) → Option ((List Int) × (List Int))
  | 0, _, _ => none
  | q + 1, y22, y23 => wide_Product.b1 k x1 x2 (wide_Product.l1 k x1 x2 q) y22 y23
def wide_Product.f (k : Nat) (x1 : List Int) (x2 : List Int) : Option ((List Int) × (List Int)) := wide_Product.l1 k x1 x2 k 0 [0, 0, 0, 0, 0, 0, 0, 0]
theorem wide_Product.ok (k : Nat) : wide_Product.Ctr (wide_Product.f k) := by
  intro x1 x2 r h0 mi w0 ok hm
  delta wide_Product.f at h0
  refine c_enterX (n := 68) [(.agg [.ints .u64 x1 4]), (.agg [.ints .u64 x2 4])] (l := [(0, (.agg [.ints .u64 x1 4])), (1, (.agg [.ints .u64 x2 4]))]) Try.func25 rfl rfl rfl rfl ok hm ?_
  clear ok hm
  intro b0 hb a S
  refine c_region ?_
  refine s_box S rfl rfl rfl ?_; clear S a; intro g1 a w S
  refine s_box S rfl rfl rfl ?_; clear S a w; intro g2 a w S
  refine s_alloc S Z26 rfl ⟨rfl, trivial⟩ rfl ?_; clear S a w; intro g3 a w S
  refine s_alloc S Z26 rfl ⟨rfl, trivial⟩ rfl ?_; clear S a w; intro g4 a w S
  refine c_end ?_
  refine c_region ?_
  refine s_alloc S Z100 rfl ⟨rfl, trivial⟩ rfl ?_; clear S a w; intro g5 a w S
  refine c_end ?_
  refine wp_seq_k ?_
  intro K1 hK1
  have j1 : ∀ (m : Mem) (g71 : Nat) (g72 : Nat) (g73 : Nat) (y1 : List Int) (a : Act) (w : World), St 68 m b0 [(6, (.v (.pointer (some ⟨g71, 0, none⟩)))), (5, (.v (.pointer (some ⟨g72, 0, none⟩)))), (4, (.v (.pointer (some ⟨g73, 0, none⟩))))] [Res.cells g71 100 [.ints .u64 y1 8], Res.cells g72 26 [.ints .u64 [0, 0, 0, 0] 4], Res.cells g73 26 [.ints .u64 [0, 0, 0, 0] 4]] a w → wide_Product.j1 y1 = some r → K1 a w := by
    intro m g71 g72 g73 y1 a w S h0
    delta wide_Product.j1 at h0
    refine hK1 a w ?_
    refine wp_seq (c_heldS S (.take 0 (.take 1 (.take 2 (.take 3 (.take 4 (.take 5 (.alts (.run 6 true (.alts (.run 7 false .done .nil)) .nil)))))))) 7 [Res.cells g71 100 [.ints .u64 y1 8], Res.cells g72 26 [.ints .u64 [0, 0, 0, 0] 4]] (.cons .here (.cons .here .nil)) ⟨Res.stay_cells, Res.stay_cells, trivial⟩ [(6, (.v (.pointer (some ⟨g71, 0, none⟩))))] ⟨rfl, trivial⟩ (by kernel_rfl) (by kernel_rfl) ?_); clear S; intro w S CL hw le
    refine h_sliceA S CL hw le ⟨rfl, trivial⟩ (i := 0) (j := 4) (o' := 0) (len := 4) (cap := 8) rfl Try.underlying100 T24 (.inl ⟨rfl, rfl⟩) (.inr ⟨_, _, rfl, rfl⟩) (by decide) rfl rfl rfl rfl rfl trivial ?_; clear S CL a; intro a S CL
    refine h_arrp S CL hw le ⟨rfl, rfl, trivial⟩ rfl Try.underlying26 (by decide) rfl rfl trivial ?_; clear S CL a; intro a S CL
    refine h_ldInts S CL hw le ⟨rfl, rfl, rfl, trivial⟩ (lo := 0) (ys := ((y1).drop 0).take 4) rfl .here T26 .here rfl (by decide) rfl rfl rfl trivial ?_; clear S CL a; intro a S CL
    refine h_sliceA S CL hw le ⟨rfl, rfl, rfl, rfl, trivial⟩ (i := 4) (j := 8) (o' := 4) (len := 4) (cap := 4) rfl Try.underlying100 T24 (.inr ⟨_, _, rfl, rfl⟩) (.inl ⟨rfl, rfl⟩) (by decide) rfl rfl rfl rfl rfl trivial ?_; clear S CL a; intro a S CL
    refine h_arrp S CL hw le ⟨rfl, rfl, rfl, rfl, rfl, trivial⟩ rfl Try.underlying26 (by decide) rfl rfl trivial ?_; clear S CL a; intro a S CL
    refine h_ldInts S CL hw le ⟨rfl, rfl, rfl, rfl, rfl, rfl, trivial⟩ (lo := 4) (ys := ((y1).drop 4).take 4) rfl .here T26 .here rfl (by decide) rfl rfl rfl trivial ?_; clear S CL a; intro a S CL
    refine h_run' S rfl trivial ?_
    refine s_store S rfl rfl rfl (s' := [.ints .u64 (((y1).drop 0).take 4) 4]) (.there (.there .here)) T26 rfl rfl ?_; clear S; intro w S
    replace hw := CL.again hw S (.cons .here (.cons .here .nil)) le
    refine h_back ⟨fun _ => hw, ?_⟩
    refine h_run' S rfl trivial ?_
    refine s_store S rfl rfl rfl (s' := [.ints .u64 (((y1).drop 4).take 4) 4]) (.there .here) T26 rfl rfl ?_; clear S; intro w S
    refine h_back ⟨fun h => (nomatch h), ?_⟩
    refine h_done ?_; clear CL hw le
    refine x_thenN ?_
    refine wp_ret ?_
    obtain rfl := Option.some.inj h0
    exact b_ret2 (d1 := (.agg [.ints .u64 (((y1).drop 0).take 4) 4])) (d2 := (.agg [.ints .u64 (((y1).drop 4).take 4) 4])) S rfl (resD_cell rfl (.there (.there .here)) T26 rfl rfl) (resD_cell rfl (.there .here) T26 rfl rfl) fun ok1 ok2 => S.retX (Hx := []) hb _ _ (() : Unit) .nil ⟨ok1, ok2, trivial⟩
  refine c_region ?_
  refine s_move S rfl rfl ?_; clear S a; intro a S
  refine c_end ?_
  refine wp_block ?_
  refine c_loop (fun q1 a w => ∃ (m : Mem) (y22 : Int) (g134 : Nat) (g135 : Nat) (g136 : Nat) (g137 : Nat) (g138 : Nat) (y23 : List Int), St 68 m b0 [(13, (.v (.int .i64 y22))), (6, (.v (.pointer (some ⟨g134, 0, none⟩)))), (5, (.v (.pointer (some ⟨g135, 0, none⟩)))), (4, (.v (.pointer (some ⟨g136, 0, none⟩)))), (3, (.v (.pointer (some ⟨g137, 0, none⟩)))), (2, (.v (.pointer (some ⟨g138, 0, none⟩))))] [Res.cells g134 100 [.ints .u64 y23 8], Res.cells g135 26 [.ints .u64 [0, 0, 0, 0] 4], Res.cells g136 26 [.ints .u64 [0, 0, 0, 0] 4], Res.cells g137 26 [.ints .u64 x2 4], Res.cells g138 26 [.ints .u64 x1 4]] a w ∧ wide_Product.l1 k x1 x2 q1 y22 y23 = some r) ?_ ?_ (k := k) ⟨_, 0, g5, g4, g3, g2, g1, [0, 0, 0, 0, 0, 0, 0, 0], (S.sub ⟨rfl, rfl, rfl, rfl, rfl, rfl, trivial⟩ (.cons .here (.cons .here (.cons .here (.cons .here (.cons .here .nil)))))), h0⟩
  · rintro a w ⟨m, y22, g134, g135, g136, g137, g138, y23, S, h0⟩
    exact (nomatch (show (none : Option ((List Int) × (List Int))) = some r from h0))
  · clear S h0
    rintro q1 a w ⟨m, y22, g134, g135, g136, g137, g138, y23, S, h0⟩
    replace h0 : wide_Product.b1 k x1 x2 (wide_Product.l1 k x1 x2 q1) y22 y23 = some r := h0
    delta wide_Product.b1 at h0
    refine c_region ?_
    refine s_bin S rfl rfl rfl rfl ?_; clear S a; intro a S
    refine c_end ?_
    refine wp_seq ?_
    rcases ite_of h0 with ⟨c1, h1⟩ | ⟨c1, h1⟩ <;> clear h0
    · refine c_condT S rfl c1 ?_
      refine wp_skip ?_
      refine x_thenN ?_
      refine wp_seq_k ?_
      intro K2 hK2
      have j2 : ∀ (m : Mem) (g159 : Nat) (g160 : Nat) (g161 : Nat) (g162 : Nat) (g163 : Nat) (y32 : List Int) (a : Act) (w : World), St 68 m b0 [(13, (.v (.int .i64 y22))), (6, (.v (.pointer (some ⟨g159, 0, none⟩)))), (5, (.v (.pointer (some ⟨g160, 0, none⟩)))), (4, (.v (.pointer (some ⟨g161, 0, none⟩)))), (3, (.v (.pointer (some ⟨g162, 0, none⟩)))), (2, (.v (.pointer (some ⟨g163, 0, none⟩))))] [Res.cells g159 100 [.ints .u64 y32 8], Res.cells g160 26 [.ints .u64 [0, 0, 0, 0] 4], Res.cells g161 26 [.ints .u64 [0, 0, 0, 0] 4], Res.cells g162 26 [.ints .u64 x2 4], Res.cells g163 26 [.ints .u64 x1 4]] a w → wide_Product.j2 y22 (wide_Product.l1 k x1 x2 q1) y32 = some r → K2 a w := by
        intro m g159 g160 g161 g162 g163 y32 a w S h0
        delta wide_Product.j2 at h0
        refine hK2 a w ?_
        refine c_region' ?_
        refine s_bin S rfl rfl rfl rfl ?_; clear S a; intro a S
        refine s_move S rfl rfl ?_; clear S a; intro a S
        refine c_end' ?_
        refine x_thenN ?_
        exact ⟨_, (wr .i64 (y22 + 1)), g159, g160, g161, g162, g163, y32, (S.sub ⟨rfl, rfl, rfl, rfl, rfl, rfl, trivial⟩ (.cons .here (.cons .here (.cons .here (.cons .here (.cons .here .nil)))))), h0⟩
      refine wp_block ?_
      refine c_region ?_
      refine s_move S rfl rfl ?_; clear S a; intro a S
      refine s_assign S rfl rfl ?_; clear S a; intro a S
      refine c_end ?_
      refine c_region ?_
      refine s_assign S rfl rfl ?_; clear S a; intro a S
      refine c_end ?_
      refine wp_seq_k ?_
      intro K3 hK3
      have j3 : ∀ (m : Mem) (y39 : Int) (g179 : Nat) (g180 : Nat) (g181 : Nat) (g182 : Nat) (g183 : Nat) (y40 : List Int) (a : Act) (w : World), St 68 m b0 [(8, (.v (.int .u64 y39))), (7, (.v (.int .i64 y22))), (13, (.v (.int .i64 y22))), (6, (.v (.pointer (some ⟨g179, 0, none⟩)))), (5, (.v (.pointer (some ⟨g180, 0, none⟩)))), (4, (.v (.pointer (some ⟨g181, 0, none⟩)))), (3, (.v (.pointer (some ⟨g182, 0, none⟩)))), (2, (.v (.pointer (some ⟨g183, 0, none⟩))))] [Res.cells g179 100 [.ints .u64 y40 8], Res.cells g180 26 [.ints .u64 [0, 0, 0, 0] 4], Res.cells g181 26 [.ints .u64 [0, 0, 0, 0] 4], Res.cells g182 26 [.ints .u64 x2 4], Res.cells g183 26 [.ints .u64 x1 4]] a w → wide_Product.j3 y22 (wide_Product.l1 k x1 x2 q1) y39 y40 = some r → K3 a w := by
        intro m y39 g179 g180 g181 g182 g183 y40 a w S h0
        delta wide_Product.j3 at h0
        refine hK3 a w ?_
        refine c_region' ?_
        refine s_move S rfl rfl ?_; clear S a; intro a S
        refine s_bin S rfl rfl rfl rfl ?_; clear S a; intro a S
        refine s_move S rfl rfl ?_; clear S a; intro a S
        obtain ⟨c2, h1⟩ := chk_of h0; clear h0
        refine s_iaddr S rfl rfl Try.underlying100 T24 c2.1 c2.2 (mul1 _ _) rfl ?_; clear S a; intro a S
        refine s_storei S (i := (wr .i64 (y22 + 4))) rfl rfl .here T24 .here rfl c2.1 c2.2 ?_; clear S w; intro w S
        refine c_end' ?_
        refine x_blockN ?_
        refine x_thenN ?_
        exact j2 _ g179 g180 g181 g182 g183 (y40.set (Int.toNat (wr .i64 (y22 + 4))) y39) a w (S.sub ⟨rfl, rfl, rfl, rfl, rfl, rfl, trivial⟩ (.cons .here (.cons .here (.cons .here (.cons .here (.cons .here .nil)))))) h1
      refine c_region ?_
      refine s_move S rfl rfl ?_; clear S a; intro a S
      refine c_end ?_
      refine wp_block ?_
      refine c_loop (fun q2 a w => ∃ (m : Mem) (y44 : Int) (y45 : Int) (g194 : Nat) (g195 : Nat) (g196 : Nat) (g197 : Nat) (g198 : Nat) (y46 : List Int), St 68 m b0 [(16, (.v (.int .i64 y44))), (8, (.v (.int .u64 y45))), (7, (.v (.int .i64 y22))), (13, (.v (.int .i64 y22))), (6, (.v (.pointer (some ⟨g194, 0, none⟩)))), (5, (.v (.pointer (some ⟨g195, 0, none⟩)))), (4, (.v (.pointer (some ⟨g196, 0, none⟩)))), (3, (.v (.pointer (some ⟨g197, 0, none⟩)))), (2, (.v (.pointer (some ⟨g198, 0, none⟩))))] [Res.cells g194 100 [.ints .u64 y46 8], Res.cells g195 26 [.ints .u64 [0, 0, 0, 0] 4], Res.cells g196 26 [.ints .u64 [0, 0, 0, 0] 4], Res.cells g197 26 [.ints .u64 x2 4], Res.cells g198 26 [.ints .u64 x1 4]] a w ∧ wide_Product.l2 x1 x2 y22 (wide_Product.l1 k x1 x2 q1) q2 y44 y45 y46 = some r) ?_ ?_ (k := k) ⟨_, 0, 0, g134, g135, g136, g137, g138, y23, (S.sub ⟨rfl, rfl, rfl, rfl, rfl, rfl, rfl, rfl, rfl, trivial⟩ (.cons .here (.cons .here (.cons .here (.cons .here (.cons .here .nil)))))), h1⟩
      · rintro a w ⟨m, y44, y45, g194, g195, g196, g197, g198, y46, S, h0⟩
        exact (nomatch (show (none : Option ((List Int) × (List Int))) = some r from h0))
      · clear S h1
        rintro q2 a w ⟨m, y44, y45, g194, g195, g196, g197, g198, y46, S, h0⟩
        replace h0 : wide_Product.b2 x1 x2 y22 (wide_Product.l1 k x1 x2 q1) (wide_Product.l2 x1 x2 y22 (wide_Product.l1 k x1 x2 q1) q2) y44 y45 y46 = some r := h0
        delta wide_Product.b2 at h0
        refine c_region ?_
        refine s_bin S rfl rfl rfl rfl ?_; clear S a; intro a S
        refine c_end ?_
        refine wp_seq ?_
        rcases ite_of h0 with ⟨c3, h1⟩ | ⟨c3, h1⟩ <;> clear h0
        · refine c_condT S rfl c3 ?_
          refine wp_skip ?_
          refine x_thenN ?_
          refine wp_seq ?_
          refine wp_block ?_
          refine c_region ?_
          refine s_move S rfl rfl ?_; clear S a; intro a S
          refine s_assign S rfl rfl ?_; clear S a; intro a S
          refine c_end ?_
          refine wp_seq (c_heldS S (.take 0 (.take 1 (.take 2 (.take 3 (.take 4 (.take 5 (.alts (.run 6 true (.take 7 (.take 8 (.take 9 (.take 10 (.take 11 .done))))) .nil)))))))) 12 [Res.cells g194 100 [.ints .u64 y46 8], Res.cells g195 26 [.ints .u64 [0, 0, 0, 0] 4], Res.cells g196 26 [.ints .u64 [0, 0, 0, 0] 4], Res.cells g197 26 [.ints .u64 x2 4], Res.cells g198 26 [.ints .u64 x1 4]] (.cons .here (.cons .here (.cons .here (.cons .here (.cons .here .nil))))) ⟨Res.stay_cells, Res.stay_cells, Res.stay_cells, Res.stay_cells, Res.stay_cells, trivial⟩ [(9, (.v (.int .i64 y44))), (7, (.v (.int .i64 y22))), (3, (.v (.pointer (some ⟨g197, 0, none⟩)))), (2, (.v (.pointer (some ⟨g198, 0, none⟩))))] ⟨rfl, rfl, rfl, rfl, trivial⟩ (by kernel_rfl) (by kernel_rfl) ?_); clear S; intro w S CL hw le
          refine h_move S CL hw le ⟨rfl, rfl, rfl, rfl, trivial⟩ rfl rfl rfl trivial ?_; clear S CL a; intro a S CL
          obtain ⟨c4, h2⟩ := chk_of h1; clear h1
          refine h_iaddr S CL hw le ⟨rfl, rfl, rfl, rfl, rfl, trivial⟩ rfl rfl Try.underlying26 T24 c4.1 c4.2 (mul1 _ _) rfl rfl trivial ?_; clear S CL a; intro a S CL
          refine h_loadi S CL hw le ⟨rfl, rfl, rfl, rfl, rfl, rfl, trivial⟩ (i := y22) rfl (.there (.there (.there (.there .here)))) T24 .here rfl c4.1 c4.2 rfl rfl trivial ?_; clear S CL a; intro a S CL
          refine h_move S CL hw le ⟨rfl, rfl, rfl, rfl, rfl, rfl, rfl, trivial⟩ rfl rfl rfl trivial ?_; clear S CL a; intro a S CL
          obtain ⟨c5, h3⟩ := chk_of h2; clear h2
          refine h_iaddr S CL hw le ⟨rfl, rfl, rfl, rfl, rfl, rfl, rfl, rfl, trivial⟩ rfl rfl Try.underlying26 T24 c5.1 c5.2 (mul1 _ _) rfl rfl trivial ?_; clear S CL a; intro a S CL
          refine h_loadi S CL hw le ⟨rfl, rfl, rfl, rfl, rfl, rfl, rfl, rfl, rfl, trivial⟩ (i := y44) rfl (.there (.there (.there .here))) T24 .here rfl c5.1 c5.2 rfl rfl trivial ?_; clear S CL a; intro a S CL
          refine h_run' S rfl trivial ?_
          obtain ⟨t1, et1, h4⟩ := bind_of h3; clear h3
          refine s_callP S (fun (ch : Unit) => ((.tup [(false, [.one (.int .u64 t1.1)]), (false, [.one (.int .u64 t1.2)])]) : D)) N44 rfl rfl (bits_Mul64.ok (rd x1 y22) (rd x2 y44) t1 et1 _ _) ?_; clear S a; intro ch1 m le1 a w S
          replace le := le.trans le1
          replace hw := CL.again hw S (.cons .here (.cons .here (.cons .here (.cons .here (.cons .here .nil))))) le
          refine h_back ⟨fun _ => hw, ?_⟩
          replace CL := CL.add (t := 26) (d := (.tup [(false, [.one (.int .u64 t1.1)]), (false, [.one (.int .u64 t1.2)])])) S rfl rfl
          refine h_move S CL hw le ⟨rfl, rfl, rfl, rfl, rfl, rfl, rfl, rfl, rfl, rfl, rfl, trivial⟩ rfl rfl rfl trivial ?_; clear S CL a; intro a S CL
          refine h_extract S CL hw le ⟨rfl, rfl, rfl, rfl, rfl, rfl, rfl, rfl, rfl, rfl, rfl, rfl, trivial⟩ rfl rfl rfl rfl rfl trivial ?_; clear S CL a; intro a S CL
          refine h_extract S CL hw le ⟨rfl, rfl, rfl, rfl, rfl, rfl, rfl, rfl, rfl, rfl, rfl, rfl, rfl, trivial⟩ rfl rfl rfl rfl rfl trivial ?_; clear S CL a; intro a S CL
          refine h_assign S CL hw le ⟨rfl, rfl, rfl, rfl, rfl, rfl, rfl, rfl, rfl, rfl, rfl, rfl, rfl, rfl, trivial⟩ rfl rfl rfl trivial ?_; clear S CL a; intro a S CL
          refine h_assign S CL hw le ⟨rfl, rfl, rfl, rfl, rfl, rfl, rfl, rfl, rfl, rfl, rfl, rfl, rfl, rfl, rfl, trivial⟩ rfl rfl rfl trivial ?_; clear S CL a; intro a S CL
          refine h_done ?_; clear CL hw le
          refine x_thenN ?_
          refine c_region ?_
          refine s_move S rfl rfl ?_; clear S a; intro a S
          refine s_move S rfl rfl ?_; clear S a; intro a S
          refine s_move S rfl rfl ?_; clear S a; intro a S
          refine s_bin S rfl rfl rfl rfl ?_; clear S a; intro a S
          obtain ⟨c6, h5⟩ := chk_of h4; clear h4
          refine s_iaddr S rfl rfl Try.underlying100 T24 c6.1 c6.2 (mul1 _ _) rfl ?_; clear S a; intro a S
          refine s_loadi S (i := (wr .i64 (y22 + y44))) rfl .here T24 .here rfl c6.1 c6.2 rfl ?_; clear S a; intro a S
          obtain ⟨c7, h6⟩ := chk_of h5; clear h5
          refine s_extAdd S X45 rfl rfl rfl c7 rfl ?_; clear S a; intro a S
          refine s_move S rfl rfl ?_; clear S a; intro a S
          refine s_extract S rfl rfl rfl rfl ?_; clear S a; intro a S
          refine s_extract S rfl rfl rfl rfl ?_; clear S a; intro a S
          refine s_assign S rfl rfl ?_; clear S a; intro a S
          refine s_assign S rfl rfl ?_; clear S a; intro a S
          refine c_end ?_
          refine c_region ?_
          refine s_move S rfl rfl ?_; clear S a; intro a S
          refine s_move S rfl rfl ?_; clear S a; intro a S
          refine s_bin S rfl rfl rfl rfl ?_; clear S a; intro a S
          refine s_assign S rfl rfl ?_; clear S a; intro a S
          refine c_end ?_
          refine c_region ?_
          refine s_move S rfl rfl ?_; clear S a; intro a S
          refine s_move S rfl rfl ?_; clear S a; intro a S
          obtain ⟨c8, h7⟩ := chk_of h6; clear h6
          refine s_extAdd S X45 rfl rfl rfl c8 rfl ?_; clear S a; intro a S
          refine s_move S rfl rfl ?_; clear S a; intro a S
          refine s_extract S rfl rfl rfl rfl ?_; clear S a; intro a S
          refine s_extract S rfl rfl rfl rfl ?_; clear S a; intro a S
          refine s_assign S rfl rfl ?_; clear S a; intro a S
          refine s_assign S rfl rfl ?_; clear S a; intro a S
          refine c_end ?_
          refine c_region ?_
          refine s_move S rfl rfl ?_; clear S a; intro a S
          refine s_move S rfl rfl ?_; clear S a; intro a S
          refine s_bin S rfl rfl rfl rfl ?_; clear S a; intro a S
          refine s_move S rfl rfl ?_; clear S a; intro a S
          refine s_iaddr S rfl rfl Try.underlying100 T24 c6.1 c6.2 (mul1 _ _) rfl ?_; clear S a; intro a S
          refine s_storei S (i := (wr .i64 (y22 + y44))) rfl rfl .here T24 .here rfl c6.1 c6.2 ?_; clear S w; intro w S
          refine c_end ?_
          refine c_region' ?_
          refine s_move S rfl rfl ?_; clear S a; intro a S
          refine s_move S rfl rfl ?_; clear S a; intro a S
          refine s_bin S rfl rfl rfl rfl ?_; clear S a; intro a S
          refine s_assign S rfl rfl ?_; clear S a; intro a S
          refine c_end' ?_
          refine x_blockN ?_
          refine x_thenN ?_
          refine c_region' ?_
          refine s_bin S rfl rfl rfl rfl ?_; clear S a; intro a S
          refine s_move S rfl rfl ?_; clear S a; intro a S
          refine c_end' ?_
          refine x_thenN ?_
          exact ⟨_, (wr .i64 (y44 + 1)), (wr .u64 ((wr .u64 (t1.1 + ((t1.2 + (rd y46 (wr .i64 (y22 + y44))) + 0) / 18446744073709551616))) + ((((t1.2 + (rd y46 (wr .i64 (y22 + y44))) + 0) % 18446744073709551616) + y45 + 0) / 18446744073709551616))), g194, g195, g196, g197, g198, (y46.set (Int.toNat (wr .i64 (y22 + y44))) ((((t1.2 + (rd y46 (wr .i64 (y22 + y44))) + 0) % 18446744073709551616) + y45 + 0) % 18446744073709551616)), (S.sub ⟨rfl, rfl, rfl, rfl, rfl, rfl, rfl, rfl, rfl, trivial⟩ (.cons .here (.cons .here (.cons .here (.cons .here (.cons .here .nil)))))), h7⟩
        · refine c_condF S rfl c3 ?_
          refine wp_exit ?_
          refine x_thenX ?_
          refine x_thenX ?_
          refine x_blockX ?_
          refine x_thenN ?_
          exact j3 _ y45 g194 g195 g196 g197 g198 y46 a w (S.sub ⟨rfl, rfl, rfl, rfl, rfl, rfl, rfl, rfl, trivial⟩ (.cons .here (.cons .here (.cons .here (.cons .here (.cons .here .nil)))))) h1
    · refine c_condF S rfl c1 ?_
      refine wp_exit ?_
      refine x_thenX ?_
      refine x_thenX ?_
      refine x_blockX ?_
      refine x_thenN ?_
      exact j1 _ g134 g135 g136 y23 a w (S.sub ⟨rfl, rfl, rfl, trivial⟩ (.cons .here (.cons .here (.cons .here .nil)))) h1
/-! smithy/word.Add -/
abbrev word_Add.Ty : Type := (List Int) → (List Int) → Option ((List Int))
def word_Add.Ctr (s : word_Add.Ty) : Prop := ∀ (x1 : List Int) (x2 : List Int) (r : (List Int)) (h0 : s x1 x2 = some r) (mi : Mem) (w0 : World), okL mi [(.agg [.ints .u64 x1 4]), (.agg [.ints .u64 x2 4])] → Pre mi [] w0 → Calls Try.prog 27 (([(.agg [.ints .u64 x1 4]), (.agg [.ints .u64 x2 4])] : List D).map D.val).toArray w0 (RetX mi [] (fun (ch : Unit) => ((.agg [.ints .u64 r 4]) : D)) (fun (ch : Unit) => []) w0)
def word_Add.j1 (y1 : List Int) : Option ((List Int)) := some y1
def word_Add.b1 (x1 : List Int) (x2 : List Int) (rec1 : Int → Int → (List Int) → Option ((List Int))) (y5 : Int) (y6 : Int) (y7 : List Int) : Option ((List Int)) := if (decide (y5 < 4)) = true then (if (0 : Int) ≤ y5 ∧ y5 < 4 then (if (0 : Int) ≤ (rd x1 y5) ∧ (0 : Int) ≤ (rd x2 y5) ∧ (0 : Int) ≤ y6 ∧ (y6 : Int) ≤ 1 then (rec1 (wr .i64 (y5 + 1)) (((rd x1 y5) + (rd x2 y5) + y6) / 18446744073709551616) (y7.set (Int.toNat y5) (((rd x1 y5) + (rd x2 y5) + y6) % 18446744073709551616))) else none) else none) else (word_Add.j1 y7)
def word_Add.l1 (x1 : List Int) (x2 : List Int) : Nat → Int → Int → (List Int) → Option ((List Int))
  | 0, _, _, _ => none
  | q + 1, y5, y6, y7 => word_Add.b1 x1 x2 (word_Add.l1 x1 x2 q) y5 y6 y7
def word_Add.f (k : Nat) (x1 : List Int) (x2 : List Int) : Option ((List Int)) := word_Add.l1 x1 x2 k 0 0 [0, 0, 0, 0]
theorem word_Add.ok (k : Nat) : word_Add.Ctr (word_Add.f k) := by
  intro x1 x2 r h0 mi w0 ok hm
  delta word_Add.f at h0
  refine c_enterX (n := 30) [(.agg [.ints .u64 x1 4]), (.agg [.ints .u64 x2 4])] (l := [(0, (.agg [.ints .u64 x1 4])), (1, (.agg [.ints .u64 x2 4]))]) Try.func27 rfl rfl rfl rfl ok hm ?_
  clear ok hm
  intro b0 hb a S
  refine c_region ?_
  refine s_box S rfl rfl rfl ?_; clear S a; intro g1 a w S
  refine s_box S rfl rfl rfl ?_; clear S a w; intro g2 a w S
  refine s_alloc S Z26 rfl ⟨rfl, trivial⟩ rfl ?_; clear S a w; intro g3 a w S
  refine c_end ?_
  refine c_region ?_
  refine s_alloc S Z26 rfl ⟨rfl, trivial⟩ rfl ?_; clear S a w; intro g4 a w S
  refine c_end ?_
  refine c_region ?_
  refine s_assign S rfl rfl ?_; clear S a; intro a S
  refine c_end ?_
  refine wp_seq_k ?_
  intro K1 hK1
  have j1 : ∀ (m : Mem) (g17 : Nat) (g18 : Nat) (y1 : List Int) (a : Act) (w : World), St 30 m b0 [(5, (.v (.pointer (some ⟨g17, 0, none⟩)))), (4, (.v (.pointer (some ⟨g18, 0, none⟩))))] [Res.cells g17 26 [.ints .u64 y1 4], Res.cells g18 26 [.ints .u64 [0, 0, 0, 0] 4]] a w → word_Add.j1 y1 = some r → K1 a w := by
    intro m g17 g18 y1 a w S h0
    delta word_Add.j1 at h0
    refine hK1 a w ?_
    refine c_region ?_
    refine s_loada S rfl .here T26 (s' := [.ints .u64 y1 4]) rfl rfl ?_; clear S a; intro a S
    refine s_store S rfl rfl rfl (s' := [.ints .u64 y1 4]) (.there .here) T26 rfl rfl ?_; clear S w; intro w S
    refine c_end ?_
    refine wp_ret ?_
    obtain rfl := Option.some.inj h0
    exact b_ret1 (d := (.agg [.ints .u64 y1 4])) S rfl (resD_cell rfl (.there .here) T26 rfl rfl) fun ok => S.retX (Hx := []) hb _ _ (() : Unit) .nil ok
  refine c_region ?_
  refine s_move S rfl rfl ?_; clear S a; intro a S
  refine c_end ?_
  refine wp_block ?_
  refine c_loop (fun q1 a w => ∃ (m : Mem) (y5 : Int) (y6 : Int) (g27 : Nat) (g28 : Nat) (g29 : Nat) (g30 : Nat) (y7 : List Int), St 30 m b0 [(10, (.v (.int .i64 y5))), (6, (.v (.int .u64 y6))), (5, (.v (.pointer (some ⟨g27, 0, none⟩)))), (4, (.v (.pointer (some ⟨g28, 0, none⟩)))), (3, (.v (.pointer (some ⟨g29, 0, none⟩)))), (2, (.v (.pointer (some ⟨g30, 0, none⟩))))] [Res.cells g27 26 [.ints .u64 y7 4], Res.cells g28 26 [.ints .u64 [0, 0, 0, 0] 4], Res.cells g29 26 [.ints .u64 x2 4], Res.cells g30 26 [.ints .u64 x1 4]] a w ∧ word_Add.l1 x1 x2 q1 y5 y6 y7 = some r) ?_ ?_ (k := k) ⟨_, 0, 0, g4, g3, g2, g1, [0, 0, 0, 0], (S.sub ⟨rfl, rfl, rfl, rfl, rfl, rfl, trivial⟩ (.cons .here (.cons .here (.cons .here (.cons .here .nil))))), h0⟩
  · rintro a w ⟨m, y5, y6, g27, g28, g29, g30, y7, S, h0⟩
    exact (nomatch (show (none : Option ((List Int))) = some r from h0))
  · clear S h0
    rintro q1 a w ⟨m, y5, y6, g27, g28, g29, g30, y7, S, h0⟩
    replace h0 : word_Add.b1 x1 x2 (word_Add.l1 x1 x2 q1) y5 y6 y7 = some r := h0
    delta word_Add.b1 at h0
    refine c_region ?_
    refine s_bin S rfl rfl rfl rfl ?_; clear S a; intro a S
    refine c_end ?_
    refine wp_seq ?_
    rcases ite_of h0 with ⟨c1, h1⟩ | ⟨c1, h1⟩ <;> clear h0
    · refine c_condT S rfl c1 ?_
      refine wp_skip ?_
      refine x_thenN ?_
      refine wp_seq ?_
      refine wp_block ?_
      refine c_region ?_
      refine s_move S rfl rfl ?_; clear S a; intro a S
      refine s_assign S rfl rfl ?_; clear S a; intro a S
      refine c_end ?_
      refine wp_seq (c_heldS S (.take 0 (.take 1 (.take 2 (.take 3 (.take 4 (.take 5 (.take 6 (.alts (.run 7 true (.take 8 (.take 9 (.take 10 (.take 11 (.take 12 .done))))) .nil))))))))) 13 [Res.cells g27 26 [.ints .u64 y7 4], Res.cells g28 26 [.ints .u64 [0, 0, 0, 0] 4], Res.cells g29 26 [.ints .u64 x2 4], Res.cells g30 26 [.ints .u64 x1 4]] (.cons .here (.cons .here (.cons .here (.cons .here .nil)))) ⟨Res.stay_cells, Res.stay_cells, Res.stay_cells, Res.stay_cells, trivial⟩ [(7, (.v (.int .i64 y5))), (6, (.v (.int .u64 y6))), (3, (.v (.pointer (some ⟨g29, 0, none⟩)))), (2, (.v (.pointer (some ⟨g30, 0, none⟩))))] ⟨rfl, rfl, rfl, rfl, trivial⟩ (by kernel_rfl) (by kernel_rfl) ?_); clear S; intro w S CL hw le
      refine h_move S CL hw le ⟨rfl, rfl, rfl, rfl, trivial⟩ rfl rfl rfl trivial ?_; clear S CL a; intro a S CL
      obtain ⟨c2, h2⟩ := chk_of h1; clear h1
      refine h_iaddr S CL hw le ⟨rfl, rfl, rfl, rfl, rfl, trivial⟩ rfl rfl Try.underlying26 T24 c2.1 c2.2 (mul1 _ _) rfl rfl trivial ?_; clear S CL a; intro a S CL
      refine h_loadi S CL hw le ⟨rfl, rfl, rfl, rfl, rfl, rfl, trivial⟩ (i := y5) rfl (.there (.there (.there .here))) T24 .here rfl c2.1 c2.2 rfl rfl trivial ?_; clear S CL a; intro a S CL
      refine h_move S CL hw le ⟨rfl, rfl, rfl, rfl, rfl, rfl, rfl, trivial⟩ rfl rfl rfl trivial ?_; clear S CL a; intro a S CL
      refine h_iaddr S CL hw le ⟨rfl, rfl, rfl, rfl, rfl, rfl, rfl, rfl, trivial⟩ rfl rfl Try.underlying26 T24 c2.1 c2.2 (mul1 _ _) rfl rfl trivial ?_; clear S CL a; intro a S CL
      refine h_loadi S CL hw le ⟨rfl, rfl, rfl, rfl, rfl, rfl, rfl, rfl, rfl, trivial⟩ (i := y5) rfl (.there (.there .here)) T24 .here rfl c2.1 c2.2 rfl rfl trivial ?_; clear S CL a; intro a S CL
      refine h_move S CL hw le ⟨rfl, rfl, rfl, rfl, rfl, rfl, rfl, rfl, rfl, rfl, trivial⟩ rfl rfl rfl trivial ?_; clear S CL a; intro a S CL
      refine h_run' S rfl trivial ?_
      obtain ⟨c3, h3⟩ := chk_of h2; clear h2
      refine s_extAdd S X45 rfl rfl rfl c3 rfl ?_; clear S a; intro a S
      replace hw := CL.again hw S (.cons .here (.cons .here (.cons .here (.cons .here .nil)))) le
      refine h_back ⟨fun _ => hw, ?_⟩
      replace CL := CL.add (t := 21) (d := (.tup [(false, [.one (.int .u64 (((rd x1 y5) + (rd x2 y5) + y6) % 18446744073709551616))]), (false, [.one (.int .u64 (((rd x1 y5) + (rd x2 y5) + y6) / 18446744073709551616))])])) S rfl rfl
      refine h_move S CL hw le ⟨rfl, rfl, rfl, rfl, rfl, rfl, rfl, rfl, rfl, rfl, rfl, rfl, trivial⟩ rfl rfl rfl trivial ?_; clear S CL a; intro a S CL
      refine h_extract S CL hw le ⟨rfl, rfl, rfl, rfl, rfl, rfl, rfl, rfl, rfl, rfl, rfl, rfl, rfl, trivial⟩ rfl rfl rfl rfl rfl trivial ?_; clear S CL a; intro a S CL
      refine h_extract S CL hw le ⟨rfl, rfl, rfl, rfl, rfl, rfl, rfl, rfl, rfl, rfl, rfl, rfl, rfl, rfl, trivial⟩ rfl rfl rfl rfl rfl trivial ?_; clear S CL a; intro a S CL
      refine h_assign S CL hw le ⟨rfl, rfl, rfl, rfl, rfl, rfl, rfl, rfl, rfl, rfl, rfl, rfl, rfl, rfl, rfl, trivial⟩ rfl rfl rfl trivial ?_; clear S CL a; intro a S CL
      refine h_assign S CL hw le ⟨rfl, rfl, rfl, rfl, rfl, rfl, rfl, rfl, rfl, rfl, rfl, rfl, rfl, rfl, rfl, rfl, trivial⟩ rfl rfl rfl trivial ?_; clear S CL a; intro a S CL
      refine h_done ?_; clear CL hw le
      refine x_thenN ?_
      refine c_region ?_
      refine s_move S rfl rfl ?_; clear S a; intro a S
      refine s_move S rfl rfl ?_; clear S a; intro a S
      refine s_iaddr S rfl rfl Try.underlying26 T24 c2.1 c2.2 (mul1 _ _) rfl ?_; clear S a; intro a S
      refine s_storei S (i := y5) rfl rfl .here T24 .here rfl c2.1 c2.2 ?_; clear S w; intro w S
      refine c_end ?_
      refine c_region' ?_
      refine s_move S rfl rfl ?_; clear S a; intro a S
      refine s_assign S rfl rfl ?_; clear S a; intro a S
      refine c_end' ?_
      refine x_blockN ?_
      refine x_thenN ?_
      refine c_region' ?_
      refine s_bin S rfl rfl rfl rfl ?_; clear S a; intro a S
      refine s_move S rfl rfl ?_; clear S a; intro a S
      refine c_end' ?_
      refine x_thenN ?_
      exact ⟨_, (wr .i64 (y5 + 1)), (((rd x1 y5) + (rd x2 y5) + y6) / 18446744073709551616), g27, g28, g29, g30, (y7.set (Int.toNat y5) (((rd x1 y5) + (rd x2 y5) + y6) % 18446744073709551616)), (S.sub ⟨rfl, rfl, rfl, rfl, rfl, rfl, trivial⟩ (.cons .here (.cons .here (.cons .here (.cons .here .nil))))), h3⟩
    · refine c_condF S rfl c1 ?_
      refine wp_exit ?_
      refine x_thenX ?_
      refine x_thenX ?_
      refine x_blockX ?_
      refine x_thenN ?_
      exact j1 _ g27 g28 y7 a w (S.sub ⟨rfl, rfl, trivial⟩ (.cons .here (.cons .here .nil))) h1
/-! smithy/word.Compare -/
abbrev word_Compare.Ty : Type := (List Int) → (List Int) → Option Int
def word_Compare.Ctr (s : word_Compare.Ty) : Prop := ∀ (x1 : List Int) (x2 : List Int) (r : Int) (h0 : s x1 x2 = some r) (mi : Mem) (w0 : World), okL mi [(.agg [.ints .u64 x1 4]), (.agg [.ints .u64 x2 4])] → Pre mi [] w0 → Calls Try.prog 28 (([(.agg [.ints .u64 x1 4]), (.agg [.ints .u64 x2 4])] : List D).map D.val).toArray w0 (RetX mi [] (fun (ch : Unit) => ((.v (.int .i64 r)) : D)) (fun (ch : Unit) => []) w0)
def word_Compare.j1 (x1 : List Int) (x2 : List Int) (y1 : Int) : Option Int := if (0 : Int) ≤ y1 ∧ y1 < 4 then (if (decide ((rd x1 y1) < (rd x2 y1))) = true then (some (-1)) else (some 1)) else none
def word_Compare.b1 (x1 : List Int) (x2 : List Int) (rec1 : Int → Option Int) (y3 : Int) : Option Int := if (0 : Int) ≤ y3 ∧ y3 < 4 then (if ((rd x1 y3) == (rd x2 y3)) = true then (rec1 (wr .i64 (y3 - 1))) else (word_Compare.j1 x1 x2 y3)) else none
def word_Compare.l1 (x1 : List Int) (x2 : List Int) : Nat → Int → Option Int
  | 0, _ => none
  | q + 1, y3 => word_Compare.b1 x1 x2 (word_Compare.l1 x1 x2 q) y3
def word_Compare.f (k : Nat) (x1 : List Int) (x2 : List Int) : Option Int := if (decide (x1 = x2)) = true then (some 0) else (word_Compare.l1 x1 x2 k 3)
theorem word_Compare.ok (k : Nat) : word_Compare.Ctr (word_Compare.f k) := by
  intro x1 x2 r h0 mi w0 ok hm
  delta word_Compare.f at h0
  refine c_enterX (n := 25) [(.agg [.ints .u64 x1 4]), (.agg [.ints .u64 x2 4])] (l := [(0, (.agg [.ints .u64 x1 4])), (1, (.agg [.ints .u64 x2 4]))]) Try.func28 rfl rfl rfl rfl ok hm ?_
  clear ok hm
  intro b0 hb a S
  refine c_region ?_
  refine s_box S rfl rfl rfl ?_; clear S a; intro g1 a w S
  refine s_box S rfl rfl rfl ?_; clear S a w; intro g2 a w S
  refine s_assign S rfl rfl ?_; clear S a; intro a S
  refine c_end ?_
  refine wp_seq ?_
  refine c_region ?_
  refine s_loada S rfl (.there .here) T26 (s' := [.ints .u64 x1 4]) rfl rfl ?_; clear S a; intro a S
  refine s_loada S rfl .here T26 (s' := [.ints .u64 x2 4]) rfl rfl ?_; clear S a; intro a S
  refine s_eqa S rfl rfl Try.underlying26 Try.underlying24 T24 Q26 rfl ?_; clear S a; intro a S
  refine c_end ?_
  rcases ite_of h0 with ⟨c1, h1⟩ | ⟨c1, h1⟩ <;> clear h0
  · refine c_condT S rfl c1 ?_
    refine c_region ?_
    refine s_assign S rfl rfl ?_; clear S a; intro a S
    refine c_end ?_
    refine wp_ret ?_
    refine x_thenR ?_
    obtain rfl := Option.some.inj h1
    exact b_ret1 (d := (.v (.int .i64 0))) S rfl rfl fun ok => S.retX (Hx := []) hb _ _ (() : Unit) .nil ok
  · refine c_condF S rfl c1 ?_
    refine wp_skip ?_
    refine x_thenN ?_
    refine c_region ?_
    refine s_assign S rfl rfl ?_; clear S a; intro a S
    refine c_end ?_
    refine wp_seq_k ?_
    intro K1 hK1
    have j1 : ∀ (m : Mem) (y1 : Int) (g9 : Nat) (g10 : Nat) (a : Act) (w : World), St 25 m b0 [(5, (.v (.int .i64 y1))), (3, (.v (.pointer (some ⟨g9, 0, none⟩)))), (2, (.v (.pointer (some ⟨g10, 0, none⟩))))] [Res.cells g9 26 [.ints .u64 x2 4], Res.cells g10 26 [.ints .u64 x1 4]] a w → word_Compare.j1 x1 x2 y1 = some r → K1 a w := by
      intro m y1 g9 g10 a w S h0
      delta word_Compare.j1 at h0
      refine hK1 a w ?_
      refine wp_seq ?_
      refine wp_seq (c_heldS S (.take 0 (.take 1 (.take 2 (.take 3 (.take 4 (.take 5 (.take 6 .done))))))) 7 [Res.cells g9 26 [.ints .u64 x2 4], Res.cells g10 26 [.ints .u64 x1 4]] (.cons .here (.cons .here .nil)) ⟨Res.stay_cells, Res.stay_cells, trivial⟩ [(5, (.v (.int .i64 y1))), (3, (.v (.pointer (some ⟨g9, 0, none⟩)))), (2, (.v (.pointer (some ⟨g10, 0, none⟩))))] ⟨rfl, rfl, rfl, trivial⟩ (by kernel_rfl) (by kernel_rfl) ?_); clear S; intro w S CL hw le
      refine h_move S CL hw le ⟨rfl, rfl, rfl, trivial⟩ rfl rfl rfl trivial ?_; clear S CL a; intro a S CL
      obtain ⟨c2, h1⟩ := chk_of h0; clear h0
      refine h_iaddr S CL hw le ⟨rfl, rfl, rfl, rfl, trivial⟩ rfl rfl Try.underlying26 T24 c2.1 c2.2 (mul1 _ _) rfl rfl trivial ?_; clear S CL a; intro a S CL
      refine h_loadi S CL hw le ⟨rfl, rfl, rfl, rfl, rfl, trivial⟩ (i := y1) rfl (.there .here) T24 .here rfl c2.1 c2.2 rfl rfl trivial ?_; clear S CL a; intro a S CL
      refine h_move S CL hw le ⟨rfl, rfl, rfl, rfl, rfl, rfl, trivial⟩ rfl rfl rfl trivial ?_; clear S CL a; intro a S CL
      refine h_iaddr S CL hw le ⟨rfl, rfl, rfl, rfl, rfl, rfl, rfl, trivial⟩ rfl rfl Try.underlying26 T24 c2.1 c2.2 (mul1 _ _) rfl rfl trivial ?_; clear S CL a; intro a S CL
      refine h_loadi S CL hw le ⟨rfl, rfl, rfl, rfl, rfl, rfl, rfl, rfl, trivial⟩ (i := y1) rfl .here T24 .here rfl c2.1 c2.2 rfl rfl trivial ?_; clear S CL a; intro a S CL
      refine h_bin S CL hw le ⟨rfl, rfl, rfl, rfl, rfl, rfl, rfl, rfl, rfl, trivial⟩ rfl rfl rfl rfl rfl trivial ?_; clear S CL a; intro a S CL
      refine h_done ?_; clear CL hw le
      refine x_thenN ?_
      rcases ite_of h1 with ⟨c3, h2⟩ | ⟨c3, h2⟩ <;> clear h1
      · refine c_condT S rfl c3 ?_
        refine c_region ?_
        refine s_assign S rfl rfl ?_; clear S a; intro a S
        refine c_end ?_
        refine wp_ret ?_
        refine x_thenR ?_
        obtain rfl := Option.some.inj h2
        exact b_ret1 (d := (.v (.int .i64 (-1)))) S rfl rfl fun ok => S.retX (Hx := []) hb _ _ (() : Unit) .nil ok
      · refine c_condF S rfl c3 ?_
        refine wp_skip ?_
        refine x_thenN ?_
        refine c_region ?_
        refine s_assign S rfl rfl ?_; clear S a; intro a S
        refine c_end ?_
        refine wp_ret ?_
        obtain rfl := Option.some.inj h2
        exact b_ret1 (d := (.v (.int .i64 1))) S rfl rfl fun ok => S.retX (Hx := []) hb _ _ (() : Unit) .nil ok
    refine wp_block ?_
    refine c_loop (fun q1 a w => ∃ (m : Mem) (y3 : Int) (g15 : Nat) (g16 : Nat), St 25 m b0 [(5, (.v (.int .i64 y3))), (3, (.v (.pointer (some ⟨g15, 0, none⟩)))), (2, (.v (.pointer (some ⟨g16, 0, none⟩))))] [Res.cells g15 26 [.ints .u64 x2 4], Res.cells g16 26 [.ints .u64 x1 4]] a w ∧ word_Compare.l1 x1 x2 q1 y3 = some r) ?_ ?_ (k := k) ⟨_, 3, g2, g1, (S.sub ⟨rfl, rfl, rfl, trivial⟩ (.cons .here (.cons .here .nil))), h1⟩
    · rintro a w ⟨m, y3, g15, g16, S, h0⟩
      exact (nomatch (show (none : Option Int) = some r from h0))
    · clear S h1
      rintro q1 a w ⟨m, y3, g15, g16, S, h0⟩
      replace h0 : word_Compare.b1 x1 x2 (word_Compare.l1 x1 x2 q1) y3 = some r := h0
      delta word_Compare.b1 at h0
      refine wp_seq ?_
      refine wp_seq (c_heldS S (.take 0 (.take 1 (.take 2 (.take 3 (.take 4 (.take 5 (.take 6 .done))))))) 7 [Res.cells g15 26 [.ints .u64 x2 4], Res.cells g16 26 [.ints .u64 x1 4]] (.cons .here (.cons .here .nil)) ⟨Res.stay_cells, Res.stay_cells, trivial⟩ [(5, (.v (.int .i64 y3))), (3, (.v (.pointer (some ⟨g15, 0, none⟩)))), (2, (.v (.pointer (some ⟨g16, 0, none⟩))))] ⟨rfl, rfl, rfl, trivial⟩ (by kernel_rfl) (by kernel_rfl) ?_); clear S; intro w S CL hw le
      refine h_move S CL hw le ⟨rfl, rfl, rfl, trivial⟩ rfl rfl rfl trivial ?_; clear S CL a; intro a S CL
      obtain ⟨c4, h1⟩ := chk_of h0; clear h0
      refine h_iaddr S CL hw le ⟨rfl, rfl, rfl, rfl, trivial⟩ rfl rfl Try.underlying26 T24 c4.1 c4.2 (mul1 _ _) rfl rfl trivial ?_; clear S CL a; intro a S CL
      refine h_loadi S CL hw le ⟨rfl, rfl, rfl, rfl, rfl, trivial⟩ (i := y3) rfl (.there .here) T24 .here rfl c4.1 c4.2 rfl rfl trivial ?_; clear S CL a; intro a S CL
      refine h_move S CL hw le ⟨rfl, rfl, rfl, rfl, rfl, rfl, trivial⟩ rfl rfl rfl trivial ?_; clear S CL a; intro a S CL
      refine h_iaddr S CL hw le ⟨rfl, rfl, rfl, rfl, rfl, rfl, rfl, trivial⟩ rfl rfl Try.underlying26 T24 c4.1 c4.2 (mul1 _ _) rfl rfl trivial ?_; clear S CL a; intro a S CL
      refine h_loadi S CL hw le ⟨rfl, rfl, rfl, rfl, rfl, rfl, rfl, rfl, trivial⟩ (i := y3) rfl .here T24 .here rfl c4.1 c4.2 rfl rfl trivial ?_; clear S CL a; intro a S CL
      refine h_bin S CL hw le ⟨rfl, rfl, rfl, rfl, rfl, rfl, rfl, rfl, rfl, trivial⟩ rfl rfl rfl rfl rfl trivial ?_; clear S CL a; intro a S CL
      refine h_done ?_; clear CL hw le
      refine x_thenN ?_
      rcases ite_of h1 with ⟨c5, h2⟩ | ⟨c5, h2⟩ <;> clear h1
      · refine c_condT S rfl c5 ?_
        refine wp_skip ?_
        refine x_thenN ?_
        refine wp_block ?_
        refine c_region' ?_
        refine s_move S rfl rfl ?_; clear S a; intro a S
        refine s_bin S rfl rfl rfl rfl ?_; clear S a; intro a S
        refine s_assign S rfl rfl ?_; clear S a; intro a S
        refine c_end' ?_
        refine x_blockN ?_
        refine x_thenN ?_
        exact ⟨_, (wr .i64 (y3 - 1)), g15, g16, (S.sub ⟨rfl, rfl, rfl, trivial⟩ (.cons .here (.cons .here .nil))), h2⟩
      · refine c_condF S rfl c5 ?_
        refine wp_exit ?_
        refine x_thenX ?_
        refine x_thenX ?_
        refine x_blockX ?_
        refine x_thenN ?_
        exact j1 _ y3 g15 g16 a w (S.sub ⟨rfl, rfl, rfl, trivial⟩ (.cons .here (.cons .here .nil))) h2
/-! smithy/tx.Cost -/
abbrev tx_Cost.Ty : Type := ((List Int) × (List Int) × Bool × Int × (List Int) × (List Int) × Int × (List Int) × (List Int) × (List ((List Int) × (List (List Int))))) → Option ((List Int) × Bool)
def tx_Cost.Ctr (s : tx_Cost.Ty) : Prop := ∀ (x1 : (List Int) × (List Int) × Bool × Int × (List Int) × (List Int) × Int × (List Int) × (List Int) × (List ((List Int) × (List (List Int))))) (ch_0_0 : Option Addr) (ch_0_1 : Nat) (ch_0_2 : Option Addr) (ch_0_3 : Nat) (r : (List Int) × Bool) (h0 : s x1 = some r) (mi : Mem) (w0 : World), okL mi [(.agg [.ints .u8 x1.1 20, .ints .u8 x1.2.1 20, .one (.bool x1.2.2.1), .one (.int .u64 x1.2.2.2.1), .ints .u64 x1.2.2.2.2.1 4, .sl ch_0_0 (x1.2.2.2.2.2.1).length ch_0_1 (RdS (Ty.int .u8) ch_0_0 x1.2.2.2.2.2.1), .one (.int .u64 x1.2.2.2.2.2.2.1), .ints .u64 x1.2.2.2.2.2.2.2.1 4, .ints .u64 x1.2.2.2.2.2.2.2.2.1 4, .sl ch_0_2 (x1.2.2.2.2.2.2.2.2.2).length ch_0_3 (RdS (Ty.prod (Ty.arr .u8 20) (Ty.slice (Ty.arr .u64 4))) ch_0_2 x1.2.2.2.2.2.2.2.2.2)])] → Pre mi [] w0 → Calls Try.prog 7 (([(.agg [.ints .u8 x1.1 20, .ints .u8 x1.2.1 20, .one (.bool x1.2.2.1), .one (.int .u64 x1.2.2.2.1), .ints .u64 x1.2.2.2.2.1 4, .sl ch_0_0 (x1.2.2.2.2.2.1).length ch_0_1 (RdS (Ty.int .u8) ch_0_0 x1.2.2.2.2.2.1), .one (.int .u64 x1.2.2.2.2.2.2.1), .ints .u64 x1.2.2.2.2.2.2.2.1 4, .ints .u64 x1.2.2.2.2.2.2.2.2.1 4, .sl ch_0_2 (x1.2.2.2.2.2.2.2.2.2).length ch_0_3 (RdS (Ty.prod (Ty.arr .u8 20) (Ty.slice (Ty.arr .u64 4))) ch_0_2 x1.2.2.2.2.2.2.2.2.2)])] : List D).map D.val).toArray w0 (RetX mi [] (fun (ch : Unit) => ((.tup [(true, [.ints .u64 r.1 4]), (false, [.one (.bool r.2)])]) : D)) (fun (ch : Unit) => []) w0)
def tx_Cost.j2 (t1 : (List Int)) (y3 : Bool) : Option ((List Int) × Bool) := if y3 = true then (some ([0, 0, 0, 0], false)) else (some (t1, true))
def tx_Cost.j1 (k : Nat) (x1 : (List Int) × (List Int) × Bool × Int × (List Int) × (List Int) × Int × (List Int) × (List Int) × (List ((List Int) × (List (List Int))))) (y1 : List Int) (y2 : List Int) : Option ((List Int) × Bool) := (word_Add.f k y2 x1.2.2.2.2.1).bind fun t1 => (if (!(decide (y1 = [0, 0, 0, 0]))) = true then (tx_Cost.j2 t1 true) else ((word_Compare.f k t1 y2).bind fun t3 => (tx_Cost.j2 t1 (decide (t3 < 0)))))
def tx_Cost.f (k : Nat) (x1 : (List Int) × (List Int) × Bool × Int × (List Int) × (List Int) × Int × (List Int) × (List Int) × (List ((List Int) × (List (List Int))))) : Option ((List Int) × Bool) := (word_Of.f x1.2.2.2.2.2.2.1).bind fun t4 => ((wide_Product.f k t4 x1.2.2.2.2.2.2.2.1).bind fun t5 => (tx_Cost.j1 k x1 t5.2 t5.1))
theorem tx_Cost.ok (k : Nat) : tx_Cost.Ctr (tx_Cost.f k) := by
  intro x1 ch_0_0 ch_0_1 ch_0_2 ch_0_3 r h0 mi w0 ok hm
  delta tx_Cost.f at h0
  refine c_enterX (n := 31) [(.agg [.ints .u8 x1.1 20, .ints .u8 x1.2.1 20, .one (.bool x1.2.2.1), .one (.int .u64 x1.2.2.2.1), .ints .u64 x1.2.2.2.2.1 4, .sl ch_0_0 (x1.2.2.2.2.2.1).length ch_0_1 (RdS (Ty.int .u8) ch_0_0 x1.2.2.2.2.2.1), .one (.int .u64 x1.2.2.2.2.2.2.1), .ints .u64 x1.2.2.2.2.2.2.2.1 4, .ints .u64 x1.2.2.2.2.2.2.2.2.1 4, .sl ch_0_2 (x1.2.2.2.2.2.2.2.2.2).length ch_0_3 (RdS (Ty.prod (Ty.arr .u8 20) (Ty.slice (Ty.arr .u64 4))) ch_0_2 x1.2.2.2.2.2.2.2.2.2)])] (l := [(0, (.agg [.ints .u8 x1.1 20, .ints .u8 x1.2.1 20, .one (.bool x1.2.2.1), .one (.int .u64 x1.2.2.2.1), .ints .u64 x1.2.2.2.2.1 4, .sl ch_0_0 (x1.2.2.2.2.2.1).length ch_0_1 (RdS (Ty.int .u8) ch_0_0 x1.2.2.2.2.2.1), .one (.int .u64 x1.2.2.2.2.2.2.1), .ints .u64 x1.2.2.2.2.2.2.2.1 4, .ints .u64 x1.2.2.2.2.2.2.2.2.1 4, .sl ch_0_2 (x1.2.2.2.2.2.2.2.2.2).length ch_0_3 (RdS (Ty.prod (Ty.arr .u8 20) (Ty.slice (Ty.arr .u64 4))) ch_0_2 x1.2.2.2.2.2.2.2.2.2)]))]) Try.func7 rfl rfl rfl rfl ok hm ?_
  clear ok hm
  intro b0 hb a S
  refine c_region ?_
  refine s_box S rfl rfl rfl ?_; clear S a; intro g1 a w S
  refine s_alloc S Z26 rfl ⟨rfl, trivial⟩ rfl ?_; clear S a w; intro g2 a w S
  refine s_assign S rfl rfl ?_; clear S a; intro a S
  refine c_end ?_
  refine wp_seq_k ?_
  intro K1 hK1
  have j1 : ∀ (m : Mem) (g5 : Nat) (g6 : Nat) (g7 : Nat) (g8 : Nat) (y1 : List Int) (y2 : List Int) (a : Act) (w : World), St 31 m b0 [(5, (.v (.pointer (some ⟨g5, 0, none⟩)))), (4, (.v (.pointer (some ⟨g6, 0, none⟩)))), (2, (.v (.pointer (some ⟨g7, 0, none⟩)))), (1, (.v (.pointer (some ⟨g8, 0, none⟩))))] [Res.cells g5 26 [.ints .u64 y1 4], Res.cells g6 26 [.ints .u64 y2 4], Res.cells g7 26 [.ints .u64 [0, 0, 0, 0] 4], Res.cells g8 30 [.ints .u8 x1.1 20, .ints .u8 x1.2.1 20, .one (.bool x1.2.2.1), .one (.int .u64 x1.2.2.2.1), .ints .u64 x1.2.2.2.2.1 4, .sl ch_0_0 (x1.2.2.2.2.2.1).length ch_0_1 (RdS (Ty.int .u8) ch_0_0 x1.2.2.2.2.2.1), .one (.int .u64 x1.2.2.2.2.2.2.1), .ints .u64 x1.2.2.2.2.2.2.2.1 4, .ints .u64 x1.2.2.2.2.2.2.2.2.1 4, .sl ch_0_2 (x1.2.2.2.2.2.2.2.2.2).length ch_0_3 (RdS (Ty.prod (Ty.arr .u8 20) (Ty.slice (Ty.arr .u64 4))) ch_0_2 x1.2.2.2.2.2.2.2.2.2)]] a w → tx_Cost.j1 k x1 y1 y2 = some r → K1 a w := by
    intro m g5 g6 g7 g8 y1 y2 a w S h0
    delta tx_Cost.j1 at h0
    refine hK1 a w ?_
    refine c_region ?_
    refine s_loada S rfl (.there .here) T26 (s' := [.ints .u64 y2 4]) rfl rfl ?_; clear S a; intro a S
    refine s_fieldAddr S rfl I30_4 T26 (by decide) rfl rfl ?_; clear S a; intro a S
    refine s_loada S rfl (.there (.there (.there .here))) T26 (s' := [.ints .u64 x1.2.2.2.2.1 4]) rfl rfl ?_; clear S a; intro a S
    obtain ⟨t1, et1, h1⟩ := bind_of h0; clear h0
    refine s_callP S (fun (ch : Unit) => ((.agg [.ints .u64 t1 4]) : D)) N27 rfl rfl (word_Add.ok k y2 x1.2.2.2.2.1 t1 et1 _ _) ?_; clear S a w; intro ch1 m le1 a w S
    refine s_alloc S Z26 rfl ⟨rfl, trivial⟩ rfl ?_; clear S a w; intro g9 a w S
    refine s_store S rfl rfl rfl (s' := [.ints .u64 t1 4]) .here T26 rfl rfl ?_; clear S w; intro w S
    refine c_end ?_
    refine wp_seq ?_
    refine wp_seq_k ?_
    intro K2 hK2
    have j2 : ∀ (m : Mem) (y3 : Bool) (g10 : Nat) (g11 : Nat) (a : Act) (w : World), St 31 m b0 [(28, (.v (.bool y3))), (6, (.v (.pointer (some ⟨g10, 0, none⟩)))), (2, (.v (.pointer (some ⟨g11, 0, none⟩))))] [Res.cells g10 26 [.ints .u64 t1 4], Res.cells g11 26 [.ints .u64 [0, 0, 0, 0] 4]] a w → tx_Cost.j2 t1 y3 = some r → K2 a w := by
      intro m y3 g10 g11 a w S h0
      delta tx_Cost.j2 at h0
      refine hK2 a w ?_
      rcases ite_of h0 with ⟨c1, h1⟩ | ⟨c1, h1⟩ <;> clear h0
      · refine c_condT S rfl c1 ?_
        refine c_region ?_
        refine s_build S (ds := []) (dv := (.agg [.ints .u64 [0, 0, 0, 0] 4])) rfl (fun _ => by kernel_rfl) ⟨rfl, trivial⟩ rfl ?_; clear S a; intro a S
        refine s_store S rfl rfl rfl (s' := [.ints .u64 [0, 0, 0, 0] 4]) (.there .here) T26 rfl rfl ?_; clear S w; intro w S
        refine s_assign S rfl rfl ?_; clear S a; intro a S
        refine c_end ?_
        refine wp_ret ?_
        refine x_thenR ?_
        obtain rfl := Option.some.inj h1
        exact b_ret2 (d1 := (.agg [.ints .u64 [0, 0, 0, 0] 4])) (d2 := (.v (.bool false))) S rfl (resD_cell rfl (.there .here) T26 rfl rfl) rfl fun ok1 ok2 => S.retX (Hx := []) hb _ _ (() : Unit) .nil ⟨ok1, ⟨ok2, trivial⟩, trivial⟩
      · refine c_condF S rfl c1 ?_
        refine wp_skip ?_
        refine x_thenN ?_
        refine c_region ?_
        refine s_loada S rfl .here T26 (s' := [.ints .u64 t1 4]) rfl rfl ?_; clear S a; intro a S
        refine s_store S rfl rfl rfl (s' := [.ints .u64 t1 4]) (.there .here) T26 rfl rfl ?_; clear S w; intro w S
        refine s_assign S rfl rfl ?_; clear S a; intro a S
        refine c_end ?_
        refine wp_ret ?_
        obtain rfl := Option.some.inj h1
        exact b_ret2 (d1 := (.agg [.ints .u64 t1 4])) (d2 := (.v (.bool true))) S rfl (resD_cell rfl (.there .here) T26 rfl rfl) rfl fun ok1 ok2 => S.retX (Hx := []) hb _ _ (() : Unit) .nil ⟨ok1, ⟨ok2, trivial⟩, trivial⟩
    refine c_region' ?_
    refine s_loada S rfl (.there .here) T26 (s' := [.ints .u64 y1 4]) rfl rfl ?_; clear S a; intro a S
    refine s_build S (ds := []) (dv := (.agg [.ints .u64 [0, 0, 0, 0] 4])) rfl (fun _ => by kernel_rfl) ⟨rfl, trivial⟩ rfl ?_; clear S a; intro a S
    refine s_nea S rfl rfl Try.underlying26 Try.underlying24 T24 Q26 rfl ?_; clear S a; intro a S
    refine s_move S rfl rfl ?_; clear S a; intro a S
    rcases ite_of h1 with ⟨c2, h2⟩ | ⟨c2, h2⟩ <;> clear h1
    · refine s_gF S (b := (!(decide (y1 = [0, 0, 0, 0])))) rfl rfl c2 rfl ?_; clear S a; intro a S
      refine s_gF S (b := (!(decide (y1 = [0, 0, 0, 0])))) rfl rfl c2 rfl ?_; clear S a; intro a S
      refine s_gF S (b := (!(decide (y1 = [0, 0, 0, 0])))) rfl rfl c2 rfl ?_; clear S a; intro a S
      refine s_gF S (b := (!(decide (y1 = [0, 0, 0, 0])))) rfl rfl c2 rfl ?_; clear S a; intro a S
      refine s_pick S (b := true) (hc_of rfl c2) rfl rfl ?_; clear S a; intro a S
      refine c_end' ?_
      refine x_thenN ?_
      exact j2 _ true g9 g7 a w (S.sub ⟨rfl, rfl, rfl, trivial⟩ (.cons .here (.cons (.there (.there .here)) .nil))) h2
    · refine s_gT S (b := (!(decide (y1 = [0, 0, 0, 0])))) rfl rfl c2 ?_
      refine s_loada S rfl .here T26 (s' := [.ints .u64 t1 4]) rfl rfl ?_; clear S a; intro a S
      refine s_gT S (b := (!(decide (y1 = [0, 0, 0, 0])))) rfl rfl c2 ?_
      refine s_loada S rfl (.there (.there .here)) T26 (s' := [.ints .u64 y2 4]) rfl rfl ?_; clear S a; intro a S
      refine s_gT S (b := (!(decide (y1 = [0, 0, 0, 0])))) rfl rfl c2 ?_
      obtain ⟨t3, et3, h3⟩ := bind_of h2; clear h2
      refine s_callP S (fun (ch : Unit) => ((.v (.int .i64 t3)) : D)) N28 rfl rfl (word_Compare.ok k t1 y2 t3 et3 _ _) ?_; clear S a w; intro ch2 m le1 a w S
      refine s_gT S (b := (!(decide (y1 = [0, 0, 0, 0])))) rfl rfl c2 ?_
      refine s_bin S rfl rfl rfl rfl ?_; clear S a; intro a S
      refine s_pick S (b := false) (hc_of rfl c2) rfl rfl ?_; clear S a; intro a S
      refine c_end' ?_
      refine x_thenN ?_
      exact j2 _ (decide (t3 < 0)) g9 g7 a w (S.sub ⟨rfl, rfl, rfl, trivial⟩ (.cons .here (.cons (.there (.there .here)) .nil))) h3
  refine c_heldS S (.take 0 (.take 1 (.take 3 (.take 4 (.alts (.run 2 true (.alts (.run 5 true (.take 6 (.take 7 (.take 8 (.alts (.run 9 true (.alts (.run 10 true (.alts (.run 11 true (.alts (.run 12 false .done .nil)) .nil)) .nil)) (.run 10 true (.alts (.run 9 true (.alts (.run 11 true (.alts (.run 12 false .done .nil)) .nil)) .nil)) .nil)))))) (.run 9 true (.alts (.run 5 true (.take 6 (.take 7 (.take 8 (.alts (.run 10 true (.alts (.run 11 true (.alts (.run 12 false .done .nil)) .nil)) .nil))))) (.run 10 true (.alts (.run 5 true (.take 6 (.take 7 (.take 8 (.alts (.run 11 true (.alts (.run 12 false .done .nil)) .nil))))) .nil)) .nil))) (.run 10 true (.alts (.run 5 true (.take 6 (.take 7 (.take 8 (.alts (.run 9 true (.alts (.run 11 true (.alts (.run 12 false .done .nil)) .nil)) .nil))))) (.run 9 true (.alts (.run 5 true (.take 6 (.take 7 (.take 8 (.alts (.run 11 true (.alts (.run 12 false .done .nil)) .nil))))) .nil)) .nil))) .nil)))) (.run 9 true (.alts (.run 2 true (.alts (.run 5 true (.take 6 (.take 7 (.take 8 (.alts (.run 10 true (.alts (.run 11 true (.alts (.run 12 false .done .nil)) .nil)) .nil))))) (.run 10 true (.alts (.run 5 true (.take 6 (.take 7 (.take 8 (.alts (.run 11 true (.alts (.run 12 false .done .nil)) .nil))))) .nil)) .nil))) (.run 10 true (.alts (.run 2 true (.alts (.run 5 true (.take 6 (.take 7 (.take 8 (.alts (.run 11 true (.alts (.run 12 false .done .nil)) .nil))))) .nil)) .nil)) .nil))) (.run 10 true (.alts (.run 2 true (.alts (.run 5 true (.take 6 (.take 7 (.take 8 (.alts (.run 9 true (.alts (.run 11 true (.alts (.run 12 false .done .nil)) .nil)) .nil))))) (.run 9 true (.alts (.run 5 true (.take 6 (.take 7 (.take 8 (.alts (.run 11 true (.alts (.run 12 false .done .nil)) .nil))))) .nil)) .nil))) (.run 9 true (.alts (.run 2 true (.alts (.run 5 true (.take 6 (.take 7 (.take 8 (.alts (.run 11 true (.alts (.run 12 false .done .nil)) .nil))))) .nil)) .nil)) .nil))) .nil)))))))) 12 [Res.cells g2 26 [.ints .u64 [0, 0, 0, 0] 4], Res.cells g1 30 [.ints .u8 x1.1 20, .ints .u8 x1.2.1 20, .one (.bool x1.2.2.1), .one (.int .u64 x1.2.2.2.1), .ints .u64 x1.2.2.2.2.1 4, .sl ch_0_0 (x1.2.2.2.2.2.1).length ch_0_1 (RdS (Ty.int .u8) ch_0_0 x1.2.2.2.2.2.1), .one (.int .u64 x1.2.2.2.2.2.2.1), .ints .u64 x1.2.2.2.2.2.2.2.1 4, .ints .u64 x1.2.2.2.2.2.2.2.2.1 4, .sl ch_0_2 (x1.2.2.2.2.2.2.2.2.2).length ch_0_3 (RdS (Ty.prod (Ty.arr .u8 20) (Ty.slice (Ty.arr .u64 4))) ch_0_2 x1.2.2.2.2.2.2.2.2.2)]] (.cons .here (.cons .here .nil)) ⟨Res.stay_cells, Res.stay_cells, trivial⟩ [(1, (.v (.pointer (some ⟨g1, 0, none⟩))))] ⟨rfl, trivial⟩ (by kernel_rfl) (by kernel_rfl) ?_; clear S; intro w S CL hw le
  refine h_fieldAddr S CL hw le ⟨rfl, trivial⟩ rfl I30_6 T24 (by decide) rfl rfl rfl trivial ?_; clear S CL a; intro a S CL
  refine h_load1 S CL hw le ⟨rfl, rfl, trivial⟩ rfl (.there .here) T24 (v := (.int .u64 x1.2.2.2.2.2.2.1)) rfl rfl rfl trivial ?_; clear S CL a; intro a S CL
  refine h_fieldAddr S CL hw le ⟨rfl, rfl, rfl, trivial⟩ rfl I30_7 T26 (by decide) rfl rfl rfl trivial ?_; clear S CL a; intro a S CL
  refine h_loada S CL hw le ⟨rfl, rfl, rfl, rfl, trivial⟩ rfl (.there .here) T26 (s' := [.ints .u64 x1.2.2.2.2.2.2.2.1 4]) rfl rfl rfl trivial ?_; clear S CL a; intro a S CL
  obtain ⟨t4, et4, h1⟩ := bind_of h0; clear h0
  obtain ⟨t5, et5, h2⟩ := bind_of h1; clear h1
  refine h_alts ?_
  refine h_runO S rfl trivial ?_ ?_
  · refine s_callP S (fun (ch : Unit) => ((.agg [.ints .u64 t4 4]) : D)) N26 rfl rfl (word_Of.ok x1.2.2.2.2.2.2.1 t4 et4 _ _) ?_; clear S a; intro ch3 m le1 a w S
    replace le := le.trans le1
    replace hw := CL.again hw S (.cons .here (.cons .here .nil)) le
    refine h_back ⟨fun _ => hw, ?_⟩
    refine h_alts ?_
    refine h_runO S rfl trivial ?_ ?_
    · refine s_callP S (fun (ch : Unit) => ((.tup [(true, [.ints .u64 t5.1 4]), (true, [.ints .u64 t5.2 4])]) : D)) N25 rfl rfl (wide_Product.ok k t4 x1.2.2.2.2.2.2.2.1 t5 et5 _ _) ?_; clear S a; intro ch4 m le1 a w S
      replace le := le.trans le1
      replace hw := CL.again hw S (.cons .here (.cons .here .nil)) le
      refine h_back ⟨fun _ => hw, ?_⟩
      replace CL := CL.add (t := 13) (d := (.tup [(true, [.ints .u64 t5.1 4]), (true, [.ints .u64 t5.2 4])])) S rfl rfl
      refine h_move S CL hw le ⟨rfl, rfl, rfl, rfl, rfl, rfl, trivial⟩ rfl rfl rfl trivial ?_; clear S CL a; intro a S CL
      refine h_extract S CL hw le ⟨rfl, rfl, rfl, rfl, rfl, rfl, rfl, trivial⟩ rfl rfl rfl rfl rfl trivial ?_; clear S CL a; intro a S CL
      refine h_extract S CL hw le ⟨rfl, rfl, rfl, rfl, rfl, rfl, rfl, rfl, trivial⟩ rfl rfl rfl rfl rfl trivial ?_; clear S CL a; intro a S CL
      refine h_alts ?_
      refine h_runO S rfl trivial ?_ ?_
      · refine s_alloc S Z26 rfl ⟨rfl, trivial⟩ rfl ?_; clear S a; intro g12 a w S
        replace hw := CL.again hw S (.cons (.there .here) (.cons (.there .here) .nil)) le
        refine h_back ⟨fun _ => hw, ?_⟩
        refine h_run' S rfl trivial ?_
        refine s_alloc S Z26 rfl ⟨rfl, trivial⟩ rfl ?_; clear S a; intro g13 a w S
        replace hw := CL.again hw S (.cons (.there (.there .here)) (.cons (.there (.there .here)) .nil)) le
        refine h_back ⟨fun _ => hw, ?_⟩
        refine h_run' S rfl trivial ?_
        refine s_store S rfl rfl rfl (s' := [.ints .u64 t5.1 4]) (.there .here) T26 rfl rfl ?_; clear S; intro w S
        replace hw := CL.again hw S (.cons (.there (.there .here)) (.cons (.there (.there .here)) .nil)) le
        refine h_back ⟨fun _ => hw, ?_⟩
        refine h_run' S rfl trivial ?_
        refine s_store S rfl rfl rfl (s' := [.ints .u64 t5.2 4]) .here T26 rfl rfl ?_; clear S; intro w S
        refine h_back ⟨fun h => (nomatch h), ?_⟩
        refine h_done ?_; clear CL hw le
        refine x_thenN ?_
        exact j1 _ g13 g12 g2 g1 t5.2 t5.1 a w (S.sub ⟨rfl, rfl, rfl, rfl, trivial⟩ (.cons .here (.cons .here (.cons .here (.cons .here .nil))))) h2
      refine h_runO S rfl trivial ?_ ?_
      · refine s_alloc S Z26 rfl ⟨rfl, trivial⟩ rfl ?_; clear S a; intro g12 a w S
        replace hw := CL.again hw S (.cons (.there .here) (.cons (.there .here) .nil)) le
        refine h_back ⟨fun _ => hw, ?_⟩
        refine h_run' S rfl trivial ?_
        refine s_alloc S Z26 rfl ⟨rfl, trivial⟩ rfl ?_; clear S a; intro g13 a w S
        replace hw := CL.again hw S (.cons (.there (.there .here)) (.cons (.there (.there .here)) .nil)) le
        refine h_back ⟨fun _ => hw, ?_⟩
        refine h_run' S rfl trivial ?_
        refine s_store S rfl rfl rfl (s' := [.ints .u64 t5.1 4]) .here T26 rfl rfl ?_; clear S; intro w S
        replace hw := CL.again hw S (.cons (.there (.there .here)) (.cons (.there (.there .here)) .nil)) le
        refine h_back ⟨fun _ => hw, ?_⟩
        refine h_run' S rfl trivial ?_
        refine s_store S rfl rfl rfl (s' := [.ints .u64 t5.2 4]) (.there .here) T26 rfl rfl ?_; clear S; intro w S
        refine h_back ⟨fun h => (nomatch h), ?_⟩
        refine h_done ?_; clear CL hw le
        refine x_thenN ?_
        exact j1 _ g12 g13 g2 g1 t5.2 t5.1 a w (S.sub ⟨rfl, rfl, rfl, rfl, trivial⟩ (.cons (.there .here) (.cons .here (.cons .here (.cons .here .nil))))) h2
      exact h_nil
    refine h_runO S rfl trivial ?_ ?_
    · refine s_alloc S Z26 rfl ⟨rfl, trivial⟩ rfl ?_; clear S a; intro g12 a w S
      replace hw := CL.again hw S (.cons (.there .here) (.cons (.there .here) .nil)) le
      refine h_back ⟨fun _ => hw, ?_⟩
      refine h_alts ?_
      refine h_runO S rfl trivial ?_ ?_
      · refine s_callP S (fun (ch : Unit) => ((.tup [(true, [.ints .u64 t5.1 4]), (true, [.ints .u64 t5.2 4])]) : D)) N25 rfl rfl (wide_Product.ok k t4 x1.2.2.2.2.2.2.2.1 t5 et5 _ _) ?_; clear S a; intro ch4 m le1 a w S
        replace le := le.trans le1
        replace hw := CL.again hw S (.cons (.there .here) (.cons (.there .here) .nil)) le
        refine h_back ⟨fun _ => hw, ?_⟩
        replace CL := CL.add (t := 13) (d := (.tup [(true, [.ints .u64 t5.1 4]), (true, [.ints .u64 t5.2 4])])) S rfl rfl
        refine h_move S CL hw le ⟨rfl, rfl, rfl, rfl, rfl, rfl, trivial⟩ rfl rfl rfl trivial ?_; clear S CL a; intro a S CL
        refine h_extract S CL hw le ⟨rfl, rfl, rfl, rfl, rfl, rfl, rfl, trivial⟩ rfl rfl rfl rfl rfl trivial ?_; clear S CL a; intro a S CL
        refine h_extract S CL hw le ⟨rfl, rfl, rfl, rfl, rfl, rfl, rfl, rfl, trivial⟩ rfl rfl rfl rfl rfl trivial ?_; clear S CL a; intro a S CL
        refine h_run' S rfl trivial ?_
        refine s_alloc S Z26 rfl ⟨rfl, trivial⟩ rfl ?_; clear S a; intro g13 a w S
        replace hw := CL.again hw S (.cons (.there (.there .here)) (.cons (.there (.there .here)) .nil)) le
        refine h_back ⟨fun _ => hw, ?_⟩
        refine h_run' S rfl trivial ?_
        refine s_store S rfl rfl rfl (s' := [.ints .u64 t5.1 4]) (.there .here) T26 rfl rfl ?_; clear S; intro w S
        replace hw := CL.again hw S (.cons (.there (.there .here)) (.cons (.there (.there .here)) .nil)) le
        refine h_back ⟨fun _ => hw, ?_⟩
        refine h_run' S rfl trivial ?_
        refine s_store S rfl rfl rfl (s' := [.ints .u64 t5.2 4]) .here T26 rfl rfl ?_; clear S; intro w S
        refine h_back ⟨fun h => (nomatch h), ?_⟩
        refine h_done ?_; clear CL hw le
        refine x_thenN ?_
        exact j1 _ g13 g12 g2 g1 t5.2 t5.1 a w (S.sub ⟨rfl, rfl, rfl, rfl, trivial⟩ (.cons .here (.cons .here (.cons .here (.cons .here .nil))))) h2
      refine h_runO S rfl trivial ?_ ?_
      · refine s_alloc S Z26 rfl ⟨rfl, trivial⟩ rfl ?_; clear S a; intro g13 a w S
        replace hw := CL.again hw S (.cons (.there (.there .here)) (.cons (.there (.there .here)) .nil)) le
        refine h_back ⟨fun _ => hw, ?_⟩
        refine h_run' S rfl trivial ?_
        refine s_callP S (fun (ch : Unit) => ((.tup [(true, [.ints .u64 t5.1 4]), (true, [.ints .u64 t5.2 4])]) : D)) N25 rfl rfl (wide_Product.ok k t4 x1.2.2.2.2.2.2.2.1 t5 et5 _ _) ?_; clear S a; intro ch4 m le1 a w S
        replace le := le.trans le1
        replace hw := CL.again hw S (.cons (.there (.there .here)) (.cons (.there (.there .here)) .nil)) le
        refine h_back ⟨fun _ => hw, ?_⟩
        replace CL := CL.add (t := 13) (d := (.tup [(true, [.ints .u64 t5.1 4]), (true, [.ints .u64 t5.2 4])])) S rfl rfl
        refine h_move S CL hw le ⟨rfl, rfl, rfl, rfl, rfl, rfl, trivial⟩ rfl rfl rfl trivial ?_; clear S CL a; intro a S CL
        refine h_extract S CL hw le ⟨rfl, rfl, rfl, rfl, rfl, rfl, rfl, trivial⟩ rfl rfl rfl rfl rfl trivial ?_; clear S CL a; intro a S CL
        refine h_extract S CL hw le ⟨rfl, rfl, rfl, rfl, rfl, rfl, rfl, rfl, trivial⟩ rfl rfl rfl rfl rfl trivial ?_; clear S CL a; intro a S CL
        refine h_run' S rfl trivial ?_
        refine s_store S rfl rfl rfl (s' := [.ints .u64 t5.1 4]) (.there .here) T26 rfl rfl ?_; clear S; intro w S
        replace hw := CL.again hw S (.cons (.there (.there .here)) (.cons (.there (.there .here)) .nil)) le
        refine h_back ⟨fun _ => hw, ?_⟩
        refine h_run' S rfl trivial ?_
        refine s_store S rfl rfl rfl (s' := [.ints .u64 t5.2 4]) .here T26 rfl rfl ?_; clear S; intro w S
        refine h_back ⟨fun h => (nomatch h), ?_⟩
        refine h_done ?_; clear CL hw le
        refine x_thenN ?_
        exact j1 _ g13 g12 g2 g1 t5.2 t5.1 a w (S.sub ⟨rfl, rfl, rfl, rfl, trivial⟩ (.cons .here (.cons .here (.cons .here (.cons .here .nil))))) h2
      exact h_nil
    refine h_runO S rfl trivial ?_ ?_
    · refine s_alloc S Z26 rfl ⟨rfl, trivial⟩ rfl ?_; clear S a; intro g12 a w S
      replace hw := CL.again hw S (.cons (.there .here) (.cons (.there .here) .nil)) le
      refine h_back ⟨fun _ => hw, ?_⟩
      refine h_alts ?_
      refine h_runO S rfl trivial ?_ ?_
      · refine s_callP S (fun (ch : Unit) => ((.tup [(true, [.ints .u64 t5.1 4]), (true, [.ints .u64 t5.2 4])]) : D)) N25 rfl rfl (wide_Product.ok k t4 x1.2.2.2.2.2.2.2.1 t5 et5 _ _) ?_; clear S a; intro ch4 m le1 a w S
        replace le := le.trans le1
        replace hw := CL.again hw S (.cons (.there .here) (.cons (.there .here) .nil)) le
        refine h_back ⟨fun _ => hw, ?_⟩
        replace CL := CL.add (t := 13) (d := (.tup [(true, [.ints .u64 t5.1 4]), (true, [.ints .u64 t5.2 4])])) S rfl rfl
        refine h_move S CL hw le ⟨rfl, rfl, rfl, rfl, rfl, rfl, trivial⟩ rfl rfl rfl trivial ?_; clear S CL a; intro a S CL
        refine h_extract S CL hw le ⟨rfl, rfl, rfl, rfl, rfl, rfl, rfl, trivial⟩ rfl rfl rfl rfl rfl trivial ?_; clear S CL a; intro a S CL
        refine h_extract S CL hw le ⟨rfl, rfl, rfl, rfl, rfl, rfl, rfl, rfl, trivial⟩ rfl rfl rfl rfl rfl trivial ?_; clear S CL a; intro a S CL
        refine h_run' S rfl trivial ?_
        refine s_alloc S Z26 rfl ⟨rfl, trivial⟩ rfl ?_; clear S a; intro g13 a w S
        replace hw := CL.again hw S (.cons (.there (.there .here)) (.cons (.there (.there .here)) .nil)) le
        refine h_back ⟨fun _ => hw, ?_⟩
        refine h_run' S rfl trivial ?_
        refine s_store S rfl rfl rfl (s' := [.ints .u64 t5.1 4]) .here T26 rfl rfl ?_; clear S; intro w S
        replace hw := CL.again hw S (.cons (.there (.there .here)) (.cons (.there (.there .here)) .nil)) le
        refine h_back ⟨fun _ => hw, ?_⟩
        refine h_run' S rfl trivial ?_
        refine s_store S rfl rfl rfl (s' := [.ints .u64 t5.2 4]) (.there .here) T26 rfl rfl ?_; clear S; intro w S
        refine h_back ⟨fun h => (nomatch h), ?_⟩
        refine h_done ?_; clear CL hw le
        refine x_thenN ?_
        exact j1 _ g12 g13 g2 g1 t5.2 t5.1 a w (S.sub ⟨rfl, rfl, rfl, rfl, trivial⟩ (.cons (.there .here) (.cons .here (.cons .here (.cons .here .nil))))) h2
      refine h_runO S rfl trivial ?_ ?_
      · refine s_alloc S Z26 rfl ⟨rfl, trivial⟩ rfl ?_; clear S a; intro g13 a w S
        replace hw := CL.again hw S (.cons (.there (.there .here)) (.cons (.there (.there .here)) .nil)) le
        refine h_back ⟨fun _ => hw, ?_⟩
        refine h_run' S rfl trivial ?_
        refine s_callP S (fun (ch : Unit) => ((.tup [(true, [.ints .u64 t5.1 4]), (true, [.ints .u64 t5.2 4])]) : D)) N25 rfl rfl (wide_Product.ok k t4 x1.2.2.2.2.2.2.2.1 t5 et5 _ _) ?_; clear S a; intro ch4 m le1 a w S
        replace le := le.trans le1
        replace hw := CL.again hw S (.cons (.there (.there .here)) (.cons (.there (.there .here)) .nil)) le
        refine h_back ⟨fun _ => hw, ?_⟩
        replace CL := CL.add (t := 13) (d := (.tup [(true, [.ints .u64 t5.1 4]), (true, [.ints .u64 t5.2 4])])) S rfl rfl
        refine h_move S CL hw le ⟨rfl, rfl, rfl, rfl, rfl, rfl, trivial⟩ rfl rfl rfl trivial ?_; clear S CL a; intro a S CL
        refine h_extract S CL hw le ⟨rfl, rfl, rfl, rfl, rfl, rfl, rfl, trivial⟩ rfl rfl rfl rfl rfl trivial ?_; clear S CL a; intro a S CL
        refine h_extract S CL hw le ⟨rfl, rfl, rfl, rfl, rfl, rfl, rfl, rfl, trivial⟩ rfl rfl rfl rfl rfl trivial ?_; clear S CL a; intro a S CL
        refine h_run' S rfl trivial ?_
        refine s_store S rfl rfl rfl (s' := [.ints .u64 t5.1 4]) .here T26 rfl rfl ?_; clear S; intro w S
        replace hw := CL.again hw S (.cons (.there (.there .here)) (.cons (.there (.there .here)) .nil)) le
        refine h_back ⟨fun _ => hw, ?_⟩
        refine h_run' S rfl trivial ?_
        refine s_store S rfl rfl rfl (s' := [.ints .u64 t5.2 4]) (.there .here) T26 rfl rfl ?_; clear S; intro w S
        refine h_back ⟨fun h => (nomatch h), ?_⟩
        refine h_done ?_; clear CL hw le
        refine x_thenN ?_
        exact j1 _ g12 g13 g2 g1 t5.2 t5.1 a w (S.sub ⟨rfl, rfl, rfl, rfl, trivial⟩ (.cons (.there .here) (.cons .here (.cons .here (.cons .here .nil))))) h2
      exact h_nil
    exact h_nil
  refine h_runO S rfl trivial ?_ ?_
  · refine s_alloc S Z26 rfl ⟨rfl, trivial⟩ rfl ?_; clear S a; intro g12 a w S
    replace hw := CL.again hw S (.cons (.there .here) (.cons (.there .here) .nil)) le
    refine h_back ⟨fun _ => hw, ?_⟩
    refine h_alts ?_
    refine h_runO S rfl trivial ?_ ?_
    · refine s_callP S (fun (ch : Unit) => ((.agg [.ints .u64 t4 4]) : D)) N26 rfl rfl (word_Of.ok x1.2.2.2.2.2.2.1 t4 et4 _ _) ?_; clear S a; intro ch3 m le1 a w S
      replace le := le.trans le1
      replace hw := CL.again hw S (.cons (.there .here) (.cons (.there .here) .nil)) le
      refine h_back ⟨fun _ => hw, ?_⟩
      refine h_alts ?_
      refine h_runO S rfl trivial ?_ ?_
      · refine s_callP S (fun (ch : Unit) => ((.tup [(true, [.ints .u64 t5.1 4]), (true, [.ints .u64 t5.2 4])]) : D)) N25 rfl rfl (wide_Product.ok k t4 x1.2.2.2.2.2.2.2.1 t5 et5 _ _) ?_; clear S a; intro ch4 m le1 a w S
        replace le := le.trans le1
        replace hw := CL.again hw S (.cons (.there .here) (.cons (.there .here) .nil)) le
        refine h_back ⟨fun _ => hw, ?_⟩
        replace CL := CL.add (t := 13) (d := (.tup [(true, [.ints .u64 t5.1 4]), (true, [.ints .u64 t5.2 4])])) S rfl rfl
        refine h_move S CL hw le ⟨rfl, rfl, rfl, rfl, rfl, rfl, trivial⟩ rfl rfl rfl trivial ?_; clear S CL a; intro a S CL
        refine h_extract S CL hw le ⟨rfl, rfl, rfl, rfl, rfl, rfl, rfl, trivial⟩ rfl rfl rfl rfl rfl trivial ?_; clear S CL a; intro a S CL
        refine h_extract S CL hw le ⟨rfl, rfl, rfl, rfl, rfl, rfl, rfl, rfl, trivial⟩ rfl rfl rfl rfl rfl trivial ?_; clear S CL a; intro a S CL
        refine h_run' S rfl trivial ?_
        refine s_alloc S Z26 rfl ⟨rfl, trivial⟩ rfl ?_; clear S a; intro g13 a w S
        replace hw := CL.again hw S (.cons (.there (.there .here)) (.cons (.there (.there .here)) .nil)) le
        refine h_back ⟨fun _ => hw, ?_⟩
        refine h_run' S rfl trivial ?_
        refine s_store S rfl rfl rfl (s' := [.ints .u64 t5.1 4]) (.there .here) T26 rfl rfl ?_; clear S; intro w S
        replace hw := CL.again hw S (.cons (.there (.there .here)) (.cons (.there (.there .here)) .nil)) le
        refine h_back ⟨fun _ => hw, ?_⟩
        refine h_run' S rfl trivial ?_
        refine s_store S rfl rfl rfl (s' := [.ints .u64 t5.2 4]) .here T26 rfl rfl ?_; clear S; intro w S
        refine h_back ⟨fun h => (nomatch h), ?_⟩
        refine h_done ?_; clear CL hw le
        refine x_thenN ?_
        exact j1 _ g13 g12 g2 g1 t5.2 t5.1 a w (S.sub ⟨rfl, rfl, rfl, rfl, trivial⟩ (.cons .here (.cons .here (.cons .here (.cons .here .nil))))) h2
      refine h_runO S rfl trivial ?_ ?_
      · refine s_alloc S Z26 rfl ⟨rfl, trivial⟩ rfl ?_; clear S a; intro g13 a w S
        replace hw := CL.again hw S (.cons (.there (.there .here)) (.cons (.there (.there .here)) .nil)) le
        refine h_back ⟨fun _ => hw, ?_⟩
        refine h_run' S rfl trivial ?_
        refine s_callP S (fun (ch : Unit) => ((.tup [(true, [.ints .u64 t5.1 4]), (true, [.ints .u64 t5.2 4])]) : D)) N25 rfl rfl (wide_Product.ok k t4 x1.2.2.2.2.2.2.2.1 t5 et5 _ _) ?_; clear S a; intro ch4 m le1 a w S
        replace le := le.trans le1
        replace hw := CL.again hw S (.cons (.there (.there .here)) (.cons (.there (.there .here)) .nil)) le
        refine h_back ⟨fun _ => hw, ?_⟩
        replace CL := CL.add (t := 13) (d := (.tup [(true, [.ints .u64 t5.1 4]), (true, [.ints .u64 t5.2 4])])) S rfl rfl
        refine h_move S CL hw le ⟨rfl, rfl, rfl, rfl, rfl, rfl, trivial⟩ rfl rfl rfl trivial ?_; clear S CL a; intro a S CL
        refine h_extract S CL hw le ⟨rfl, rfl, rfl, rfl, rfl, rfl, rfl, trivial⟩ rfl rfl rfl rfl rfl trivial ?_; clear S CL a; intro a S CL
        refine h_extract S CL hw le ⟨rfl, rfl, rfl, rfl, rfl, rfl, rfl, rfl, trivial⟩ rfl rfl rfl rfl rfl trivial ?_; clear S CL a; intro a S CL
        refine h_run' S rfl trivial ?_
        refine s_store S rfl rfl rfl (s' := [.ints .u64 t5.1 4]) (.there .here) T26 rfl rfl ?_; clear S; intro w S
        replace hw := CL.again hw S (.cons (.there (.there .here)) (.cons (.there (.there .here)) .nil)) le
        refine h_back ⟨fun _ => hw, ?_⟩
        refine h_run' S rfl trivial ?_
        refine s_store S rfl rfl rfl (s' := [.ints .u64 t5.2 4]) .here T26 rfl rfl ?_; clear S; intro w S
        refine h_back ⟨fun h => (nomatch h), ?_⟩
        refine h_done ?_; clear CL hw le
        refine x_thenN ?_
        exact j1 _ g13 g12 g2 g1 t5.2 t5.1 a w (S.sub ⟨rfl, rfl, rfl, rfl, trivial⟩ (.cons .here (.cons .here (.cons .here (.cons .here .nil))))) h2
      exact h_nil
    refine h_runO S rfl trivial ?_ ?_
    · refine s_alloc S Z26 rfl ⟨rfl, trivial⟩ rfl ?_; clear S a; intro g13 a w S
      replace hw := CL.again hw S (.cons (.there (.there .here)) (.cons (.there (.there .here)) .nil)) le
      refine h_back ⟨fun _ => hw, ?_⟩
      refine h_run' S rfl trivial ?_
      refine s_callP S (fun (ch : Unit) => ((.agg [.ints .u64 t4 4]) : D)) N26 rfl rfl (word_Of.ok x1.2.2.2.2.2.2.1 t4 et4 _ _) ?_; clear S a; intro ch3 m le1 a w S
      replace le := le.trans le1
      replace hw := CL.again hw S (.cons (.there (.there .here)) (.cons (.there (.there .here)) .nil)) le
      refine h_back ⟨fun _ => hw, ?_⟩
      refine h_run' S rfl trivial ?_
      refine s_callP S (fun (ch : Unit) => ((.tup [(true, [.ints .u64 t5.1 4]), (true, [.ints .u64 t5.2 4])]) : D)) N25 rfl rfl (wide_Product.ok k t4 x1.2.2.2.2.2.2.2.1 t5 et5 _ _) ?_; clear S a; intro ch4 m le1 a w S
      replace le := le.trans le1
      replace hw := CL.again hw S (.cons (.there (.there .here)) (.cons (.there (.there .here)) .nil)) le
      refine h_back ⟨fun _ => hw, ?_⟩
      replace CL := CL.add (t := 13) (d := (.tup [(true, [.ints .u64 t5.1 4]), (true, [.ints .u64 t5.2 4])])) S rfl rfl
      refine h_move S CL hw le ⟨rfl, rfl, rfl, rfl, rfl, rfl, trivial⟩ rfl rfl rfl trivial ?_; clear S CL a; intro a S CL
      refine h_extract S CL hw le ⟨rfl, rfl, rfl, rfl, rfl, rfl, rfl, trivial⟩ rfl rfl rfl rfl rfl trivial ?_; clear S CL a; intro a S CL
      refine h_extract S CL hw le ⟨rfl, rfl, rfl, rfl, rfl, rfl, rfl, rfl, trivial⟩ rfl rfl rfl rfl rfl trivial ?_; clear S CL a; intro a S CL
      refine h_run' S rfl trivial ?_
      refine s_store S rfl rfl rfl (s' := [.ints .u64 t5.1 4]) (.there .here) T26 rfl rfl ?_; clear S; intro w S
      replace hw := CL.again hw S (.cons (.there (.there .here)) (.cons (.there (.there .here)) .nil)) le
      refine h_back ⟨fun _ => hw, ?_⟩
      refine h_run' S rfl trivial ?_
      refine s_store S rfl rfl rfl (s' := [.ints .u64 t5.2 4]) .here T26 rfl rfl ?_; clear S; intro w S
      refine h_back ⟨fun h => (nomatch h), ?_⟩
      refine h_done ?_; clear CL hw le
      refine x_thenN ?_
      exact j1 _ g13 g12 g2 g1 t5.2 t5.1 a w (S.sub ⟨rfl, rfl, rfl, rfl, trivial⟩ (.cons .here (.cons .here (.cons .here (.cons .here .nil))))) h2
    exact h_nil
  refine h_runO S rfl trivial ?_ ?_
  · refine s_alloc S Z26 rfl ⟨rfl, trivial⟩ rfl ?_; clear S a; intro g12 a w S
    replace hw := CL.again hw S (.cons (.there .here) (.cons (.there .here) .nil)) le
    refine h_back ⟨fun _ => hw, ?_⟩
    refine h_alts ?_
    refine h_runO S rfl trivial ?_ ?_
    · refine s_callP S (fun (ch : Unit) => ((.agg [.ints .u64 t4 4]) : D)) N26 rfl rfl (word_Of.ok x1.2.2.2.2.2.2.1 t4 et4 _ _) ?_; clear S a; intro ch3 m le1 a w S
      replace le := le.trans le1
      replace hw := CL.again hw S (.cons (.there .here) (.cons (.there .here) .nil)) le
      refine h_back ⟨fun _ => hw, ?_⟩
      refine h_alts ?_
      refine h_runO S rfl trivial ?_ ?_
      · refine s_callP S (fun (ch : Unit) => ((.tup [(true, [.ints .u64 t5.1 4]), (true, [.ints .u64 t5.2 4])]) : D)) N25 rfl rfl (wide_Product.ok k t4 x1.2.2.2.2.2.2.2.1 t5 et5 _ _) ?_; clear S a; intro ch4 m le1 a w S
        replace le := le.trans le1
        replace hw := CL.again hw S (.cons (.there .here) (.cons (.there .here) .nil)) le
        refine h_back ⟨fun _ => hw, ?_⟩
        replace CL := CL.add (t := 13) (d := (.tup [(true, [.ints .u64 t5.1 4]), (true, [.ints .u64 t5.2 4])])) S rfl rfl
        refine h_move S CL hw le ⟨rfl, rfl, rfl, rfl, rfl, rfl, trivial⟩ rfl rfl rfl trivial ?_; clear S CL a; intro a S CL
        refine h_extract S CL hw le ⟨rfl, rfl, rfl, rfl, rfl, rfl, rfl, trivial⟩ rfl rfl rfl rfl rfl trivial ?_; clear S CL a; intro a S CL
        refine h_extract S CL hw le ⟨rfl, rfl, rfl, rfl, rfl, rfl, rfl, rfl, trivial⟩ rfl rfl rfl rfl rfl trivial ?_; clear S CL a; intro a S CL
        refine h_run' S rfl trivial ?_
        refine s_alloc S Z26 rfl ⟨rfl, trivial⟩ rfl ?_; clear S a; intro g13 a w S
        replace hw := CL.again hw S (.cons (.there (.there .here)) (.cons (.there (.there .here)) .nil)) le
        refine h_back ⟨fun _ => hw, ?_⟩
        refine h_run' S rfl trivial ?_
        refine s_store S rfl rfl rfl (s' := [.ints .u64 t5.1 4]) .here T26 rfl rfl ?_; clear S; intro w S
        replace hw := CL.again hw S (.cons (.there (.there .here)) (.cons (.there (.there .here)) .nil)) le
        refine h_back ⟨fun _ => hw, ?_⟩
        refine h_run' S rfl trivial ?_
        refine s_store S rfl rfl rfl (s' := [.ints .u64 t5.2 4]) (.there .here) T26 rfl rfl ?_; clear S; intro w S
        refine h_back ⟨fun h => (nomatch h), ?_⟩
        refine h_done ?_; clear CL hw le
        refine x_thenN ?_
        exact j1 _ g12 g13 g2 g1 t5.2 t5.1 a w (S.sub ⟨rfl, rfl, rfl, rfl, trivial⟩ (.cons (.there .here) (.cons .here (.cons .here (.cons .here .nil))))) h2
      refine h_runO S rfl trivial ?_ ?_
      · refine s_alloc S Z26 rfl ⟨rfl, trivial⟩ rfl ?_; clear S a; intro g13 a w S
        replace hw := CL.again hw S (.cons (.there (.there .here)) (.cons (.there (.there .here)) .nil)) le
        refine h_back ⟨fun _ => hw, ?_⟩
        refine h_run' S rfl trivial ?_
        refine s_callP S (fun (ch : Unit) => ((.tup [(true, [.ints .u64 t5.1 4]), (true, [.ints .u64 t5.2 4])]) : D)) N25 rfl rfl (wide_Product.ok k t4 x1.2.2.2.2.2.2.2.1 t5 et5 _ _) ?_; clear S a; intro ch4 m le1 a w S
        replace le := le.trans le1
        replace hw := CL.again hw S (.cons (.there (.there .here)) (.cons (.there (.there .here)) .nil)) le
        refine h_back ⟨fun _ => hw, ?_⟩
        replace CL := CL.add (t := 13) (d := (.tup [(true, [.ints .u64 t5.1 4]), (true, [.ints .u64 t5.2 4])])) S rfl rfl
        refine h_move S CL hw le ⟨rfl, rfl, rfl, rfl, rfl, rfl, trivial⟩ rfl rfl rfl trivial ?_; clear S CL a; intro a S CL
        refine h_extract S CL hw le ⟨rfl, rfl, rfl, rfl, rfl, rfl, rfl, trivial⟩ rfl rfl rfl rfl rfl trivial ?_; clear S CL a; intro a S CL
        refine h_extract S CL hw le ⟨rfl, rfl, rfl, rfl, rfl, rfl, rfl, rfl, trivial⟩ rfl rfl rfl rfl rfl trivial ?_; clear S CL a; intro a S CL
        refine h_run' S rfl trivial ?_
        refine s_store S rfl rfl rfl (s' := [.ints .u64 t5.1 4]) .here T26 rfl rfl ?_; clear S; intro w S
        replace hw := CL.again hw S (.cons (.there (.there .here)) (.cons (.there (.there .here)) .nil)) le
        refine h_back ⟨fun _ => hw, ?_⟩
        refine h_run' S rfl trivial ?_
        refine s_store S rfl rfl rfl (s' := [.ints .u64 t5.2 4]) (.there .here) T26 rfl rfl ?_; clear S; intro w S
        refine h_back ⟨fun h => (nomatch h), ?_⟩
        refine h_done ?_; clear CL hw le
        refine x_thenN ?_
        exact j1 _ g12 g13 g2 g1 t5.2 t5.1 a w (S.sub ⟨rfl, rfl, rfl, rfl, trivial⟩ (.cons (.there .here) (.cons .here (.cons .here (.cons .here .nil))))) h2
      exact h_nil
    refine h_runO S rfl trivial ?_ ?_
    · refine s_alloc S Z26 rfl ⟨rfl, trivial⟩ rfl ?_; clear S a; intro g13 a w S
      replace hw := CL.again hw S (.cons (.there (.there .here)) (.cons (.there (.there .here)) .nil)) le
      refine h_back ⟨fun _ => hw, ?_⟩
      refine h_run' S rfl trivial ?_
      refine s_callP S (fun (ch : Unit) => ((.agg [.ints .u64 t4 4]) : D)) N26 rfl rfl (word_Of.ok x1.2.2.2.2.2.2.1 t4 et4 _ _) ?_; clear S a; intro ch3 m le1 a w S
      replace le := le.trans le1
      replace hw := CL.again hw S (.cons (.there (.there .here)) (.cons (.there (.there .here)) .nil)) le
      refine h_back ⟨fun _ => hw, ?_⟩
      refine h_run' S rfl trivial ?_
      refine s_callP S (fun (ch : Unit) => ((.tup [(true, [.ints .u64 t5.1 4]), (true, [.ints .u64 t5.2 4])]) : D)) N25 rfl rfl (wide_Product.ok k t4 x1.2.2.2.2.2.2.2.1 t5 et5 _ _) ?_; clear S a; intro ch4 m le1 a w S
      replace le := le.trans le1
      replace hw := CL.again hw S (.cons (.there (.there .here)) (.cons (.there (.there .here)) .nil)) le
      refine h_back ⟨fun _ => hw, ?_⟩
      replace CL := CL.add (t := 13) (d := (.tup [(true, [.ints .u64 t5.1 4]), (true, [.ints .u64 t5.2 4])])) S rfl rfl
      refine h_move S CL hw le ⟨rfl, rfl, rfl, rfl, rfl, rfl, trivial⟩ rfl rfl rfl trivial ?_; clear S CL a; intro a S CL
      refine h_extract S CL hw le ⟨rfl, rfl, rfl, rfl, rfl, rfl, rfl, trivial⟩ rfl rfl rfl rfl rfl trivial ?_; clear S CL a; intro a S CL
      refine h_extract S CL hw le ⟨rfl, rfl, rfl, rfl, rfl, rfl, rfl, rfl, trivial⟩ rfl rfl rfl rfl rfl trivial ?_; clear S CL a; intro a S CL
      refine h_run' S rfl trivial ?_
      refine s_store S rfl rfl rfl (s' := [.ints .u64 t5.1 4]) .here T26 rfl rfl ?_; clear S; intro w S
      replace hw := CL.again hw S (.cons (.there (.there .here)) (.cons (.there (.there .here)) .nil)) le
      refine h_back ⟨fun _ => hw, ?_⟩
      refine h_run' S rfl trivial ?_
      refine s_store S rfl rfl rfl (s' := [.ints .u64 t5.2 4]) (.there .here) T26 rfl rfl ?_; clear S; intro w S
      refine h_back ⟨fun h => (nomatch h), ?_⟩
      refine h_done ?_; clear CL hw le
      refine x_thenN ?_
      exact j1 _ g12 g13 g2 g1 t5.2 t5.1 a w (S.sub ⟨rfl, rfl, rfl, rfl, trivial⟩ (.cons (.there .here) (.cons .here (.cons .here (.cons .here .nil))))) h2
    exact h_nil
  exact h_nil
/-! smithy/word.Sub -/
abbrev word_Sub.Ty : Type := (List Int) → (List Int) → Option ((List Int))
def word_Sub.Ctr (s : word_Sub.Ty) : Prop := ∀ (x1 : List Int) (x2 : List Int) (r : (List Int)) (h0 : s x1 x2 = some r) (mi : Mem) (w0 : World), okL mi [(.agg [.ints .u64 x1 4]), (.agg [.ints .u64 x2 4])] → Pre mi [] w0 → Calls Try.prog 31 (([(.agg [.ints .u64 x1 4]), (.agg [.ints .u64 x2 4])] : List D).map D.val).toArray w0 (RetX mi [] (fun (ch : Unit) => ((.agg [.ints .u64 r 4]) : D)) (fun (ch : Unit) => []) w0)
def word_Sub.j1 (y1 : List Int) : Option ((List Int)) := some y1
def word_Sub.b1 (x1 : List Int) (x2 : List Int) (rec1 : Int → Int → (List Int) → Option ((List Int))) (y5 : Int) (y6 : Int) (y7 : List Int) : Option ((List Int)) := if (decide (y5 < 4)) = true then (if (0 : Int) ≤ y5 ∧ y5 < 4 then (if (0 : Int) ≤ (rd x1 y5) ∧ ((0 : Int) ≤ (rd x2 y5) ∧ ((rd x2 y5) : Int) < 18446744073709551616) ∧ (0 : Int) ≤ y6 ∧ (y6 : Int) ≤ 1 then (rec1 (wr .i64 (y5 + 1)) (if (rd x1 y5) < (rd x2 y5) + y6 then 1 else 0) (y7.set (Int.toNat y5) (((rd x1 y5) - (rd x2 y5) - y6) % 18446744073709551616))) else none) else none) else (word_Sub.j1 y7)
def word_Sub.l1 (x1 : List Int) (x2 : List Int) : Nat → Int → Int → (List Int) → Option ((List Int))
  | 0, _, _, _ => none
  | q + 1, y5, y6, y7 => word_Sub.b1 x1 x2 (word_Sub.l1 x1 x2 q) y5 y6 y7
def word_Sub.f (k : Nat) (x1 : List Int) (x2 : List Int) : Option ((List Int)) := word_Sub.l1 x1 x2 k 0 0 [0, 0, 0, 0]
theorem word_Sub.ok (k : Nat) : word_Sub.Ctr (word_Sub.f k) := by
  intro x1 x2 r h0 mi w0 ok hm
  delta word_Sub.f at h0
  refine c_enterX (n := 30) [(.agg [.ints .u64 x1 4]), (.agg [.ints .u64 x2 4])] (l := [(0, (.agg [.ints .u64 x1 4])), (1, (.agg [.ints .u64 x2 4]))]) Try.func31 rfl rfl rfl rfl ok hm ?_
  clear ok hm
  intro b0 hb a S
  refine c_region ?_
  refine s_box S rfl rfl rfl ?_; clear S a; intro g1 a w S
  refine s_box S rfl rfl rfl ?_; clear S a w; intro g2 a w S
  refine s_alloc S Z26 rfl ⟨rfl, trivial⟩ rfl ?_; clear S a w; intro g3 a w S
  refine c_end ?_
  refine c_region ?_
  refine s_alloc S Z26 rfl ⟨rfl, trivial⟩ rfl ?_; clear S a w; intro g4 a w S
  refine c_end ?_
  refine c_region ?_
  refine s_assign S rfl rfl ?_; clear S a; intro a S
  refine c_end ?_
  refine wp_seq_k ?_
  intro K1 hK1
  have j1 : ∀ (m : Mem) (g17 : Nat) (g18 : Nat) (y1 : List Int) (a : Act) (w : World), St 30 m b0 [(5, (.v (.pointer (some ⟨g17, 0, none⟩)))), (4, (.v (.pointer (some ⟨g18, 0, none⟩))))] [Res.cells g17 26 [.ints .u64 y1 4], Res.cells g18 26 [.ints .u64 [0, 0, 0, 0] 4]] a w → word_Sub.j1 y1 = some r → K1 a w := by
    intro m g17 g18 y1 a w S h0
    delta word_Sub.j1 at h0
    refine hK1 a w ?_
    refine c_region ?_
    refine s_loada S rfl .here T26 (s' := [.ints .u64 y1 4]) rfl rfl ?_; clear S a; intro a S
    refine s_store S rfl rfl rfl (s' := [.ints .u64 y1 4]) (.there .here) T26 rfl rfl ?_; clear S w; intro w S
    refine c_end ?_
    refine wp_ret ?_
    obtain rfl := Option.some.inj h0
    exact b_ret1 (d := (.agg [.ints .u64 y1 4])) S rfl (resD_cell rfl (.there .here) T26 rfl rfl) fun ok => S.retX (Hx := []) hb _ _ (() : Unit) .nil ok
  refine c_region ?_
  refine s_move S rfl rfl ?_; clear S a; intro a S
  refine c_end ?_
  refine wp_block ?_
  refine c_loop (fun q1 a w => ∃ (m : Mem) (y5 : Int) (y6 : Int) (g27 : Nat) (g28 : Nat) (g29 : Nat) (g30 : Nat) (y7 : List Int), St 30 m b0 [(10, (.v (.int .i64 y5))), (6, (.v (.int .u64 y6))), (5, (.v (.pointer (some ⟨g27, 0, none⟩)))), (4, (.v (.pointer (some ⟨g28, 0, none⟩)))), (3, (.v (.pointer (some ⟨g29, 0, none⟩)))), (2, (.v (.pointer (some ⟨g30, 0, none⟩))))] [Res.cells g27 26 [.ints .u64 y7 4], Res.cells g28 26 [.ints .u64 [0, 0, 0, 0] 4], Res.cells g29 26 [.ints .u64 x2 4], Res.cells g30 26 [.ints .u64 x1 4]] a w ∧ word_Sub.l1 x1 x2 q1 y5 y6 y7 = some r) ?_ ?_ (k := k) ⟨_, 0, 0, g4, g3, g2, g1, [0, 0, 0, 0], (S.sub ⟨rfl, rfl, rfl, rfl, rfl, rfl, trivial⟩ (.cons .here (.cons .here (.cons .here (.cons .here .nil))))), h0⟩
  · rintro a w ⟨m, y5, y6, g27, g28, g29, g30, y7, S, h0⟩
    exact (nomatch (show (none : Option ((List Int))) = some r from h0))
  · clear S h0
    rintro q1 a w ⟨m, y5, y6, g27, g28, g29, g30, y7, S, h0⟩
    replace h0 : word_Sub.b1 x1 x2 (word_Sub.l1 x1 x2 q1) y5 y6 y7 = some r := h0
    delta word_Sub.b1 at h0
    refine c_region ?_
    refine s_bin S rfl rfl rfl rfl ?_; clear S a; intro a S
    refine c_end ?_
    refine wp_seq ?_
    rcases ite_of h0 with ⟨c1, h1⟩ | ⟨c1, h1⟩ <;> clear h0
    · refine c_condT S rfl c1 ?_
      refine wp_skip ?_
      refine x_thenN ?_
      refine wp_seq ?_
      refine wp_block ?_
      refine c_region ?_
      refine s_move S rfl rfl ?_; clear S a; intro a S
      refine s_assign S rfl rfl ?_; clear S a; intro a S
      refine c_end ?_
      refine wp_seq (c_heldS S (.take 0 (.take 1 (.take 2 (.take 3 (.take 4 (.take 5 (.take 6 (.alts (.run 7 true (.take 8 (.take 9 (.take 10 (.take 11 (.take 12 .done))))) .nil))))))))) 13 [Res.cells g27 26 [.ints .u64 y7 4], Res.cells g28 26 [.ints .u64 [0, 0, 0, 0] 4], Res.cells g29 26 [.ints .u64 x2 4], Res.cells g30 26 [.ints .u64 x1 4]] (.cons .here (.cons .here (.cons .here (.cons .here .nil)))) ⟨Res.stay_cells, Res.stay_cells, Res.stay_cells, Res.stay_cells, trivial⟩ [(7, (.v (.int .i64 y5))), (6, (.v (.int .u64 y6))), (3, (.v (.pointer (some ⟨g29, 0, none⟩)))), (2, (.v (.pointer (some ⟨g30, 0, none⟩))))] ⟨rfl, rfl, rfl, rfl, trivial⟩ (by kernel_rfl) (by kernel_rfl) ?_); clear S; intro w S CL hw le
      refine h_move S CL hw le ⟨rfl, rfl, rfl, rfl, trivial⟩ rfl rfl rfl trivial ?_; clear S CL a; intro a S CL
      obtain ⟨c2, h2⟩ := chk_of h1; clear h1
      refine h_iaddr S CL hw le ⟨rfl, rfl, rfl, rfl, rfl, trivial⟩ rfl rfl Try.underlying26 T24 c2.1 c2.2 (mul1 _ _) rfl rfl trivial ?_; clear S CL a; intro a S CL
      refine h_loadi S CL hw le ⟨rfl, rfl, rfl, rfl, rfl, rfl, trivial⟩ (i := y5) rfl (.there (.there (.there .here))) T24 .here rfl c2.1 c2.2 rfl rfl trivial ?_; clear S CL a; intro a S CL
      refine h_move S CL hw le ⟨rfl, rfl, rfl, rfl, rfl, rfl, rfl, trivial⟩ rfl rfl rfl trivial ?_; clear S CL a; intro a S CL
      refine h_iaddr S CL hw le ⟨rfl, rfl, rfl, rfl, rfl, rfl, rfl, rfl, trivial⟩ rfl rfl Try.underlying26 T24 c2.1 c2.2 (mul1 _ _) rfl rfl trivial ?_; clear S CL a; intro a S CL
      refine h_loadi S CL hw le ⟨rfl, rfl, rfl, rfl, rfl, rfl, rfl, rfl, rfl, trivial⟩ (i := y5) rfl (.there (.there .here)) T24 .here rfl c2.1 c2.2 rfl rfl trivial ?_; clear S CL a; intro a S CL
      refine h_move S CL hw le ⟨rfl, rfl, rfl, rfl, rfl, rfl, rfl, rfl, rfl, rfl, trivial⟩ rfl rfl rfl trivial ?_; clear S CL a; intro a S CL
      refine h_run' S rfl trivial ?_
      obtain ⟨c3, h3⟩ := chk_of h2; clear h2
      refine s_extSub S X46 rfl rfl rfl c3 rfl ?_; clear S a; intro a S
      replace hw := CL.again hw S (.cons .here (.cons .here (.cons .here (.cons .here .nil)))) le
      refine h_back ⟨fun _ => hw, ?_⟩
      replace CL := CL.add (t := 21) (d := (.tup [(false, [.one (.int .u64 (((rd x1 y5) - (rd x2 y5) - y6) % 18446744073709551616))]), (false, [.one (.int .u64 (if (rd x1 y5) < (rd x2 y5) + y6 then 1 else 0))])])) S rfl rfl
      refine h_move S CL hw le ⟨rfl, rfl, rfl, rfl, rfl, rfl, rfl, rfl, rfl, rfl, rfl, rfl, trivial⟩ rfl rfl rfl trivial ?_; clear S CL a; intro a S CL
      refine h_extract S CL hw le ⟨rfl, rfl, rfl, rfl, rfl, rfl, rfl, rfl, rfl, rfl, rfl, rfl, rfl, trivial⟩ rfl rfl rfl rfl rfl trivial ?_; clear S CL a; intro a S CL
      refine h_extract S CL hw le ⟨rfl, rfl, rfl, rfl, rfl, rfl, rfl, rfl, rfl, rfl, rfl, rfl, rfl, rfl, trivial⟩ rfl rfl rfl rfl rfl trivial ?_; clear S CL a; intro a S CL
      refine h_assign S CL hw le ⟨rfl, rfl, rfl, rfl, rfl, rfl, rfl, rfl, rfl, rfl, rfl, rfl, rfl, rfl, rfl, trivial⟩ rfl rfl rfl trivial ?_; clear S CL a; intro a S CL
      refine h_assign S CL hw le ⟨rfl, rfl, rfl, rfl, rfl, rfl, rfl, rfl, rfl, rfl, rfl, rfl, rfl, rfl, rfl, rfl, trivial⟩ rfl rfl rfl trivial ?_; clear S CL a; intro a S CL
      refine h_done ?_; clear CL hw le
      refine x_thenN ?_
      refine c_region ?_
      refine s_move S rfl rfl ?_; clear S a; intro a S
      refine s_move S rfl rfl ?_; clear S a; intro a S
      refine s_iaddr S rfl rfl Try.underlying26 T24 c2.1 c2.2 (mul1 _ _) rfl ?_; clear S a; intro a S
      refine s_storei S (i := y5) rfl rfl .here T24 .here rfl c2.1 c2.2 ?_; clear S w; intro w S
      refine c_end ?_
      refine c_region' ?_
      refine s_move S rfl rfl ?_; clear S a; intro a S
      refine s_assign S rfl rfl ?_; clear S a; intro a S
      refine c_end' ?_
      refine x_blockN ?_
      refine x_thenN ?_
      refine c_region' ?_
      refine s_bin S rfl rfl rfl rfl ?_; clear S a; intro a S
      refine s_move S rfl rfl ?_; clear S a; intro a S
      refine c_end' ?_
      refine x_thenN ?_
      exact ⟨_, (wr .i64 (y5 + 1)), (if (rd x1 y5) < (rd x2 y5) + y6 then 1 else 0), g27, g28, g29, g30, (y7.set (Int.toNat y5) (((rd x1 y5) - (rd x2 y5) - y6) % 18446744073709551616)), (S.sub ⟨rfl, rfl, rfl, rfl, rfl, rfl, trivial⟩ (.cons .here (.cons .here (.cons .here (.cons .here .nil))))), h3⟩
    · refine c_condF S rfl c1 ?_
      refine wp_exit ?_
      refine x_thenX ?_
      refine x_thenX ?_
      refine x_blockX ?_
      refine x_thenN ?_
      exact j1 _ g27 g28 y7 a w (S.sub ⟨rfl, rfl, trivial⟩ (.cons .here (.cons .here .nil))) h1
/-! smithy/tx.Price -/
abbrev tx_Price.Ty : Type := ((List Int) × (List Int) × Bool × Int × (List Int) × (List Int) × Int × (List Int) × (List Int) × (List ((List Int) × (List (List Int))))) → (List Int) → Option ((List Int) × Bool)
def tx_Price.Ctr (s : tx_Price.Ty) : Prop := ∀ (x1 : (List Int) × (List Int) × Bool × Int × (List Int) × (List Int) × Int × (List Int) × (List Int) × (List ((List Int) × (List (List Int))))) (x2 : List Int) (ch_0_0 : Option Addr) (ch_0_1 : Nat) (ch_0_2 : Option Addr) (ch_0_3 : Nat) (r : (List Int) × Bool) (h0 : s x1 x2 = some r) (mi : Mem) (w0 : World), okL mi [(.agg [.ints .u8 x1.1 20, .ints .u8 x1.2.1 20, .one (.bool x1.2.2.1), .one (.int .u64 x1.2.2.2.1), .ints .u64 x1.2.2.2.2.1 4, .sl ch_0_0 (x1.2.2.2.2.2.1).length ch_0_1 (RdS (Ty.int .u8) ch_0_0 x1.2.2.2.2.2.1), .one (.int .u64 x1.2.2.2.2.2.2.1), .ints .u64 x1.2.2.2.2.2.2.2.1 4, .ints .u64 x1.2.2.2.2.2.2.2.2.1 4, .sl ch_0_2 (x1.2.2.2.2.2.2.2.2.2).length ch_0_3 (RdS (Ty.prod (Ty.arr .u8 20) (Ty.slice (Ty.arr .u64 4))) ch_0_2 x1.2.2.2.2.2.2.2.2.2)]), (.agg [.ints .u64 x2 4])] → Pre mi [] w0 → Calls Try.prog 12 (([(.agg [.ints .u8 x1.1 20, .ints .u8 x1.2.1 20, .one (.bool x1.2.2.1), .one (.int .u64 x1.2.2.2.1), .ints .u64 x1.2.2.2.2.1 4, .sl ch_0_0 (x1.2.2.2.2.2.1).length ch_0_1 (RdS (Ty.int .u8) ch_0_0 x1.2.2.2.2.2.1), .one (.int .u64 x1.2.2.2.2.2.2.1), .ints .u64 x1.2.2.2.2.2.2.2.1 4, .ints .u64 x1.2.2.2.2.2.2.2.2.1 4, .sl ch_0_2 (x1.2.2.2.2.2.2.2.2.2).length ch_0_3 (RdS (Ty.prod (Ty.arr .u8 20) (Ty.slice (Ty.arr .u64 4))) ch_0_2 x1.2.2.2.2.2.2.2.2.2)]), (.agg [.ints .u64 x2 4])] : List D).map D.val).toArray w0 (RetX mi [] (fun (ch : Unit) => ((.tup [(true, [.ints .u64 r.1 4]), (false, [.one (.bool r.2)])]) : D)) (fun (ch : Unit) => []) w0)
def tx_Price.f (k : Nat) (x1 : (List Int) × (List Int) × Bool × Int × (List Int) × (List Int) × Int × (List Int) × (List Int) × (List ((List Int) × (List (List Int))))) (x2 : List Int) : Option ((List Int) × Bool) := (word_Compare.f k x1.2.2.2.2.2.2.2.1 x2).bind fun t1 => (if (decide (t1 < 0)) = true then (some ([0, 0, 0, 0], false)) else ((word_Sub.f k x1.2.2.2.2.2.2.2.1 x2).bind fun t2 => ((word_Compare.f k t2 x1.2.2.2.2.2.2.2.2.1).bind fun t3 => (if (decide (t3 < 0)) = true then (some (x1.2.2.2.2.2.2.2.1, true)) else ((word_Add.f k x2 x1.2.2.2.2.2.2.2.2.1).bind fun t4 => (some (t4, true)))))))
theorem tx_Price.ok (k : Nat) : tx_Price.Ctr (tx_Price.f k) := by
  intro x1 x2 ch_0_0 ch_0_1 ch_0_2 ch_0_3 r h0 mi w0 ok hm
  delta tx_Price.f at h0
  refine c_enterX (n := 28) [(.agg [.ints .u8 x1.1 20, .ints .u8 x1.2.1 20, .one (.bool x1.2.2.1), .one (.int .u64 x1.2.2.2.1), .ints .u64 x1.2.2.2.2.1 4, .sl ch_0_0 (x1.2.2.2.2.2.1).length ch_0_1 (RdS (Ty.int .u8) ch_0_0 x1.2.2.2.2.2.1), .one (.int .u64 x1.2.2.2.2.2.2.1), .ints .u64 x1.2.2.2.2.2.2.2.1 4, .ints .u64 x1.2.2.2.2.2.2.2.2.1 4, .sl ch_0_2 (x1.2.2.2.2.2.2.2.2.2).length ch_0_3 (RdS (Ty.prod (Ty.arr .u8 20) (Ty.slice (Ty.arr .u64 4))) ch_0_2 x1.2.2.2.2.2.2.2.2.2)]), (.agg [.ints .u64 x2 4])] (l := [(0, (.agg [.ints .u8 x1.1 20, .ints .u8 x1.2.1 20, .one (.bool x1.2.2.1), .one (.int .u64 x1.2.2.2.1), .ints .u64 x1.2.2.2.2.1 4, .sl ch_0_0 (x1.2.2.2.2.2.1).length ch_0_1 (RdS (Ty.int .u8) ch_0_0 x1.2.2.2.2.2.1), .one (.int .u64 x1.2.2.2.2.2.2.1), .ints .u64 x1.2.2.2.2.2.2.2.1 4, .ints .u64 x1.2.2.2.2.2.2.2.2.1 4, .sl ch_0_2 (x1.2.2.2.2.2.2.2.2.2).length ch_0_3 (RdS (Ty.prod (Ty.arr .u8 20) (Ty.slice (Ty.arr .u64 4))) ch_0_2 x1.2.2.2.2.2.2.2.2.2)])), (1, (.agg [.ints .u64 x2 4]))]) Try.func12 rfl rfl rfl rfl ok hm ?_
  clear ok hm
  intro b0 hb a S
  refine c_region ?_
  refine s_box S rfl rfl rfl ?_; clear S a; intro g1 a w S
  refine s_box S rfl rfl rfl ?_; clear S a w; intro g2 a w S
  refine s_alloc S Z26 rfl ⟨rfl, trivial⟩ rfl ?_; clear S a w; intro g3 a w S
  refine s_assign S rfl rfl ?_; clear S a; intro a S
  refine c_end ?_
  refine wp_seq ?_
  refine c_region ?_
  refine s_fieldAddr S rfl I30_7 T26 (by decide) rfl rfl ?_; clear S a; intro a S
  refine s_loada S rfl (.there (.there .here)) T26 (s' := [.ints .u64 x1.2.2.2.2.2.2.2.1 4]) rfl rfl ?_; clear S a; intro a S
  refine s_loada S rfl (.there .here) T26 (s' := [.ints .u64 x2 4]) rfl rfl ?_; clear S a; intro a S
  obtain ⟨t1, et1, h1⟩ := bind_of h0; clear h0
  refine s_callP S (fun (ch : Unit) => ((.v (.int .i64 t1)) : D)) N28 rfl rfl (word_Compare.ok k x1.2.2.2.2.2.2.2.1 x2 t1 et1 _ _) ?_; clear S a w; intro ch1 m le1 a w S
  refine s_bin S rfl rfl rfl rfl ?_; clear S a; intro a S
  refine c_end ?_
  rcases ite_of h1 with ⟨c1, h2⟩ | ⟨c1, h2⟩ <;> clear h1
  · refine c_condT S rfl c1 ?_
    refine c_region ?_
    refine s_build S (ds := []) (dv := (.agg [.ints .u64 [0, 0, 0, 0] 4])) rfl (fun _ => by kernel_rfl) ⟨rfl, trivial⟩ rfl ?_; clear S a; intro a S
    refine s_store S rfl rfl rfl (s' := [.ints .u64 [0, 0, 0, 0] 4]) .here T26 rfl rfl ?_; clear S w; intro w S
    refine s_assign S rfl rfl ?_; clear S a; intro a S
    refine c_end ?_
    refine wp_ret ?_
    refine x_thenR ?_
    obtain rfl := Option.some.inj h2
    exact b_ret2 (d1 := (.agg [.ints .u64 [0, 0, 0, 0] 4])) (d2 := (.v (.bool false))) S rfl (resD_cell rfl .here T26 rfl rfl) rfl fun ok1 ok2 => S.retX (Hx := []) hb _ _ (() : Unit) .nil ⟨ok1, ⟨ok2, trivial⟩, trivial⟩
  · refine c_condF S rfl c1 ?_
    refine wp_skip ?_
    refine x_thenN ?_
    refine wp_seq ?_
    refine c_region ?_
    refine s_fieldAddr S rfl I30_7 T26 (by decide) rfl rfl ?_; clear S a; intro a S
    refine s_loada S rfl (.there (.there .here)) T26 (s' := [.ints .u64 x1.2.2.2.2.2.2.2.1 4]) rfl rfl ?_; clear S a; intro a S
    refine s_loada S rfl (.there .here) T26 (s' := [.ints .u64 x2 4]) rfl rfl ?_; clear S a; intro a S
    obtain ⟨t2, et2, h3⟩ := bind_of h2; clear h2
    refine s_callP S (fun (ch : Unit) => ((.agg [.ints .u64 t2 4]) : D)) N31 rfl rfl (word_Sub.ok k x1.2.2.2.2.2.2.2.1 x2 t2 et2 _ _) ?_; clear S a w; intro ch2 m le1 a w S
    refine s_alloc S Z26 rfl ⟨rfl, trivial⟩ rfl ?_; clear S a w; intro g4 a w S
    refine s_store S rfl rfl rfl (s' := [.ints .u64 t2 4]) .here T26 rfl rfl ?_; clear S w; intro w S
    refine c_end ?_
    refine c_region ?_
    refine s_loada S rfl .here T26 (s' := [.ints .u64 t2 4]) rfl rfl ?_; clear S a; intro a S
    refine s_fieldAddr S rfl I30_8 T26 (by decide) rfl rfl ?_; clear S a; intro a S
    refine s_loada S rfl (.there (.there (.there .here))) T26 (s' := [.ints .u64 x1.2.2.2.2.2.2.2.2.1 4]) rfl rfl ?_; clear S a; intro a S
    obtain ⟨t3, et3, h4⟩ := bind_of h3; clear h3
    refine s_callP S (fun (ch : Unit) => ((.v (.int .i64 t3)) : D)) N28 rfl rfl (word_Compare.ok k t2 x1.2.2.2.2.2.2.2.2.1 t3 et3 _ _) ?_; clear S a w; intro ch3 m le1 a w S
    refine s_bin S rfl rfl rfl rfl ?_; clear S a; intro a S
    refine c_end ?_
    rcases ite_of h4 with ⟨c2, h5⟩ | ⟨c2, h5⟩ <;> clear h4
    · refine c_condT S rfl c2 ?_
      refine c_region ?_
      refine s_fieldAddr S rfl I30_7 T26 (by decide) rfl rfl ?_; clear S a; intro a S
      refine s_loada S rfl (.there (.there (.there .here))) T26 (s' := [.ints .u64 x1.2.2.2.2.2.2.2.1 4]) rfl rfl ?_; clear S a; intro a S
      refine s_store S rfl rfl rfl (s' := [.ints .u64 x1.2.2.2.2.2.2.2.1 4]) (.there .here) T26 rfl rfl ?_; clear S w; intro w S
      refine s_assign S rfl rfl ?_; clear S a; intro a S
      refine c_end ?_
      refine wp_ret ?_
      refine x_thenR ?_
      obtain rfl := Option.some.inj h5
      exact b_ret2 (d1 := (.agg [.ints .u64 x1.2.2.2.2.2.2.2.1 4])) (d2 := (.v (.bool true))) S rfl (resD_cell rfl (.there .here) T26 rfl rfl) rfl fun ok1 ok2 => S.retX (Hx := []) hb _ _ (() : Unit) .nil ⟨ok1, ⟨ok2, trivial⟩, trivial⟩
    · refine c_condF S rfl c2 ?_
      refine wp_skip ?_
      refine x_thenN ?_
      refine c_region ?_
      refine s_loada S rfl (.there (.there .here)) T26 (s' := [.ints .u64 x2 4]) rfl rfl ?_; clear S a; intro a S
      refine s_fieldAddr S rfl I30_8 T26 (by decide) rfl rfl ?_; clear S a; intro a S
      refine s_loada S rfl (.there (.there (.there .here))) T26 (s' := [.ints .u64 x1.2.2.2.2.2.2.2.2.1 4]) rfl rfl ?_; clear S a; intro a S
      obtain ⟨t4, et4, h6⟩ := bind_of h5; clear h5
      refine s_callP S (fun (ch : Unit) => ((.agg [.ints .u64 t4 4]) : D)) N27 rfl rfl (word_Add.ok k x2 x1.2.2.2.2.2.2.2.2.1 t4 et4 _ _) ?_; clear S a w; intro ch4 m le1 a w S
      refine s_store S rfl rfl rfl (s' := [.ints .u64 t4 4]) (.there .here) T26 rfl rfl ?_; clear S w; intro w S
      refine s_assign S rfl rfl ?_; clear S a; intro a S
      refine c_end ?_
      refine wp_ret ?_
      obtain rfl := Option.some.inj h6
      exact b_ret2 (d1 := (.agg [.ints .u64 t4 4])) (d2 := (.v (.bool true))) S rfl (resD_cell rfl (.there .here) T26 rfl rfl) rfl fun ok1 ok2 => S.retX (Hx := []) hb _ _ (() : Unit) .nil ⟨ok1, ⟨ok2, trivial⟩, trivial⟩
/-! smithy/smithylaw19.fixed -/
abbrev smithylaw19_fixed.Ty : Type := Option Bool
def smithylaw19_fixed.Ctr (s : smithylaw19_fixed.Ty) : Prop := ∀ (r : Bool) (h0 : s = some r) (mi : Mem) (w0 : World), okL mi [] → Pre mi [] w0 → Calls Try.prog 6 (([] : List D).map D.val).toArray w0 (RetX mi [] (fun (ch : Unit) => ((.v (.bool r)) : D)) (fun (ch : Unit) => []) w0)
def smithylaw19_fixed.f (k : Nat) : Option Bool := (tx_Cost.f k ([0, 0, 0, 0, 0, 0, 0, 0, 0, 0, 0, 0, 0, 0, 0, 0, 0, 0, 0, 0], [0, 0, 0, 0, 0, 0, 0, 0, 0, 0, 0, 0, 0, 0, 0, 0, 0, 0, 0, 0], false, 0, [5, 0, 0, 0], ([] : List Int), 21000, [10, 0, 0, 0], [2, 0, 0, 0], ([] : List ((List Int) × (List (List Int)))))).bind fun t1 => ((tx_Price.f k ([0, 0, 0, 0, 0, 0, 0, 0, 0, 0, 0, 0, 0, 0, 0, 0, 0, 0, 0, 0], [0, 0, 0, 0, 0, 0, 0, 0, 0, 0, 0, 0, 0, 0, 0, 0, 0, 0, 0, 0], false, 0, [5, 0, 0, 0], ([] : List Int), 21000, [10, 0, 0, 0], [2, 0, 0, 0], ([] : List ((List Int) × (List (List Int))))) [7, 0, 0, 0]).bind fun t2 => ((tx_Price.f k ([0, 0, 0, 0, 0, 0, 0, 0, 0, 0, 0, 0, 0, 0, 0, 0, 0, 0, 0, 0], [0, 0, 0, 0, 0, 0, 0, 0, 0, 0, 0, 0, 0, 0, 0, 0, 0, 0, 0, 0], false, 0, [5, 0, 0, 0], ([] : List Int), 21000, [10, 0, 0, 0], [2, 0, 0, 0], ([] : List ((List Int) × (List (List Int))))) [9, 0, 0, 0]).bind fun t3 => ((tx_Price.f k ([0, 0, 0, 0, 0, 0, 0, 0, 0, 0, 0, 0, 0, 0, 0, 0, 0, 0, 0, 0], [0, 0, 0, 0, 0, 0, 0, 0, 0, 0, 0, 0, 0, 0, 0, 0, 0, 0, 0, 0], false, 0, [5, 0, 0, 0], ([] : List Int), 21000, [10, 0, 0, 0], [2, 0, 0, 0], ([] : List ((List Int) × (List (List Int))))) [11, 0, 0, 0]).bind fun t4 => (if t1.2 = true then (if (decide (t1.1 = [210005, 0, 0, 0])) = true then (if t2.2 = true then (if (decide (t2.1 = [9, 0, 0, 0])) = true then (if t3.2 = true then (if (decide (t3.1 = [10, 0, 0, 0])) = true then (some (!t4.2)) else (some false)) else (some false)) else (some false)) else (some false)) else (some false)) else (some false)))))
theorem smithylaw19_fixed.ok (k : Nat) : smithylaw19_fixed.Ctr (smithylaw19_fixed.f k) := by
  intro r h0 mi w0 ok hm
  delta smithylaw19_fixed.f at h0
  refine c_enterX (n := 63) [] (l := []) Try.func6 rfl rfl rfl rfl ok hm ?_
  clear ok hm
  intro b0 hb a S
  refine c_region ?_
  refine s_assign S rfl rfl ?_; clear S a; intro a S
  refine c_end ?_
  refine c_region ?_
  refine s_build S (ds := [(0, (.v (.int .u64 10)))]) (dv := (.agg [.ints .u64 [10, 0, 0, 0] 4])) rfl (fun _ => by kernel_rfl) ⟨rfl, trivial⟩ rfl ?_; clear S a; intro a S
  refine s_build S (ds := [(0, (.v (.int .u64 2)))]) (dv := (.agg [.ints .u64 [2, 0, 0, 0] 4])) rfl (fun _ => by kernel_rfl) ⟨rfl, trivial⟩ rfl ?_; clear S a; intro a S
  refine s_build S (ds := [(0, (.v (.int .u64 5)))]) (dv := (.agg [.ints .u64 [5, 0, 0, 0] 4])) rfl (fun _ => by kernel_rfl) ⟨rfl, trivial⟩ rfl ?_; clear S a; intro a S
  refine s_bldS S (ds := [(6, (.v (.int .u64 21000))), (7, (.agg [.ints .u64 [10, 0, 0, 0] 4])), (8, (.agg [.ints .u64 [2, 0, 0, 0] 4])), (4, (.agg [.ints .u64 [5, 0, 0, 0] 4]))]) (zs := [.ints .u8 [0, 0, 0, 0, 0, 0, 0, 0, 0, 0, 0, 0, 0, 0, 0, 0, 0, 0, 0, 0] 20, .ints .u8 [0, 0, 0, 0, 0, 0, 0, 0, 0, 0, 0, 0, 0, 0, 0, 0, 0, 0, 0, 0] 20, .one (.bool false), .one (.int .u64 0), .ints .u64 [0, 0, 0, 0] 4, .one (.slice none 0 0), .one (.int .u64 0), .ints .u64 [0, 0, 0, 0] 4, .ints .u64 [0, 0, 0, 0] 4, .one (.slice none 0 0)]) (s' := [.ints .u8 [0, 0, 0, 0, 0, 0, 0, 0, 0, 0, 0, 0, 0, 0, 0, 0, 0, 0, 0, 0] 20, .ints .u8 [0, 0, 0, 0, 0, 0, 0, 0, 0, 0, 0, 0, 0, 0, 0, 0, 0, 0, 0, 0] 20, .one (.bool false), .one (.int .u64 0), .ints .u64 [5, 0, 0, 0] 4, .one (.slice none 0 0), .one (.int .u64 21000), .ints .u64 [10, 0, 0, 0] 4, .ints .u64 [2, 0, 0, 0] 4, .one (.slice none 0 0)]) rfl Try.underlying30 P30 Z30 ⟨rfl, rfl, rfl, rfl, rfl, rfl, rfl, rfl, rfl, rfl, trivial⟩ rfl rfl ?_; clear S a; intro a S
  refine s_alloc S Z30 rfl ⟨rfl, rfl, rfl, rfl, rfl, rfl, rfl, rfl, rfl, rfl, trivial⟩ rfl ?_; clear S a; intro g1 a w S
  refine s_store S rfl rfl rfl (s' := [.ints .u8 [0, 0, 0, 0, 0, 0, 0, 0, 0, 0, 0, 0, 0, 0, 0, 0, 0, 0, 0, 0] 20, .ints .u8 [0, 0, 0, 0, 0, 0, 0, 0, 0, 0, 0, 0, 0, 0, 0, 0, 0, 0, 0, 0] 20, .one (.bool false), .one (.int .u64 0), .ints .u64 [5, 0, 0, 0] 4, .one (.slice none 0 0), .one (.int .u64 21000), .ints .u64 [10, 0, 0, 0] 4, .ints .u64 [2, 0, 0, 0] 4, .one (.slice none 0 0)]) .here T30 rfl rfl ?_; clear S w; intro w S
  refine c_end ?_
  refine c_region ?_
  refine s_loada S rfl .here T30 (s' := [.ints .u8 [0, 0, 0, 0, 0, 0, 0, 0, 0, 0, 0, 0, 0, 0, 0, 0, 0, 0, 0, 0] 20, .ints .u8 [0, 0, 0, 0, 0, 0, 0, 0, 0, 0, 0, 0, 0, 0, 0, 0, 0, 0, 0, 0] 20, .one (.bool false), .one (.int .u64 0), .ints .u64 [5, 0, 0, 0] 4, .one (.slice none 0 0), .one (.int .u64 21000), .ints .u64 [10, 0, 0, 0] 4, .ints .u64 [2, 0, 0, 0] 4, .one (.slice none 0 0)]) rfl rfl ?_; clear S a; intro a S
  replace S := S.slot (u := 15) (d' := (.agg [.ints .u8 [0, 0, 0, 0, 0, 0, 0, 0, 0, 0, 0, 0, 0, 0, 0, 0, 0, 0, 0, 0] 20, .ints .u8 [0, 0, 0, 0, 0, 0, 0, 0, 0, 0, 0, 0, 0, 0, 0, 0, 0, 0, 0, 0] 20, .one (.bool false), .one (.int .u64 0), .ints .u64 [5, 0, 0, 0] 4, .sl none (([] : List Int)).length 0 (RdS (Ty.int .u8) none ([] : List Int)), .one (.int .u64 21000), .ints .u64 [10, 0, 0, 0] 4, .ints .u64 [2, 0, 0, 0] 4, .sl none (([] : List ((List Int) × (List (List Int))))).length 0 (RdS (Ty.prod (Ty.arr .u8 20) (Ty.slice (Ty.arr .u64 4))) none ([] : List ((List Int) × (List (List Int)))))])) rfl rfl (by have h := (S.get 15 (.agg [.ints .u8 [0, 0, 0, 0, 0, 0, 0, 0, 0, 0, 0, 0, 0, 0, 0, 0, 0, 0, 0, 0] 20, .ints .u8 [0, 0, 0, 0, 0, 0, 0, 0, 0, 0, 0, 0, 0, 0, 0, 0, 0, 0, 0, 0] 20, .one (.bool false), .one (.int .u64 0), .ints .u64 [5, 0, 0, 0] 4, .one (.slice none 0 0), .one (.int .u64 21000), .ints .u64 [10, 0, 0, 0] 4, .ints .u64 [2, 0, 0, 0] 4, .one (.slice none 0 0)]) rfl).2; exact ⟨h.1, h.2.1, h.2.2.1, h.2.2.2.1, h.2.2.2.2.1, ok_nil, h.2.2.2.2.2.2.1, h.2.2.2.2.2.2.2.1, h.2.2.2.2.2.2.2.2.1, ok_nil, trivial⟩)
  obtain ⟨t1, et1, h1⟩ := bind_of h0; clear h0
  refine s_callP S (fun (ch : Unit) => ((.tup [(true, [.ints .u64 t1.1 4]), (false, [.one (.bool t1.2)])]) : D)) N7 rfl rfl (tx_Cost.ok k ([0, 0, 0, 0, 0, 0, 0, 0, 0, 0, 0, 0, 0, 0, 0, 0, 0, 0, 0, 0], [0, 0, 0, 0, 0, 0, 0, 0, 0, 0, 0, 0, 0, 0, 0, 0, 0, 0, 0, 0], false, 0, [5, 0, 0, 0], ([] : List Int), 21000, [10, 0, 0, 0], [2, 0, 0, 0], ([] : List ((List Int) × (List (List Int))))) none 0 none 0 t1 et1 _ _) ?_; clear S a w; intro ch1 m le1 a w S
  refine s_move S rfl rfl ?_; clear S a; intro a S
  refine s_extract S rfl rfl rfl rfl ?_; clear S a; intro a S
  refine s_extract S rfl rfl rfl rfl ?_; clear S a; intro a S
  refine s_alloc S Z26 rfl ⟨rfl, trivial⟩ rfl ?_; clear S a w; intro g2 a w S
  refine s_store S rfl rfl rfl (s' := [.ints .u64 t1.1 4]) .here T26 rfl rfl ?_; clear S w; intro w S
  refine s_assign S rfl rfl ?_; clear S a; intro a S
  refine c_end ?_
  refine c_region ?_
  refine s_loada S rfl (.there .here) T30 (s' := [.ints .u8 [0, 0, 0, 0, 0, 0, 0, 0, 0, 0, 0, 0, 0, 0, 0, 0, 0, 0, 0, 0] 20, .ints .u8 [0, 0, 0, 0, 0, 0, 0, 0, 0, 0, 0, 0, 0, 0, 0, 0, 0, 0, 0, 0] 20, .one (.bool false), .one (.int .u64 0), .ints .u64 [5, 0, 0, 0] 4, .one (.slice none 0 0), .one (.int .u64 21000), .ints .u64 [10, 0, 0, 0] 4, .ints .u64 [2, 0, 0, 0] 4, .one (.slice none 0 0)]) rfl rfl ?_; clear S a; intro a S
  refine s_build S (ds := [(0, (.v (.int .u64 7)))]) (dv := (.agg [.ints .u64 [7, 0, 0, 0] 4])) rfl (fun _ => by kernel_rfl) ⟨rfl, trivial⟩ rfl ?_; clear S a; intro a S
  replace S := S.slot (u := 20) (d' := (.agg [.ints .u8 [0, 0, 0, 0, 0, 0, 0, 0, 0, 0, 0, 0, 0, 0, 0, 0, 0, 0, 0, 0] 20, .ints .u8 [0, 0, 0, 0, 0, 0, 0, 0, 0, 0, 0, 0, 0, 0, 0, 0, 0, 0, 0, 0] 20, .one (.bool false), .one (.int .u64 0), .ints .u64 [5, 0, 0, 0] 4, .sl none (([] : List Int)).length 0 (RdS (Ty.int .u8) none ([] : List Int)), .one (.int .u64 21000), .ints .u64 [10, 0, 0, 0] 4, .ints .u64 [2, 0, 0, 0] 4, .sl none (([] : List ((List Int) × (List (List Int))))).length 0 (RdS (Ty.prod (Ty.arr .u8 20) (Ty.slice (Ty.arr .u64 4))) none ([] : List ((List Int) × (List (List Int)))))])) rfl rfl (by have h := (S.get 20 (.agg [.ints .u8 [0, 0, 0, 0, 0, 0, 0, 0, 0, 0, 0, 0, 0, 0, 0, 0, 0, 0, 0, 0] 20, .ints .u8 [0, 0, 0, 0, 0, 0, 0, 0, 0, 0, 0, 0, 0, 0, 0, 0, 0, 0, 0, 0] 20, .one (.bool false), .one (.int .u64 0), .ints .u64 [5, 0, 0, 0] 4, .one (.slice none 0 0), .one (.int .u64 21000), .ints .u64 [10, 0, 0, 0] 4, .ints .u64 [2, 0, 0, 0] 4, .one (.slice none 0 0)]) rfl).2; exact ⟨h.1, h.2.1, h.2.2.1, h.2.2.2.1, h.2.2.2.2.1, ok_nil, h.2.2.2.2.2.2.1, h.2.2.2.2.2.2.2.1, h.2.2.2.2.2.2.2.2.1, ok_nil, trivial⟩)
  obtain ⟨t2, et2, h2⟩ := bind_of h1; clear h1
  refine s_callP S (fun (ch : Unit) => ((.tup [(true, [.ints .u64 t2.1 4]), (false, [.one (.bool t2.2)])]) : D)) N12 rfl rfl (tx_Price.ok k ([0, 0, 0, 0, 0, 0, 0, 0, 0, 0, 0, 0, 0, 0, 0, 0, 0, 0, 0, 0], [0, 0, 0, 0, 0, 0, 0, 0, 0, 0, 0, 0, 0, 0, 0, 0, 0, 0, 0, 0], false, 0, [5, 0, 0, 0], ([] : List Int), 21000, [10, 0, 0, 0], [2, 0, 0, 0], ([] : List ((List Int) × (List (List Int))))) [7, 0, 0, 0] none 0 none 0 t2 et2 _ _) ?_; clear S a w; intro ch2 m le1 a w S
  refine s_move S rfl rfl ?_; clear S a; intro a S
  refine s_extract S rfl rfl rfl rfl ?_; clear S a; intro a S
  refine s_extract S rfl rfl rfl rfl ?_; clear S a; intro a S
  refine s_alloc S Z26 rfl ⟨rfl, trivial⟩ rfl ?_; clear S a w; intro g3 a w S
  refine s_store S rfl rfl rfl (s' := [.ints .u64 t2.1 4]) .here T26 rfl rfl ?_; clear S w; intro w S
  refine s_assign S rfl rfl ?_; clear S a; intro a S
  refine c_end ?_
  refine c_region ?_
  refine s_loada S rfl (.there (.there .here)) T30 (s' := [.ints .u8 [0, 0, 0, 0, 0, 0, 0, 0, 0, 0, 0, 0, 0, 0, 0, 0, 0, 0, 0, 0] 20, .ints .u8 [0, 0, 0, 0, 0, 0, 0, 0, 0, 0, 0, 0, 0, 0, 0, 0, 0, 0, 0, 0] 20, .one (.bool false), .one (.int .u64 0), .ints .u64 [5, 0, 0, 0] 4, .one (.slice none 0 0), .one (.int .u64 21000), .ints .u64 [10, 0, 0, 0] 4, .ints .u64 [2, 0, 0, 0] 4, .one (.slice none 0 0)]) rfl rfl ?_; clear S a; intro a S
  refine s_build S (ds := [(0, (.v (.int .u64 9)))]) (dv := (.agg [.ints .u64 [9, 0, 0, 0] 4])) rfl (fun _ => by kernel_rfl) ⟨rfl, trivial⟩ rfl ?_; clear S a; intro a S
  replace S := S.slot (u := 26) (d' := (.agg [.ints .u8 [0, 0, 0, 0, 0, 0, 0, 0, 0, 0, 0, 0, 0, 0, 0, 0, 0, 0, 0, 0] 20, .ints .u8 [0, 0, 0, 0, 0, 0, 0, 0, 0, 0, 0, 0, 0, 0, 0, 0, 0, 0, 0, 0] 20, .one (.bool false), .one (.int .u64 0), .ints .u64 [5, 0, 0, 0] 4, .sl none (([] : List Int)).length 0 (RdS (Ty.int .u8) none ([] : List Int)), .one (.int .u64 21000), .ints .u64 [10, 0, 0, 0] 4, .ints .u64 [2, 0, 0, 0] 4, .sl none (([] : List ((List Int) × (List (List Int))))).length 0 (RdS (Ty.prod (Ty.arr .u8 20) (Ty.slice (Ty.arr .u64 4))) none ([] : List ((List Int) × (List (List Int)))))])) rfl rfl (by have h := (S.get 26 (.agg [.ints .u8 [0, 0, 0, 0, 0, 0, 0, 0, 0, 0, 0, 0, 0, 0, 0, 0, 0, 0, 0, 0] 20, .ints .u8 [0, 0, 0, 0, 0, 0, 0, 0, 0, 0, 0, 0, 0, 0, 0, 0, 0, 0, 0, 0] 20, .one (.bool false), .one (.int .u64 0), .ints .u64 [5, 0, 0, 0] 4, .one (.slice none 0 0), .one (.int .u64 21000), .ints .u64 [10, 0, 0, 0] 4, .ints .u64 [2, 0, 0, 0] 4, .one (.slice none 0 0)]) rfl).2; exact ⟨h.1, h.2.1, h.2.2.1, h.2.2.2.1, h.2.2.2.2.1, ok_nil, h.2.2.2.2.2.2.1, h.2.2.2.2.2.2.2.1, h.2.2.2.2.2.2.2.2.1, ok_nil, trivial⟩)
  obtain ⟨t3, et3, h3⟩ := bind_of h2; clear h2
  refine s_callP S (fun (ch : Unit) => ((.tup [(true, [.ints .u64 t3.1 4]), (false, [.one (.bool t3.2)])]) : D)) N12 rfl rfl (tx_Price.ok k ([0, 0, 0, 0, 0, 0, 0, 0, 0, 0, 0, 0, 0, 0, 0, 0, 0, 0, 0, 0], [0, 0, 0, 0, 0, 0, 0, 0, 0, 0, 0, 0, 0, 0, 0, 0, 0, 0, 0, 0], false, 0, [5, 0, 0, 0], ([] : List Int), 21000, [10, 0, 0, 0], [2, 0, 0, 0], ([] : List ((List Int) × (List (List Int))))) [9, 0, 0, 0] none 0 none 0 t3 et3 _ _) ?_; clear S a w; intro ch3 m le1 a w S
  refine s_move S rfl rfl ?_; clear S a; intro a S
  refine s_extract S rfl rfl rfl rfl ?_; clear S a; intro a S
  refine s_extract S rfl rfl rfl rfl ?_; clear S a; intro a S
  refine s_alloc S Z26 rfl ⟨rfl, trivial⟩ rfl ?_; clear S a w; intro g4 a w S
  refine s_store S rfl rfl rfl (s' := [.ints .u64 t3.1 4]) .here T26 rfl rfl ?_; clear S w; intro w S
  refine s_assign S rfl rfl ?_; clear S a; intro a S
  refine c_end ?_
  refine c_region ?_
  refine s_loada S rfl (.there (.there (.there .here))) T30 (s' := [.ints .u8 [0, 0, 0, 0, 0, 0, 0, 0, 0, 0, 0, 0, 0, 0, 0, 0, 0, 0, 0, 0] 20, .ints .u8 [0, 0, 0, 0, 0, 0, 0, 0, 0, 0, 0, 0, 0, 0, 0, 0, 0, 0, 0, 0] 20, .one (.bool false), .one (.int .u64 0), .ints .u64 [5, 0, 0, 0] 4, .one (.slice none 0 0), .one (.int .u64 21000), .ints .u64 [10, 0, 0, 0] 4, .ints .u64 [2, 0, 0, 0] 4, .one (.slice none 0 0)]) rfl rfl ?_; clear S a; intro a S
  refine s_build S (ds := [(0, (.v (.int .u64 11)))]) (dv := (.agg [.ints .u64 [11, 0, 0, 0] 4])) rfl (fun _ => by kernel_rfl) ⟨rfl, trivial⟩ rfl ?_; clear S a; intro a S
  replace S := S.slot (u := 32) (d' := (.agg [.ints .u8 [0, 0, 0, 0, 0, 0, 0, 0, 0, 0, 0, 0, 0, 0, 0, 0, 0, 0, 0, 0] 20, .ints .u8 [0, 0, 0, 0, 0, 0, 0, 0, 0, 0, 0, 0, 0, 0, 0, 0, 0, 0, 0, 0] 20, .one (.bool false), .one (.int .u64 0), .ints .u64 [5, 0, 0, 0] 4, .sl none (([] : List Int)).length 0 (RdS (Ty.int .u8) none ([] : List Int)), .one (.int .u64 21000), .ints .u64 [10, 0, 0, 0] 4, .ints .u64 [2, 0, 0, 0] 4, .sl none (([] : List ((List Int) × (List (List Int))))).length 0 (RdS (Ty.prod (Ty.arr .u8 20) (Ty.slice (Ty.arr .u64 4))) none ([] : List ((List Int) × (List (List Int)))))])) rfl rfl (by have h := (S.get 32 (.agg [.ints .u8 [0, 0, 0, 0, 0, 0, 0, 0, 0, 0, 0, 0, 0, 0, 0, 0, 0, 0, 0, 0] 20, .ints .u8 [0, 0, 0, 0, 0, 0, 0, 0, 0, 0, 0, 0, 0, 0, 0, 0, 0, 0, 0, 0] 20, .one (.bool false), .one (.int .u64 0), .ints .u64 [5, 0, 0, 0] 4, .one (.slice none 0 0), .one (.int .u64 21000), .ints .u64 [10, 0, 0, 0] 4, .ints .u64 [2, 0, 0, 0] 4, .one (.slice none 0 0)]) rfl).2; exact ⟨h.1, h.2.1, h.2.2.1, h.2.2.2.1, h.2.2.2.2.1, ok_nil, h.2.2.2.2.2.2.1, h.2.2.2.2.2.2.2.1, h.2.2.2.2.2.2.2.2.1, ok_nil, trivial⟩)
  obtain ⟨t4, et4, h4⟩ := bind_of h3; clear h3
  refine s_callP S (fun (ch : Unit) => ((.tup [(true, [.ints .u64 t4.1 4]), (false, [.one (.bool t4.2)])]) : D)) N12 rfl rfl (tx_Price.ok k ([0, 0, 0, 0, 0, 0, 0, 0, 0, 0, 0, 0, 0, 0, 0, 0, 0, 0, 0, 0], [0, 0, 0, 0, 0, 0, 0, 0, 0, 0, 0, 0, 0, 0, 0, 0, 0, 0, 0, 0], false, 0, [5, 0, 0, 0], ([] : List Int), 21000, [10, 0, 0, 0], [2, 0, 0, 0], ([] : List ((List Int) × (List (List Int))))) [11, 0, 0, 0] none 0 none 0 t4 et4 _ _) ?_; clear S a w; intro ch4 m le1 a w S
  refine s_move S rfl rfl ?_; clear S a; intro a S
  refine s_extract S rfl rfl rfl rfl ?_; clear S a; intro a S
  refine s_extract S rfl rfl rfl rfl ?_; clear S a; intro a S
  refine s_alloc S Z26 rfl ⟨rfl, trivial⟩ rfl ?_; clear S a w; intro g5 a w S
  refine s_store S rfl rfl rfl (s' := [.ints .u64 t4.1 4]) .here T26 rfl rfl ?_; clear S w; intro w S
  refine s_assign S rfl rfl ?_; clear S a; intro a S
  refine c_end ?_
  refine c_region ?_
  refine s_move S rfl rfl ?_; clear S a; intro a S
  refine s_move S rfl rfl ?_; clear S a; intro a S
  rcases ite_of h4 with ⟨c1, h5⟩ | ⟨c1, h5⟩ <;> clear h4
  · refine s_gT S (b := t1.2) rfl rfl c1 ?_
    refine s_loada S rfl (.there (.there (.there .here))) T26 (s' := [.ints .u64 t1.1 4]) rfl rfl ?_; clear S a; intro a S
    refine s_gT S (b := t1.2) rfl rfl c1 ?_
    refine s_build S (ds := [(0, (.v (.int .u64 210005)))]) (dv := (.agg [.ints .u64 [210005, 0, 0, 0] 4])) rfl (fun _ => by kernel_rfl) ⟨rfl, trivial⟩ rfl ?_; clear S a; intro a S
    refine s_gT S (b := t1.2) rfl rfl c1 ?_
    refine s_eqa S rfl rfl Try.underlying26 Try.underlying24 T24 Q26 rfl ?_; clear S a; intro a S
    refine s_pick S (b := true) (hc_of rfl c1) rfl rfl ?_; clear S a; intro a S
    refine s_move S rfl rfl ?_; clear S a; intro a S
    rcases ite_of h5 with ⟨c2, h6⟩ | ⟨c2, h6⟩ <;> clear h5
    · refine s_gT S (b := (decide (t1.1 = [210005, 0, 0, 0]))) rfl rfl c2 ?_
      refine s_move S rfl rfl ?_; clear S a; intro a S
      refine s_pick S (b := true) (hc_of rfl c2) rfl rfl ?_; clear S a; intro a S
      refine s_move S rfl rfl ?_; clear S a; intro a S
      rcases ite_of h6 with ⟨c3, h7⟩ | ⟨c3, h7⟩ <;> clear h6
      · refine s_gT S (b := t2.2) rfl rfl c3 ?_
        refine s_loada S rfl (.there (.there .here)) T26 (s' := [.ints .u64 t2.1 4]) rfl rfl ?_; clear S a; intro a S
        refine s_gT S (b := t2.2) rfl rfl c3 ?_
        refine s_build S (ds := [(0, (.v (.int .u64 9)))]) (dv := (.agg [.ints .u64 [9, 0, 0, 0] 4])) rfl (fun _ => by kernel_rfl) ⟨rfl, trivial⟩ rfl ?_; clear S a; intro a S
        refine s_gT S (b := t2.2) rfl rfl c3 ?_
        refine s_eqa S rfl rfl Try.underlying26 Try.underlying24 T24 Q26 rfl ?_; clear S a; intro a S
        refine s_pick S (b := true) (hc_of rfl c3) rfl rfl ?_; clear S a; intro a S
        refine s_move S rfl rfl ?_; clear S a; intro a S
        rcases ite_of h7 with ⟨c4, h8⟩ | ⟨c4, h8⟩ <;> clear h7
        · refine s_gT S (b := (decide (t2.1 = [9, 0, 0, 0]))) rfl rfl c4 ?_
          refine s_move S rfl rfl ?_; clear S a; intro a S
          refine s_pick S (b := true) (hc_of rfl c4) rfl rfl ?_; clear S a; intro a S
          refine s_move S rfl rfl ?_; clear S a; intro a S
          rcases ite_of h8 with ⟨c5, h9⟩ | ⟨c5, h9⟩ <;> clear h8
          · refine s_gT S (b := t3.2) rfl rfl c5 ?_
            refine s_loada S rfl (.there .here) T26 (s' := [.ints .u64 t3.1 4]) rfl rfl ?_; clear S a; intro a S
            refine s_gT S (b := t3.2) rfl rfl c5 ?_
            refine s_build S (ds := [(0, (.v (.int .u64 10)))]) (dv := (.agg [.ints .u64 [10, 0, 0, 0] 4])) rfl (fun _ => by kernel_rfl) ⟨rfl, trivial⟩ rfl ?_; clear S a; intro a S
            refine s_gT S (b := t3.2) rfl rfl c5 ?_
            refine s_eqa S rfl rfl Try.underlying26 Try.underlying24 T24 Q26 rfl ?_; clear S a; intro a S
            refine s_pick S (b := true) (hc_of rfl c5) rfl rfl ?_; clear S a; intro a S
            refine s_move S rfl rfl ?_; clear S a; intro a S
            rcases ite_of h9 with ⟨c6, h10⟩ | ⟨c6, h10⟩ <;> clear h9
            · refine s_gT S (b := (decide (t3.1 = [10, 0, 0, 0]))) rfl rfl c6 ?_
              refine s_move S rfl rfl ?_; clear S a; intro a S
              refine s_gT S (b := (decide (t3.1 = [10, 0, 0, 0]))) rfl rfl c6 ?_
              refine s_not S rfl rfl ?_; clear S a; intro a S
              refine s_pick S (b := true) (hc_of rfl c6) rfl rfl ?_; clear S a; intro a S
              refine s_assign S rfl rfl ?_; clear S a; intro a S
              refine c_end ?_
              refine wp_ret ?_
              obtain rfl := Option.some.inj h10
              exact b_ret1 (d := (.v (.bool (!t4.2)))) S rfl rfl fun ok => S.retX (Hx := []) hb _ _ (() : Unit) .nil ok
            · refine s_gF S (b := (decide (t3.1 = [10, 0, 0, 0]))) rfl rfl c6 rfl ?_; clear S a; intro a S
              refine s_gF S (b := (decide (t3.1 = [10, 0, 0, 0]))) rfl rfl c6 rfl ?_; clear S a; intro a S
              refine s_pick S (b := false) (hc_of rfl c6) rfl rfl ?_; clear S a; intro a S
              refine s_assign S rfl rfl ?_; clear S a; intro a S
              refine c_end ?_
              refine wp_ret ?_
              obtain rfl := Option.some.inj h10
              exact b_ret1 (d := (.v (.bool false))) S rfl rfl fun ok => S.retX (Hx := []) hb _ _ (() : Unit) .nil ok
          · refine s_gF S (b := t3.2) rfl rfl c5 rfl ?_; clear S a; intro a S
            refine s_gF S (b := t3.2) rfl rfl c5 rfl ?_; clear S a; intro a S
            refine s_gF S (b := t3.2) rfl rfl c5 rfl ?_; clear S a; intro a S
            refine s_pick S (b := false) (hc_of rfl c5) rfl rfl ?_; clear S a; intro a S
            refine s_move S rfl rfl ?_; clear S a; intro a S
            refine s_gF S (b := false) rfl rfl rfl rfl ?_; clear S a; intro a S
            refine s_gF S (b := false) rfl rfl rfl rfl ?_; clear S a; intro a S
            refine s_pick S (b := false) (hc_of rfl rfl) rfl rfl ?_; clear S a; intro a S
            refine s_assign S rfl rfl ?_; clear S a; intro a S
            refine c_end ?_
            refine wp_ret ?_
            obtain rfl := Option.some.inj h9
            exact b_ret1 (d := (.v (.bool false))) S rfl rfl fun ok => S.retX (Hx := []) hb _ _ (() : Unit) .nil ok
        · refine s_gF S (b := (decide (t2.1 = [9, 0, 0, 0]))) rfl rfl c4 rfl ?_; clear S a; intro a S
          refine s_pick S (b := false) (hc_of rfl c4) rfl rfl ?_; clear S a; intro a S
          refine s_move S rfl rfl ?_; clear S a; intro a S
          refine s_gF S (b := false) rfl rfl rfl rfl ?_; clear S a; intro a S
          refine s_gF S (b := false) rfl rfl rfl rfl ?_; clear S a; intro a S
          refine s_gF S (b := false) rfl rfl rfl rfl ?_; clear S a; intro a S
          refine s_pick S (b := false) (hc_of rfl rfl) rfl rfl ?_; clear S a; intro a S
          refine s_move S rfl rfl ?_; clear S a; intro a S
          refine s_gF S (b := false) rfl rfl rfl rfl ?_; clear S a; intro a S
          refine s_gF S (b := false) rfl rfl rfl rfl ?_; clear S a; intro a S
          refine s_pick S (b := false) (hc_of rfl rfl) rfl rfl ?_; clear S a; intro a S
          refine s_assign S rfl rfl ?_; clear S a; intro a S
          refine c_end ?_
          refine wp_ret ?_
          obtain rfl := Option.some.inj h8
          exact b_ret1 (d := (.v (.bool false))) S rfl rfl fun ok => S.retX (Hx := []) hb _ _ (() : Unit) .nil ok
      · refine s_gF S (b := t2.2) rfl rfl c3 rfl ?_; clear S a; intro a S
        refine s_gF S (b := t2.2) rfl rfl c3 rfl ?_; clear S a; intro a S
        refine s_gF S (b := t2.2) rfl rfl c3 rfl ?_; clear S a; intro a S
        refine s_pick S (b := false) (hc_of rfl c3) rfl rfl ?_; clear S a; intro a S
        refine s_move S rfl rfl ?_; clear S a; intro a S
        refine s_gF S (b := false) rfl rfl rfl rfl ?_; clear S a; intro a S
        refine s_pick S (b := false) (hc_of rfl rfl) rfl rfl ?_; clear S a; intro a S
        refine s_move S rfl rfl ?_; clear S a; intro a S
        refine s_gF S (b := false) rfl rfl rfl rfl ?_; clear S a; intro a S
        refine s_gF S (b := false) rfl rfl rfl rfl ?_; clear S a; intro a S
        refine s_gF S (b := false) rfl rfl rfl rfl ?_; clear S a; intro a S
        refine s_pick S (b := false) (hc_of rfl rfl) rfl rfl ?_; clear S a; intro a S
        refine s_move S rfl rfl ?_; clear S a; intro a S
        refine s_gF S (b := false) rfl rfl rfl rfl ?_; clear S a; intro a S
        refine s_gF S (b := false) rfl rfl rfl rfl ?_; clear S a; intro a S
        refine s_pick S (b := false) (hc_of rfl rfl) rfl rfl ?_; clear S a; intro a S
        refine s_assign S rfl rfl ?_; clear S a; intro a S
        refine c_end ?_
        refine wp_ret ?_
        obtain rfl := Option.some.inj h7
        exact b_ret1 (d := (.v (.bool false))) S rfl rfl fun ok => S.retX (Hx := []) hb _ _ (() : Unit) .nil ok
    · refine s_gF S (b := (decide (t1.1 = [210005, 0, 0, 0]))) rfl rfl c2 rfl ?_; clear S a; intro a S
      refine s_pick S (b := false) (hc_of rfl c2) rfl rfl ?_; clear S a; intro a S
      refine s_move S rfl rfl ?_; clear S a; intro a S
      refine s_gF S (b := false) rfl rfl rfl rfl ?_; clear S a; intro a S
      refine s_gF S (b := false) rfl rfl rfl rfl ?_; clear S a; intro a S
      refine s_gF S (b := false) rfl rfl rfl rfl ?_; clear S a; intro a S
      refine s_pick S (b := false) (hc_of rfl rfl) rfl rfl ?_; clear S a; intro a S
      refine s_move S rfl rfl ?_; clear S a; intro a S
      refine s_gF S (b := false) rfl rfl rfl rfl ?_; clear S a; intro a S
      refine s_pick S (b := false) (hc_of rfl rfl) rfl rfl ?_; clear S a; intro a S
      refine s_move S rfl rfl ?_; clear S a; intro a S
      refine s_gF S (b := false) rfl rfl rfl rfl ?_; clear S a; intro a S
      refine s_gF S (b := false) rfl rfl rfl rfl ?_; clear S a; intro a S
      refine s_gF S (b := false) rfl rfl rfl rfl ?_; clear S a; intro a S
      refine s_pick S (b := false) (hc_of rfl rfl) rfl rfl ?_; clear S a; intro a S
      refine s_move S rfl rfl ?_; clear S a; intro a S
      refine s_gF S (b := false) rfl rfl rfl rfl ?_; clear S a; intro a S
      refine s_gF S (b := false) rfl rfl rfl rfl ?_; clear S a; intro a S
      refine s_pick S (b := false) (hc_of rfl rfl) rfl rfl ?_; clear S a; intro a S
      refine s_assign S rfl rfl ?_; clear S a; intro a S
      refine c_end ?_
      refine wp_ret ?_
      obtain rfl := Option.some.inj h6
      exact b_ret1 (d := (.v (.bool false))) S rfl rfl fun ok => S.retX (Hx := []) hb _ _ (() : Unit) .nil ok
  · refine s_gF S (b := t1.2) rfl rfl c1 rfl ?_; clear S a; intro a S
    refine s_gF S (b := t1.2) rfl rfl c1 rfl ?_; clear S a; intro a S
    refine s_gF S (b := t1.2) rfl rfl c1 rfl ?_; clear S a; intro a S
    refine s_pick S (b := false) (hc_of rfl c1) rfl rfl ?_; clear S a; intro a S
    refine s_move S rfl rfl ?_; clear S a; intro a S
    refine s_gF S (b := false) rfl rfl rfl rfl ?_; clear S a; intro a S
    refine s_pick S (b := false) (hc_of rfl rfl) rfl rfl ?_; clear S a; intro a S
    refine s_move S rfl rfl ?_; clear S a; intro a S
    refine s_gF S (b := false) rfl rfl rfl rfl ?_; clear S a; intro a S
    refine s_gF S (b := false) rfl rfl rfl rfl ?_; clear S a; intro a S
    refine s_gF S (b := false) rfl rfl rfl rfl ?_; clear S a; intro a S
    refine s_pick S (b := false) (hc_of rfl rfl) rfl rfl ?_; clear S a; intro a S
    refine s_move S rfl rfl ?_; clear S a; intro a S
    refine s_gF S (b := false) rfl rfl rfl rfl ?_; clear S a; intro a S
    refine s_pick S (b := false) (hc_of rfl rfl) rfl rfl ?_; clear S a; intro a S
    refine s_move S rfl rfl ?_; clear S a; intro a S
    refine s_gF S (b := false) rfl rfl rfl rfl ?_; clear S a; intro a S
    refine s_gF S (b := false) rfl rfl rfl rfl ?_; clear S a; intro a S
    refine s_gF S (b := false) rfl rfl rfl rfl ?_; clear S a; intro a S
    refine s_pick S (b := false) (hc_of rfl rfl) rfl rfl ?_; clear S a; intro a S
    refine s_move S rfl rfl ?_; clear S a; intro a S
    refine s_gF S (b := false) rfl rfl rfl rfl ?_; clear S a; intro a S
    refine s_gF S (b := false) rfl rfl rfl rfl ?_; clear S a; intro a S
    refine s_pick S (b := false) (hc_of rfl rfl) rfl rfl ?_; clear S a; intro a S
    refine s_assign S rfl rfl ?_; clear S a; intro a S
    refine c_end ?_
    refine wp_ret ?_
    obtain rfl := Option.some.inj h5
    exact b_ret1 (d := (.v (.bool false))) S rfl rfl fun ok => S.retX (Hx := []) hb _ _ (() : Unit) .nil ok
/-! smithy/smithyref01.Of -/
abbrev smithyref01_Of.Ty : Type := (List Int) → Option ((List Int))
def smithyref01_Of.Ctr (s : smithyref01_Of.Ty) : Prop := ∀ (x1 : List Int) (r : (List Int)) (h0 : s x1 = some r) (mi : Mem) (w0 : World), okL mi [(.agg [.ints .u64 x1 4])] → Pre mi [] w0 → Calls Try.prog 42 (([(.agg [.ints .u64 x1 4])] : List D).map D.val).toArray w0 (RetX mi [] (fun (ch : Unit) => ((.agg [.ints .i64 r 32]) : D)) (fun (ch : Unit) => []) w0)
def smithyref01_Of.j1 (y1 : List Int) : Option ((List Int)) := some y1
def smithyref01_Of.b1 (x1 : List Int) (rec1 : Int → (List Int) → Option ((List Int))) (y4 : Int) (y5 : List Int) : Option ((List Int)) := if (decide (y4 < 32)) = true then (if (0 : Int) ≤ (wr .i64 (Int.tdiv y4 8)) ∧ (wr .i64 (Int.tdiv y4 8)) < 4 then (if (0 : Int) ≤ (wr .i64 (8 * (Int.tmod y4 8))) then (if (0 : Int) ≤ y4 ∧ y4 < 32 then (rec1 (wr .i64 (y4 + 1)) (y5.set (Int.toNat y4) (wr .i64 (Int.tmod (shr (rd x1 (wr .i64 (Int.tdiv y4 8))) (min (Int.toNat (wr .i64 (8 * (Int.tmod y4 8)))) 64)) 256)))) else none) else none) else none) else (smithyref01_Of.j1 y5)
def smithyref01_Of.l1 (x1 : List Int) : Nat → Int → (List Int) → Option ((List Int))
  | 0, _, _ => none
  | q + 1, y4, y5 => smithyref01_Of.b1 x1 (smithyref01_Of.l1 x1 q) y4 y5
def smithyref01_Of.f (k : Nat) (x1 : List Int) : Option ((List Int)) := smithyref01_Of.l1 x1 k 0 [0, 0, 0, 0, 0, 0, 0, 0, 0, 0, 0, 0, 0, 0, 0, 0, 0, 0, 0, 0, 0, 0, 0, 0, 0, 0, 0, 0, 0, 0, 0, 0]
theorem smithyref01_Of.ok (k : Nat) : smithyref01_Of.Ctr (smithyref01_Of.f k) := by
  intro x1 r h0 mi w0 ok hm
  delta smithyref01_Of.f at h0
  refine c_enterX (n := 23) [(.agg [.ints .u64 x1 4])] (l := [(0, (.agg [.ints .u64 x1 4]))]) Try.func42 rfl rfl rfl rfl ok hm ?_
  clear ok hm
  intro b0 hb a S
  refine c_region ?_
  refine s_box S rfl rfl rfl ?_; clear S a; intro g1 a w S
  refine s_alloc S Z70 rfl ⟨rfl, trivial⟩ rfl ?_; clear S a w; intro g2 a w S
  refine c_end ?_
  refine c_region ?_
  refine s_build S (ds := []) (dv := (.agg [.ints .i64 [0, 0, 0, 0, 0, 0, 0, 0, 0, 0, 0, 0, 0, 0, 0, 0, 0, 0, 0, 0, 0, 0, 0, 0, 0, 0, 0, 0, 0, 0, 0, 0] 32])) rfl (fun _ => by kernel_rfl) ⟨rfl, trivial⟩ rfl ?_; clear S a; intro a S
  refine s_alloc S Z70 rfl ⟨rfl, trivial⟩ rfl ?_; clear S a w; intro g3 a w S
  refine s_store S rfl rfl rfl (s' := [.ints .i64 [0, 0, 0, 0, 0, 0, 0, 0, 0, 0, 0, 0, 0, 0, 0, 0, 0, 0, 0, 0, 0, 0, 0, 0, 0, 0, 0, 0, 0, 0, 0, 0] 32]) .here T70 rfl rfl ?_; clear S w; intro w S
  refine c_end ?_
  refine wp_seq_k ?_
  intro K1 hK1
  have j1 : ∀ (m : Mem) (g13 : Nat) (g14 : Nat) (y1 : List Int) (a : Act) (w : World), St 23 m b0 [(3, (.v (.pointer (some ⟨g13, 0, none⟩)))), (2, (.v (.pointer (some ⟨g14, 0, none⟩))))] [Res.cells g13 70 [.ints .i64 y1 32], Res.cells g14 70 [.ints .i64 [0, 0, 0, 0, 0, 0, 0, 0, 0, 0, 0, 0, 0, 0, 0, 0, 0, 0, 0, 0, 0, 0, 0, 0, 0, 0, 0, 0, 0, 0, 0, 0] 32]] a w → smithyref01_Of.j1 y1 = some r → K1 a w := by
    intro m g13 g14 y1 a w S h0
    delta smithyref01_Of.j1 at h0
    refine hK1 a w ?_
    refine c_region ?_
    refine s_loada S rfl .here T70 (s' := [.ints .i64 y1 32]) rfl rfl ?_; clear S a; intro a S
    refine s_store S rfl rfl rfl (s' := [.ints .i64 y1 32]) (.there .here) T70 rfl rfl ?_; clear S w; intro w S
    refine c_end ?_
    refine wp_ret ?_
    obtain rfl := Option.some.inj h0
    exact b_ret1 (d := (.agg [.ints .i64 y1 32])) S rfl (resD_cell rfl (.there .here) T70 rfl rfl) fun ok => S.retX (Hx := []) hb _ _ (() : Unit) .nil ok
  refine c_region ?_
  refine s_assign S rfl rfl ?_; clear S a; intro a S
  refine c_end ?_
  refine wp_block ?_
  refine c_loop (fun q1 a w => ∃ (m : Mem) (y4 : Int) (g21 : Nat) (g22 : Nat) (g23 : Nat) (y5 : List Int), St 23 m b0 [(4, (.v (.int .i64 y4))), (3, (.v (.pointer (some ⟨g21, 0, none⟩)))), (2, (.v (.pointer (some ⟨g22, 0, none⟩)))), (1, (.v (.pointer (some ⟨g23, 0, none⟩))))] [Res.cells g21 70 [.ints .i64 y5 32], Res.cells g22 70 [.ints .i64 [0, 0, 0, 0, 0, 0, 0, 0, 0, 0, 0, 0, 0, 0, 0, 0, 0, 0, 0, 0, 0, 0, 0, 0, 0, 0, 0, 0, 0, 0, 0, 0] 32], Res.cells g23 26 [.ints .u64 x1 4]] a w ∧ smithyref01_Of.l1 x1 q1 y4 y5 = some r) ?_ ?_ (k := k) ⟨_, 0, g3, g2, g1, [0, 0, 0, 0, 0, 0, 0, 0, 0, 0, 0, 0, 0, 0, 0, 0, 0, 0, 0, 0, 0, 0, 0, 0, 0, 0, 0, 0, 0, 0, 0, 0], (S.sub ⟨rfl, rfl, rfl, rfl, trivial⟩ (.cons .here (.cons .here (.cons .here .nil)))), h0⟩
  · rintro a w ⟨m, y4, g21, g22, g23, y5, S, h0⟩
    exact (nomatch (show (none : Option ((List Int))) = some r from h0))
  · clear S h0
    rintro q1 a w ⟨m, y4, g21, g22, g23, y5, S, h0⟩
    replace h0 : smithyref01_Of.b1 x1 (smithyref01_Of.l1 x1 q1) y4 y5 = some r := h0
    delta smithyref01_Of.b1 at h0
    refine wp_seq ?_
    refine c_region ?_
    refine s_move S rfl rfl ?_; clear S a; intro a S
    refine s_bin S rfl rfl rfl rfl ?_; clear S a; intro a S
    refine c_end ?_
    rcases ite_of h0 with ⟨c1, h1⟩ | ⟨c1, h1⟩ <;> clear h0
    · refine c_condT S rfl c1 ?_
      refine wp_skip ?_
      refine x_thenN ?_
      refine wp_seq ?_
      refine wp_block ?_
      refine c_region' ?_
      refine s_move S rfl rfl ?_; clear S a; intro a S
      refine s_move S rfl rfl ?_; clear S a; intro a S
      refine s_quo S rfl rfl (by decide) rfl ?_; clear S a; intro a S
      obtain ⟨c2, h2⟩ := chk_of h1; clear h1
      refine s_iaddr S rfl rfl Try.underlying26 T24 c2.1 c2.2 (mul1 _ _) rfl ?_; clear S a; intro a S
      refine s_loadi S (i := (wr .i64 (Int.tdiv y4 8))) rfl (.there (.there .here)) T24 .here rfl c2.1 c2.2 rfl ?_; clear S a; intro a S
      refine s_move S rfl rfl ?_; clear S a; intro a S
      refine s_rem S rfl rfl (by decide) rfl ?_; clear S a; intro a S
      refine s_bin S rfl rfl rfl rfl ?_; clear S a; intro a S
      obtain ⟨c3, h3⟩ := chk_of h2; clear h2
      refine s_shr S (e := (min (Int.toNat (wr .i64 (8 * (Int.tmod y4 8)))) 64)) rfl rfl c3 rfl rfl ?_; clear S a; intro a S
      refine s_rem S rfl rfl (by decide) rfl ?_; clear S a; intro a S
      refine s_conv S rfl rfl Try.underlying3 rfl ?_; clear S a; intro a S
      obtain ⟨c4, h4⟩ := chk_of h3; clear h3
      refine s_iaddr S rfl rfl Try.underlying70 T3 c4.1 c4.2 (mul1 _ _) rfl ?_; clear S a; intro a S
      refine s_storei S (i := y4) rfl rfl .here T3 .here rfl c4.1 c4.2 ?_; clear S w; intro w S
      refine c_end' ?_
      refine x_blockN ?_
      refine x_thenN ?_
      refine c_region' ?_
      refine s_move S rfl rfl ?_; clear S a; intro a S
      refine s_bin S rfl rfl rfl rfl ?_; clear S a; intro a S
      refine s_assign S rfl rfl ?_; clear S a; intro a S
      refine c_end' ?_
      refine x_thenN ?_
      exact ⟨_, (wr .i64 (y4 + 1)), g21, g22, g23, (y5.set (Int.toNat y4) (wr .i64 (Int.tmod (shr (rd x1 (wr .i64 (Int.tdiv y4 8))) (min (Int.toNat (wr .i64 (8 * (Int.tmod y4 8)))) 64)) 256))), (S.sub ⟨rfl, rfl, rfl, rfl, trivial⟩ (.cons .here (.cons .here (.cons .here .nil)))), h4⟩
    · refine c_condF S rfl c1 ?_
      refine wp_exit ?_
      refine x_thenX ?_
      refine x_thenX ?_
      refine x_blockX ?_
      refine x_thenN ?_
      exact j1 _ g21 g22 y5 a w (S.sub ⟨rfl, rfl, trivial⟩ (.cons .here (.cons .here .nil))) h1
/-! smithy/smithyref02.Of -/
abbrev smithyref02_Of.Ty : Type := (List Int) → Option ((List Int))
def smithyref02_Of.Ctr (s : smithyref02_Of.Ty) : Prop := ∀ (x1 : List Int) (r : (List Int)) (h0 : s x1 = some r) (mi : Mem) (w0 : World), okL mi [(.agg [.ints .u64 x1 4])] → Pre mi [] w0 → Calls Try.prog 22 (([(.agg [.ints .u64 x1 4])] : List D).map D.val).toArray w0 (RetX mi [] (fun (ch : (Option Addr) × Nat × Nat) => ((.v (.slice ch.1 ch.2.1 ch.2.2)) : D)) (fun (ch : (Option Addr) × Nat × Nat) => [Res.row (Ty.int .i64) 3 ch.1 ch.2.1 ch.2.2 r]) w0)
def smithyref02_Of.j1 (y1 : List Int) : Option ((List Int)) := some y1
def smithyref02_Of.b1 (t1 : (List Int)) (rec1 : Int → (List Int) → Option ((List Int))) (y4 : Int) (y5 : List Int) : Option ((List Int)) := if (decide (y4 < 32)) = true then (if (0 : Int) ≤ y4 ∧ y4 < 32 then (if ((y5).length + ([rd t1 y4]).length) * 8 ≤ 140737488355328 then (rec1 (wr .i64 (y4 + 1)) (y5 ++ [rd t1 y4])) else none) else none) else (smithyref02_Of.j1 y5)
def smithyref02_Of.l1 (t1 : (List Int)) : Nat → Int → (List Int) → Option ((List Int))
  | 0, _, _ => none
  | q + 1, y4, y5 => smithyref02_Of.b1 t1 (smithyref02_Of.l1 t1 q) y4 y5
def smithyref02_Of.f (k : Nat) (x1 : List Int) : Option ((List Int)) := (smithyref01_Of.f k x1).bind fun t1 => (smithyref02_Of.l1 t1 k 0 ([] : List Int))
theorem smithyref02_Of.ok (k : Nat) : smithyref02_Of.Ctr (smithyref02_Of.f k) := by
  intro x1 r h0 mi w0 ok hm
  delta smithyref02_Of.f at h0
  refine c_enterX (n := 20) [(.agg [.ints .u64 x1 4])] (l := [(0, (.agg [.ints .u64 x1 4]))]) Try.func22 rfl rfl rfl rfl ok hm ?_
  clear ok hm
  intro b0 hb a S
  refine c_region ?_
  refine s_box S rfl rfl rfl ?_; clear S a; intro g1 a w S
  refine s_assign S rfl rfl ?_; clear S a; intro a S
  refine c_end ?_
  refine c_region ?_
  refine s_loada S rfl .here T26 (s' := [.ints .u64 x1 4]) rfl rfl ?_; clear S a; intro a S
  obtain ⟨t1, et1, h1⟩ := bind_of h0; clear h0
  refine s_callP S (fun (ch : Unit) => ((.agg [.ints .i64 t1 32]) : D)) N42 rfl rfl (smithyref01_Of.ok k x1 t1 et1 _ _) ?_; clear S a w; intro ch1 m le1 a w S
  refine s_alloc S Z70 rfl ⟨rfl, trivial⟩ rfl ?_; clear S a w; intro g2 a w S
  refine s_store S rfl rfl rfl (s' := [.ints .i64 t1 32]) .here T70 rfl rfl ?_; clear S w; intro w S
  refine c_end ?_
  refine c_region ?_
  refine s_bldSl S (ty' := (Ty.int .i64)) (ds := []) (z := 0) (c0 := ()) (ys := ([] : List Int)) (cs := []) rfl Try.underlying36 J3 Z3 rfl ⟨rfl, trivial⟩ rfl rfl rfl rfl rfl rfl ?_; clear S a w; intro g3 a w S
  refine s_assign S rfl rfl ?_; clear S a; intro a S
  refine c_end ?_
  refine wp_seq_k ?_
  intro K1 hK1
  have j1 : ∀ (m : Mem) (A1 : Option Addr) (nn1 : Nat) (cp1 : Nat) (y1 : List Int) (a : Act) (w : World), St 20 m b0 [(4, (.v (.slice A1 nn1 cp1)))] [Res.row (Ty.int .i64) 3 A1 nn1 cp1 y1] a w → smithyref02_Of.j1 y1 = some r → K1 a w := by
    intro m A1 nn1 cp1 y1 a w S h0
    delta smithyref02_Of.j1 at h0
    refine hK1 a w ?_
    refine c_region ?_
    refine s_move S rfl rfl ?_; clear S a; intro a S
    refine s_assign S rfl rfl ?_; clear S a; intro a S
    refine c_end ?_
    refine wp_ret ?_
    obtain rfl := Option.some.inj h0
    exact b_ret1 (d := (.v (.slice A1 nn1 cp1))) S rfl rfl fun ok => S.retX (Hx := []) hb _ _ ((A1, nn1, cp1) : (Option Addr) × Nat × Nat) (.cons .here .nil) ok
  refine c_region ?_
  refine s_assign S rfl rfl ?_; clear S a; intro a S
  refine c_end ?_
  refine wp_block ?_
  refine c_loop (fun q1 a w => ∃ (m : Mem) (y4 : Int) (A2 : Option Addr) (nn3 : Nat) (cp5 : Nat) (y5 : List Int) (g13 : Nat), St 20 m b0 [(5, (.v (.int .i64 y4))), (4, (.v (.slice A2 nn3 cp5))), (3, (.v (.pointer (some ⟨g13, 0, none⟩))))] [Res.row (Ty.int .i64) 3 A2 nn3 cp5 y5, Res.cells g13 70 [.ints .i64 t1 32]] a w ∧ smithyref02_Of.l1 t1 q1 y4 y5 = some r) ?_ ?_ (k := k) ⟨_, 0, (some ⟨g3, 0, none⟩), 0, 0, ([] : List Int), g2, (S.sub ⟨rfl, rfl, rfl, trivial⟩ (.cons .here (.cons .here .nil))), h1⟩
  · rintro a w ⟨m, y4, A2, nn3, cp5, y5, g13, S, h0⟩
    exact (nomatch (show (none : Option ((List Int))) = some r from h0))
  · clear S h1
    rintro q1 a w ⟨m, y4, A2, nn3, cp5, y5, g13, S, h0⟩
    replace h0 : smithyref02_Of.b1 t1 (smithyref02_Of.l1 t1 q1) y4 y5 = some r := h0
    delta smithyref02_Of.b1 at h0
    refine wp_seq ?_
    refine c_region ?_
    refine s_move S rfl rfl ?_; clear S a; intro a S
    refine s_bin S rfl rfl rfl rfl ?_; clear S a; intro a S
    refine c_end ?_
    rcases ite_of h0 with ⟨c1, h1⟩ | ⟨c1, h1⟩ <;> clear h0
    · refine c_condT S rfl c1 ?_
      refine wp_skip ?_
      refine x_thenN ?_
      refine wp_seq ?_
      refine wp_block ?_
      refine c_region' ?_
      refine s_move S rfl rfl ?_; clear S a; intro a S
      refine s_move S rfl rfl ?_; clear S a; intro a S
      obtain ⟨c2, h2⟩ := chk_of h1; clear h1
      refine s_iaddr S rfl rfl Try.underlying70 T3 c2.1 c2.2 (mul1 _ _) rfl ?_; clear S a; intro a S
      refine s_loadi S (i := y4) rfl (.there .here) T3 .here rfl c2.1 c2.2 rfl ?_; clear S a; intro a S
      refine s_bldSl S (ty' := (Ty.int .i64)) (ds := [(0, (.v (.int .i64 (rd t1 y4))))]) (z := 0) (c0 := ()) (ys := [rd t1 y4]) (cs := [()]) rfl Try.underlying36 J3 Z3 rfl ⟨rfl, trivial⟩ rfl rfl rfl rfl rfl rfl ?_; clear S a w; intro g14 a w S
      obtain ⟨c3, h3⟩ := chk_of h2; clear h2
      refine s_app S (k2 := 1) (ys := [rd t1 y4]) rfl (fun _ _ => (.there .here)) rfl rfl (S.holds _ (Pull.mem .here).1).1 (Res.row.src (S.holds _ (Pull.mem .here).1)) Try.underlying36 J3 c3 rfl ?_; clear S a w; intro A3 cp6 a w S
      refine s_assign S rfl rfl ?_; clear S a; intro a S
      refine c_end' ?_
      refine x_blockN ?_
      refine x_thenN ?_
      refine c_region' ?_
      refine s_move S rfl rfl ?_; clear S a; intro a S
      refine s_bin S rfl rfl rfl rfl ?_; clear S a; intro a S
      refine s_assign S rfl rfl ?_; clear S a; intro a S
      refine c_end' ?_
      refine x_thenN ?_
      exact ⟨_, (wr .i64 (y4 + 1)), A3, (nn3 + 1), cp6, (y5 ++ [rd t1 y4]), g13, (S.sub ⟨rfl, rfl, rfl, trivial⟩ (.cons (.there .here) (.cons (.there .here) .nil))), h3⟩
    · refine c_condF S rfl c1 ?_
      refine wp_exit ?_
      refine x_thenX ?_
      refine x_thenX ?_
      refine x_blockX ?_
      refine x_thenN ?_
      exact j1 _ A2 nn3 cp5 y5 a w (S.sub ⟨rfl, trivial⟩ (.cons .here .nil)) h1
/-! smithy/smithyref02.at -/
abbrev smithyref02_at.Ty : Type := (List Int) → Int → Option Int
def smithyref02_at.Ctr (s : smithyref02_at.Ty) : Prop := ∀ (x1 : List Int) (x2 : Int) (ch_0_0 : Option Addr) (ch_0_1 : Nat) (r : Int) (h0 : s x1 x2 = some r) (mi : Mem) (w0 : World), okL mi [(.sl ch_0_0 (x1).length ch_0_1 (RdS (Ty.int .i64) ch_0_0 x1)), (.v (.int .i64 x2))] → Pre mi [] w0 → Calls Try.prog 29 (([(.sl ch_0_0 (x1).length ch_0_1 (RdS (Ty.int .i64) ch_0_0 x1)), (.v (.int .i64 x2))] : List D).map D.val).toArray w0 (RetX mi [] (fun (ch : Unit) => ((.v (.int .i64 r)) : D)) (fun (ch : Unit) => []) w0)
def smithyref02_at.f (x1 : List Int) (x2 : Int) : Option Int := if (decide (x2 < ((x1).length : Int))) = true then (if (0 : Int) ≤ x2 ∧ x2 < ((x1).length : Int) then (some (rd x1 x2)) else none) else (some 0)
theorem smithyref02_at.ok : smithyref02_at.Ctr (smithyref02_at.f) := by
  intro x1 x2 ch_0_0 ch_0_1 r h0 mi w0 ok hm
  delta smithyref02_at.f at h0
  refine c_enterX (n := 13) [(.sl ch_0_0 (x1).length ch_0_1 (RdS (Ty.int .i64) ch_0_0 x1)), (.v (.int .i64 x2))] (l := [(0, (.sl ch_0_0 (x1).length ch_0_1 (RdS (Ty.int .i64) ch_0_0 x1))), (1, (.v (.int .i64 x2)))]) Try.func29 rfl rfl rfl rfl ok hm ?_
  clear ok hm
  intro b0 hb a S
  refine c_region ?_
  refine s_assign S rfl rfl ?_; clear S a; intro a S
  refine c_end ?_
  refine wp_seq ?_
  refine c_region ?_
  refine s_move S rfl rfl ?_; clear S a; intro a S
  refine s_move S rfl rfl ?_; clear S a; intro a S
  refine s_lenS S rfl Try.underlying36 rfl ?_; clear S a; intro a S
  refine s_bin S rfl rfl rfl rfl ?_; clear S a; intro a S
  refine c_end ?_
  rcases ite_of h0 with ⟨c1, h1⟩ | ⟨c1, h1⟩ <;> clear h0
  · refine c_condT S rfl c1 ?_
    refine c_region ?_
    refine s_move S rfl rfl ?_; clear S a; intro a S
    refine s_move S rfl rfl ?_; clear S a; intro a S
    obtain ⟨c2, h2⟩ := chk_of h1; clear h1
    refine s_iaddrS S rfl rfl rfl Try.underlying36 T3 c2.1 c2.2 rfl ?_; clear S a; intro p1 a S
    refine s_ld1 S (v := (.int .i64 (rd x1 x2))) rfl T3 (fun _ => rfl) rfl ?_; clear S a; intro a S
    refine s_assign S rfl rfl ?_; clear S a; intro a S
    refine c_end ?_
    refine wp_ret ?_
    refine x_thenR ?_
    obtain rfl := Option.some.inj h2
    exact b_ret1 (d := (.v (.int .i64 (rd x1 x2)))) S rfl rfl fun ok => S.retX (Hx := []) hb _ _ (() : Unit) .nil ok
  · refine c_condF S rfl c1 ?_
    refine wp_skip ?_
    refine x_thenN ?_
    refine c_region ?_
    refine s_assign S rfl rfl ?_; clear S a; intro a S
    refine c_end ?_
    refine wp_ret ?_
    obtain rfl := Option.some.inj h1
    exact b_ret1 (d := (.v (.int .i64 0))) S rfl rfl fun ok => S.retX (Hx := []) hb _ _ (() : Unit) .nil ok
/-! smithy/smithyref02.Times -/
abbrev smithyref02_Times.Ty : Type := (List Int) → (List Int) → Option ((List Int))
def smithyref02_Times.Ctr (s : smithyref02_Times.Ty) : Prop := ∀ (x1 : List Int) (x2 : List Int) (ch_0_0 : Option Addr) (ch_0_1 : Nat) (ch_1_0 : Option Addr) (ch_1_1 : Nat) (r : (List Int)) (h0 : s x1 x2 = some r) (mi : Mem) (w0 : World), okL mi [(.sl ch_0_0 (x1).length ch_0_1 (RdS (Ty.int .i64) ch_0_0 x1)), (.sl ch_1_0 (x2).length ch_1_1 (RdS (Ty.int .i64) ch_1_0 x2))] → Pre mi [] w0 → Calls Try.prog 21 (([(.sl ch_0_0 (x1).length ch_0_1 (RdS (Ty.int .i64) ch_0_0 x1)), (.sl ch_1_0 (x2).length ch_1_1 (RdS (Ty.int .i64) ch_1_0 x2))] : List D).map D.val).toArray w0 (RetX mi [] (fun (ch : (Option Addr) × Nat × Nat) => ((.v (.slice ch.1 ch.2.1 ch.2.2)) : D)) (fun (ch : (Option Addr) × Nat × Nat) => [Res.row (Ty.int .i64) 3 ch.1 ch.2.1 ch.2.2 r]) w0)
def smithyref02_Times.j1 (y1 : List Int) : Option ((List Int)) := some y1
def smithyref02_Times.j2 (y24 : Int) (rec1 : Int → (List Int) → Option ((List Int))) (y35 : List Int) : Option ((List Int)) := rec1 (wr .i64 (y24 + 1)) y35
def smithyref02_Times.j3 (x1 : List Int) (x2 : List Int) (y24 : Int) (rec1 : Int → (List Int) → Option ((List Int))) (y41 : Int) (y42 : Int) (y43 : List Int) (rec2 : Int → Int → (List Int) → Option ((List Int))) (y44 : Bool) : Option ((List Int)) := if y44 = true then (if (0 : Int) ≤ (wr .i64 (y24 + y41)) ∧ (wr .i64 (y24 + y41)) < ((y43).length : Int) then (if (0 : Int) ≤ y24 ∧ y24 < ((x1).length : Int) then ((smithyref02_at.f x2 y41).bind fun t1 => (rec2 (wr .i64 (y41 + 1)) (wr .i64 (Int.tdiv (wr .i64 ((wr .i64 ((rd y43 (wr .i64 (y24 + y41))) + (wr .i64 ((rd x1 y24) * t1)))) + y42)) 256)) (y43.set (Int.toNat (wr .i64 (y24 + y41))) (Int.tmod (wr .i64 ((wr .i64 ((rd y43 (wr .i64 (y24 + y41))) + (wr .i64 ((rd x1 y24) * t1)))) + y42)) 256)))) else none) else none) else (smithyref02_Times.j2 y24 rec1 y43)
def smithyref02_Times.b2 (x1 : List Int) (x2 : List Int) (y24 : Int) (rec1 : Int → (List Int) → Option ((List Int))) (rec2 : Int → Int → (List Int) → Option ((List Int))) (y41 : Int) (y42 : Int) (y43 : List Int) : Option ((List Int)) := if (decide (y41 < ((x2).length : Int))) = true then (smithyref02_Times.j3 x1 x2 y24 rec1 y41 y42 y43 rec2 true) else (smithyref02_Times.j3 x1 x2 y24 rec1 y41 y42 y43 rec2 (decide (0 < y42)))
def smithyref02_Times.l2 (x1 : List Int) (x2 : List Int) (y24 : Int) (rec1 : Int → (List Int) → Option ((List Int))) : Nat → Int → Int → (List Int) → Option ((List Int))
  | 0, _, _, _ => none
  | q + 1, y41, y42, y43 => smithyref02_Times.b2 x1 x2 y24 rec1 (smithyref02_Times.l2 x1 x2 y24 rec1 q) y41 y42 y43
def smithyref02_Times.b1 (k : Nat) (x1 : List Int) (x2 : List Int) (rec1 : Int → (List Int) → Option ((List Int))) (y24 : Int) (y25 : List Int) : Option ((List Int)) := if (decide (y24 < ((x1).length : Int))) = true then (smithyref02_Times.l2 x1 x2 y24 rec1 k 0 0 y25) else (smithyref02_Times.j1 y25)
def smithyref02_Times.l1 (k : Nat) (x1 : List Int) (x2 : List Int) : Nat → Int → (List Int) → Option ((List Int))
  | 0, _, _ => none
  | q + 1, y24, y25 => smithyref02_Times.b1 k x1 x2 (smithyref02_Times.l1 k x1 x2 q) y24 y25
def smithyref02_Times.f (k : Nat) (x1 : List Int) (x2 : List Int) : Option ((List Int)) := if (0 : Int) ≤ (wr .i64 ((wr .i64 (((x1).length : Int) + ((x2).length : Int))) + 1)) ∧ 8 * Int.toNat (wr .i64 ((wr .i64 (((x1).length : Int) + ((x2).length : Int))) + 1)) ≤ 281474976710656 then (smithyref02_Times.l1 k x1 x2 k 0 (List.replicate (Int.toNat (wr .i64 ((wr .i64 (((x1).length : Int) + ((x2).length : Int))) + 1))) (0 : Int))) else none
theorem smithyref02_Times.ok (k : Nat) : smithyref02_Times.Ctr (smithyref02_Times.f k) := by
  intro x1 x2 ch_0_0 ch_0_1 ch_1_0 ch_1_1 r h0 mi w0 ok hm
  delta smithyref02_Times.f at h0
  refine c_enterX (n := 60) [(.sl ch_0_0 (x1).length ch_0_1 (RdS (Ty.int .i64) ch_0_0 x1)), (.sl ch_1_0 (x2).length ch_1_1 (RdS (Ty.int .i64) ch_1_0 x2))] (l := [(0, (.sl ch_0_0 (x1).length ch_0_1 (RdS (Ty.int .i64) ch_0_0 x1))), (1, (.sl ch_1_0 (x2).length ch_1_1 (RdS (Ty.int .i64) ch_1_0 x2)))]) Try.func21 rfl rfl rfl rfl ok hm ?_
  clear ok hm
  intro b0 hb a S
  refine c_region ?_
  refine s_assign S rfl rfl ?_; clear S a; intro a S
  refine c_end ?_
  refine c_region ?_
  refine s_move S rfl rfl ?_; clear S a; intro a S
  refine s_lenS S rfl Try.underlying36 rfl ?_; clear S a; intro a S
  refine s_move S rfl rfl ?_; clear S a; intro a S
  refine s_lenS S rfl Try.underlying36 rfl ?_; clear S a; intro a S
  refine s_bin S rfl rfl rfl rfl ?_; clear S a; intro a S
  refine s_bin S rfl rfl rfl rfl ?_; clear S a; intro a S
  obtain ⟨c1, h1⟩ := chk_of h0; clear h0
  refine s_make S (ty' := (Ty.int .i64)) (z := 0) (c0 := ()) rfl rfl Try.underlying36 J3 Z3 rfl ⟨rfl, trivial⟩ c1.1 c1.2 rfl ?_; clear S a; intro g1 a w S
  refine s_assign S rfl rfl ?_; clear S a; intro a S
  refine c_end ?_
  refine wp_seq_k ?_
  intro K1 hK1
  have j1 : ∀ (m : Mem) (y1 : List Int) (a : Act) (w : World), St 60 m b0 [(5, (.v (.slice (some ⟨g1, 0, none⟩) (Int.toNat (wr .i64 ((wr .i64 (((x1).length : Int) + ((x2).length : Int))) + 1))) (Int.toNat (wr .i64 ((wr .i64 (((x1).length : Int) + ((x2).length : Int))) + 1))))))] [Res.row (Ty.int .i64) 3 (some ⟨g1, 0, none⟩) (Int.toNat (wr .i64 ((wr .i64 (((x1).length : Int) + ((x2).length : Int))) + 1))) (Int.toNat (wr .i64 ((wr .i64 (((x1).length : Int) + ((x2).length : Int))) + 1))) y1] a w → smithyref02_Times.j1 y1 = some r → K1 a w := by
    intro m y1 a w S h0
    delta smithyref02_Times.j1 at h0
    refine hK1 a w ?_
    refine c_region ?_
    refine s_move S rfl rfl ?_; clear S a; intro a S
    refine s_assign S rfl rfl ?_; clear S a; intro a S
    refine c_end ?_
    refine wp_ret ?_
    obtain rfl := Option.some.inj h0
    exact b_ret1 (d := (.v (.slice (some ⟨g1, 0, none⟩) (Int.toNat (wr .i64 ((wr .i64 (((x1).length : Int) + ((x2).length : Int))) + 1))) (Int.toNat (wr .i64 ((wr .i64 (((x1).length : Int) + ((x2).length : Int))) + 1)))))) S rfl rfl fun ok => S.retX (Hx := []) hb _ _ (((some ⟨g1, 0, none⟩), Int.toNat (wr .i64 ((wr .i64 (((x1).length : Int) + ((x2).length : Int))) + 1)), Int.toNat (wr .i64 ((wr .i64 (((x1).length : Int) + ((x2).length : Int))) + 1))) : (Option Addr) × Nat × Nat) (.cons .here .nil) ok
  refine c_region ?_
  refine s_move S rfl rfl ?_; clear S a; intro a S
  refine s_lenS S rfl Try.underlying36 rfl ?_; clear S a; intro a S
  refine s_move S rfl rfl ?_; clear S a; intro a S
  refine c_end ?_
  refine wp_block ?_
  refine c_loop (fun q1 a w => ∃ (m : Mem) (y24 : Int) (y25 : List Int), St 60 m b0 [(19, (.v (.int .i64 y24))), (18, (.v (.int .i64 ((x1).length : Int)))), (5, (.v (.slice (some ⟨g1, 0, none⟩) (Int.toNat (wr .i64 ((wr .i64 (((x1).length : Int) + ((x2).length : Int))) + 1))) (Int.toNat (wr .i64 ((wr .i64 (((x1).length : Int) + ((x2).length : Int))) + 1)))))), (0, (.sl ch_0_0 (x1).length ch_0_1 (RdS (Ty.int .i64) ch_0_0 x1))), (1, (.sl ch_1_0 (x2).length ch_1_1 (RdS (Ty.int .i64) ch_1_0 x2)))] [Res.row (Ty.int .i64) 3 (some ⟨g1, 0, none⟩) (Int.toNat (wr .i64 ((wr .i64 (((x1).length : Int) + ((x2).length : Int))) + 1))) (Int.toNat (wr .i64 ((wr .i64 (((x1).length : Int) + ((x2).length : Int))) + 1))) y25] a w ∧ smithyref02_Times.l1 k x1 x2 q1 y24 y25 = some r) ?_ ?_ (k := k) ⟨_, 0, (List.replicate (Int.toNat (wr .i64 ((wr .i64 (((x1).length : Int) + ((x2).length : Int))) + 1))) (0 : Int)), (S.sub ⟨rfl, rfl, rfl, rfl, rfl, trivial⟩ (.cons .here .nil)), h1⟩
  · rintro a w ⟨m, y24, y25, S, h0⟩
    exact (nomatch (show (none : Option ((List Int))) = some r from h0))
  · clear S h1
    rintro q1 a w ⟨m, y24, y25, S, h0⟩
    replace h0 : smithyref02_Times.b1 k x1 x2 (smithyref02_Times.l1 k x1 x2 q1) y24 y25 = some r := h0
    delta smithyref02_Times.b1 at h0
    refine c_region ?_
    refine s_bin S rfl rfl rfl rfl ?_; clear S a; intro a S
    refine c_end ?_
    refine wp_seq ?_
    rcases ite_of h0 with ⟨c2, h1⟩ | ⟨c2, h1⟩ <;> clear h0
    · refine c_condT S rfl c2 ?_
      refine wp_skip ?_
      refine x_thenN ?_
      refine wp_seq_k ?_
      intro K2 hK2
      have j2 : ∀ (m : Mem) (y35 : List Int) (a : Act) (w : World), St 60 m b0 [(19, (.v (.int .i64 y24))), (18, (.v (.int .i64 ((x1).length : Int)))), (5, (.v (.slice (some ⟨g1, 0, none⟩) (Int.toNat (wr .i64 ((wr .i64 (((x1).length : Int) + ((x2).length : Int))) + 1))) (Int.toNat (wr .i64 ((wr .i64 (((x1).length : Int) + ((x2).length : Int))) + 1)))))), (0, (.sl ch_0_0 (x1).length ch_0_1 (RdS (Ty.int .i64) ch_0_0 x1))), (1, (.sl ch_1_0 (x2).length ch_1_1 (RdS (Ty.int .i64) ch_1_0 x2)))] [Res.row (Ty.int .i64) 3 (some ⟨g1, 0, none⟩) (Int.toNat (wr .i64 ((wr .i64 (((x1).length : Int) + ((x2).length : Int))) + 1))) (Int.toNat (wr .i64 ((wr .i64 (((x1).length : Int) + ((x2).length : Int))) + 1))) y35] a w → smithyref02_Times.j2 y24 (smithyref02_Times.l1 k x1 x2 q1) y35 = some r → K2 a w := by
        intro m y35 a w S h0
        delta smithyref02_Times.j2 at h0
        refine hK2 a w ?_
        refine c_region' ?_
        refine s_bin S rfl rfl rfl rfl ?_; clear S a; intro a S
        refine s_move S rfl rfl ?_; clear S a; intro a S
        refine c_end' ?_
        refine x_thenN ?_
        exact ⟨_, (wr .i64 (y24 + 1)), y35, (S.sub ⟨rfl, rfl, rfl, rfl, rfl, trivial⟩ (.cons .here .nil)), h0⟩
      refine wp_block ?_
      refine c_region ?_
      refine s_move S rfl rfl ?_; clear S a; intro a S
      refine s_assign S rfl rfl ?_; clear S a; intro a S
      refine c_end ?_
      refine c_region ?_
      refine s_assign S rfl rfl ?_; clear S a; intro a S
      refine c_end ?_
      refine c_region ?_
      refine s_assign S rfl rfl ?_; clear S a; intro a S
      refine c_end ?_
      refine wp_block ?_
      refine c_loop (fun q2 a w => ∃ (m : Mem) (y41 : Int) (y42 : Int) (y43 : List Int), St 60 m b0 [(8, (.v (.int .i64 y41))), (7, (.v (.int .i64 y42))), (6, (.v (.int .i64 y24))), (19, (.v (.int .i64 y24))), (18, (.v (.int .i64 ((x1).length : Int)))), (5, (.v (.slice (some ⟨g1, 0, none⟩) (Int.toNat (wr .i64 ((wr .i64 (((x1).length : Int) + ((x2).length : Int))) + 1))) (Int.toNat (wr .i64 ((wr .i64 (((x1).length : Int) + ((x2).length : Int))) + 1)))))), (0, (.sl ch_0_0 (x1).length ch_0_1 (RdS (Ty.int .i64) ch_0_0 x1))), (1, (.sl ch_1_0 (x2).length ch_1_1 (RdS (Ty.int .i64) ch_1_0 x2)))] [Res.row (Ty.int .i64) 3 (some ⟨g1, 0, none⟩) (Int.toNat (wr .i64 ((wr .i64 (((x1).length : Int) + ((x2).length : Int))) + 1))) (Int.toNat (wr .i64 ((wr .i64 (((x1).length : Int) + ((x2).length : Int))) + 1))) y43] a w ∧ smithyref02_Times.l2 x1 x2 y24 (smithyref02_Times.l1 k x1 x2 q1) q2 y41 y42 y43 = some r) ?_ ?_ (k := k) ⟨_, 0, 0, y25, (S.sub ⟨rfl, rfl, rfl, rfl, rfl, rfl, rfl, rfl, trivial⟩ (.cons .here .nil)), h1⟩
      · rintro a w ⟨m, y41, y42, y43, S, h0⟩
        exact (nomatch (show (none : Option ((List Int))) = some r from h0))
      · clear S h1
        rintro q2 a w ⟨m, y41, y42, y43, S, h0⟩
        replace h0 : smithyref02_Times.b2 x1 x2 y24 (smithyref02_Times.l1 k x1 x2 q1) (smithyref02_Times.l2 x1 x2 y24 (smithyref02_Times.l1 k x1 x2 q1) q2) y41 y42 y43 = some r := h0
        delta smithyref02_Times.b2 at h0
        refine wp_seq ?_
        refine wp_seq_k ?_
        intro K3 hK3
        have j3 : ∀ (m : Mem) (y44 : Bool) (a : Act) (w : World), St 60 m b0 [(29, (.v (.bool y44))), (8, (.v (.int .i64 y41))), (7, (.v (.int .i64 y42))), (6, (.v (.int .i64 y24))), (19, (.v (.int .i64 y24))), (18, (.v (.int .i64 ((x1).length : Int)))), (5, (.v (.slice (some ⟨g1, 0, none⟩) (Int.toNat (wr .i64 ((wr .i64 (((x1).length : Int) + ((x2).length : Int))) + 1))) (Int.toNat (wr .i64 ((wr .i64 (((x1).length : Int) + ((x2).length : Int))) + 1)))))), (0, (.sl ch_0_0 (x1).length ch_0_1 (RdS (Ty.int .i64) ch_0_0 x1))), (1, (.sl ch_1_0 (x2).length ch_1_1 (RdS (Ty.int .i64) ch_1_0 x2)))] [Res.row (Ty.int .i64) 3 (some ⟨g1, 0, none⟩) (Int.toNat (wr .i64 ((wr .i64 (((x1).length : Int) + ((x2).length : Int))) + 1))) (Int.toNat (wr .i64 ((wr .i64 (((x1).length : Int) + ((x2).length : Int))) + 1))) y43] a w → smithyref02_Times.j3 x1 x2 y24 (smithyref02_Times.l1 k x1 x2 q1) y41 y42 y43 (smithyref02_Times.l2 x1 x2 y24 (smithyref02_Times.l1 k x1 x2 q1) q2) y44 = some r → K3 a w := by
          intro m y44 a w S h0
          delta smithyref02_Times.j3 at h0
          refine hK3 a w ?_
          rcases ite_of h0 with ⟨c3, h1⟩ | ⟨c3, h1⟩ <;> clear h0
          · refine c_condT S rfl c3 ?_
            refine wp_skip ?_
            refine x_thenN ?_
            refine wp_seq ?_
            refine wp_block ?_
            refine wp_seq (c_heldS S (.take 0 (.take 1 (.take 2 (.take 3 (.take 4 (.take 5 (.take 6 (.take 7 (.take 8 (.take 9 (.take 10 (.take 11 (.take 15 (.alts (.run 12 true (.take 13 (.take 14 (.take 16 (.take 17 .done)))) .nil))))))))))))))) 18 [Res.row (Ty.int .i64) 3 (some ⟨g1, 0, none⟩) (Int.toNat (wr .i64 ((wr .i64 (((x1).length : Int) + ((x2).length : Int))) + 1))) (Int.toNat (wr .i64 ((wr .i64 (((x1).length : Int) + ((x2).length : Int))) + 1))) y43] (.cons .here .nil) ⟨Res.stay_row flat_int, trivial⟩ [(8, (.v (.int .i64 y41))), (7, (.v (.int .i64 y42))), (6, (.v (.int .i64 y24))), (5, (.v (.slice (some ⟨g1, 0, none⟩) (Int.toNat (wr .i64 ((wr .i64 (((x1).length : Int) + ((x2).length : Int))) + 1))) (Int.toNat (wr .i64 ((wr .i64 (((x1).length : Int) + ((x2).length : Int))) + 1)))))), (0, (.sl ch_0_0 (x1).length ch_0_1 (RdS (Ty.int .i64) ch_0_0 x1))), (1, (.sl ch_1_0 (x2).length ch_1_1 (RdS (Ty.int .i64) ch_1_0 x2)))] ⟨rfl, rfl, rfl, rfl, rfl, rfl, trivial⟩ (by kernel_rfl) (by kernel_rfl) ?_); clear S; intro w S CL hw le
            refine h_move S CL hw le ⟨rfl, rfl, rfl, rfl, rfl, rfl, trivial⟩ rfl rfl rfl trivial ?_; clear S CL a; intro a S CL
            refine h_move S CL hw le ⟨rfl, rfl, rfl, rfl, rfl, rfl, rfl, trivial⟩ rfl rfl rfl trivial ?_; clear S CL a; intro a S CL
            refine h_move S CL hw le ⟨rfl, rfl, rfl, rfl, rfl, rfl, rfl, rfl, trivial⟩ rfl rfl rfl trivial ?_; clear S CL a; intro a S CL
            refine h_bin S CL hw le ⟨rfl, rfl, rfl, rfl, rfl, rfl, rfl, rfl, rfl, trivial⟩ rfl rfl rfl rfl rfl trivial ?_; clear S CL a; intro a S CL
            obtain ⟨c4, h2⟩ := chk_of h1; clear h1
            refine h_iaddrO S CL hw le ⟨rfl, rfl, rfl, rfl, rfl, rfl, rfl, rfl, rfl, rfl, trivial⟩ (ty' := (Ty.int .i64)) rfl .here rfl Try.underlying36 T3 c4.1 c4.2 rfl rfl trivial ?_; clear S CL a; intro g6 a hA1 S CL
            refine h_ldR1 S CL hw le ⟨rfl, rfl, rfl, rfl, rfl, rfl, rfl, rfl, rfl, rfl, rfl, trivial⟩ (ty' := (Ty.int .i64)) (i := (wr .i64 (y24 + y41))) (off := 0) (v := (.int .i64 (rd y43 (wr .i64 (y24 + y41))))) rfl hA1 .here T3 c4.1 c4.2 rfl (fun _ => rfl) rfl rfl trivial ?_; clear S CL a; intro a S CL
            refine h_move S CL hw le ⟨rfl, rfl, rfl, rfl, rfl, rfl, rfl, rfl, rfl, rfl, rfl, rfl, trivial⟩ rfl rfl rfl trivial ?_; clear S CL a; intro a S CL
            refine h_move S CL hw le ⟨rfl, rfl, rfl, rfl, rfl, rfl, rfl, rfl, rfl, rfl, rfl, rfl, rfl, trivial⟩ rfl rfl rfl trivial ?_; clear S CL a; intro a S CL
            obtain ⟨c5, h3⟩ := chk_of h2; clear h2
            refine h_iaddrS S CL hw le ⟨rfl, rfl, rfl, rfl, rfl, rfl, rfl, rfl, rfl, rfl, rfl, rfl, rfl, rfl, trivial⟩ rfl rfl rfl Try.underlying36 T3 c5.1 c5.2 rfl rfl trivial ?_; clear S CL a; intro p1 a S CL
            refine h_ld1 S CL hw le ⟨rfl, rfl, rfl, rfl, rfl, rfl, rfl, rfl, rfl, rfl, rfl, rfl, rfl, rfl, rfl, trivial⟩ (v := (.int .i64 (rd x1 y24))) rfl T3 (fun _ => rfl) rfl rfl trivial ?_; clear S CL a; intro a S CL
            refine h_move S CL hw le ⟨rfl, rfl, rfl, rfl, rfl, rfl, rfl, rfl, rfl, rfl, rfl, rfl, rfl, rfl, rfl, rfl, trivial⟩ rfl rfl rfl trivial ?_; clear S CL a; intro a S CL
            refine h_move S CL hw le ⟨rfl, rfl, rfl, rfl, rfl, rfl, rfl, rfl, rfl, rfl, rfl, rfl, rfl, rfl, rfl, rfl, rfl, trivial⟩ rfl rfl rfl trivial ?_; clear S CL a; intro a S CL
            refine h_move S CL hw le ⟨rfl, rfl, rfl, rfl, rfl, rfl, rfl, rfl, rfl, rfl, rfl, rfl, rfl, rfl, rfl, rfl, rfl, rfl, trivial⟩ rfl rfl rfl trivial ?_; clear S CL a; intro a S CL
            refine h_run' S rfl trivial ?_
            obtain ⟨t1, et1, h4⟩ := bind_of h3; clear h3
            refine s_callP S (fun (ch : Unit) => ((.v (.int .i64 t1)) : D)) N29 rfl rfl (smithyref02_at.ok x2 y41 ch_1_0 ch_1_1 t1 et1 _ _) ?_; clear S a; intro ch1 m le1 a w S
            replace le := le.trans le1
            replace hw := CL.again hw S (.cons .here .nil) le
            refine h_back ⟨fun _ => hw, ?_⟩
            replace CL := CL.add (t := 44) (d := (.v (.int .i64 t1))) S rfl rfl
            refine h_bin S CL hw le ⟨rfl, rfl, rfl, rfl, rfl, rfl, rfl, rfl, rfl, rfl, rfl, rfl, rfl, rfl, rfl, rfl, rfl, rfl, rfl, rfl, trivial⟩ rfl rfl rfl rfl rfl trivial ?_; clear S CL a; intro a S CL
            refine h_bin S CL hw le ⟨rfl, rfl, rfl, rfl, rfl, rfl, rfl, rfl, rfl, rfl, rfl, rfl, rfl, rfl, rfl, rfl, rfl, rfl, rfl, rfl, rfl, trivial⟩ rfl rfl rfl rfl rfl trivial ?_; clear S CL a; intro a S CL
            refine h_bin S CL hw le ⟨rfl, rfl, rfl, rfl, rfl, rfl, rfl, rfl, rfl, rfl, rfl, rfl, rfl, rfl, rfl, rfl, rfl, rfl, rfl, rfl, rfl, rfl, trivial⟩ rfl rfl rfl rfl rfl trivial ?_; clear S CL a; intro a S CL
            refine h_assign S CL hw le ⟨rfl, rfl, rfl, rfl, rfl, rfl, rfl, rfl, rfl, rfl, rfl, rfl, rfl, rfl, rfl, rfl, rfl, rfl, rfl, rfl, rfl, rfl, rfl, trivial⟩ rfl rfl rfl trivial ?_; clear S CL a; intro a S CL
            refine h_done ?_; clear CL hw le
            refine x_thenN ?_
            refine c_region ?_
            refine s_move S rfl rfl ?_; clear S a; intro a S
            refine s_move S rfl rfl ?_; clear S a; intro a S
            refine s_move S rfl rfl ?_; clear S a; intro a S
            refine s_bin S rfl rfl rfl rfl ?_; clear S a; intro a S
            refine s_move S rfl rfl ?_; clear S a; intro a S
            refine s_rem S rfl rfl (by decide) rfl ?_; clear S a; intro a S
            refine s_iaddrO S (ty' := (Ty.int .i64)) rfl .here rfl Try.underlying36 T3 c4.1 c4.2 rfl ?_; clear S a; intro g7 a hA2 S
            refine s_stR S (ty' := (Ty.int .i64)) (i := (wr .i64 (y24 + y41))) (off := 0) (u := Int.tmod (wr .i64 ((wr .i64 ((rd y43 (wr .i64 (y24 + y41))) + (wr .i64 ((rd x1 y24) * t1)))) + y42)) 256) (fun (c : Unit) => ()) rfl rfl rfl hA2 .here T3 c4.1 c4.2 rfl (by decide) rfl (fun _ => rfl) ?_; clear S w; intro w S
            refine c_end ?_
            refine c_region' ?_
            refine s_move S rfl rfl ?_; clear S a; intro a S
            refine s_quo S rfl rfl (by decide) rfl ?_; clear S a; intro a S
            refine s_assign S rfl rfl ?_; clear S a; intro a S
            refine c_end' ?_
            refine x_blockN ?_
            refine x_thenN ?_
            refine c_region' ?_
            refine s_move S rfl rfl ?_; clear S a; intro a S
            refine s_bin S rfl rfl rfl rfl ?_; clear S a; intro a S
            refine s_assign S rfl rfl ?_; clear S a; intro a S
            refine c_end' ?_
            refine x_thenN ?_
            exact ⟨_, (wr .i64 (y41 + 1)), (wr .i64 (Int.tdiv (wr .i64 ((wr .i64 ((rd y43 (wr .i64 (y24 + y41))) + (wr .i64 ((rd x1 y24) * t1)))) + y42)) 256)), (y43.set (Int.toNat (wr .i64 (y24 + y41))) (Int.tmod (wr .i64 ((wr .i64 ((rd y43 (wr .i64 (y24 + y41))) + (wr .i64 ((rd x1 y24) * t1)))) + y42)) 256)), (S.sub ⟨rfl, rfl, rfl, rfl, rfl, rfl, rfl, rfl, trivial⟩ (.cons .here .nil)), h4⟩
          · refine c_condF S rfl c3 ?_
            refine wp_exit ?_
            refine x_thenX ?_
            refine x_thenX ?_
            refine x_blockX ?_
            refine x_blockN ?_
            refine x_thenN ?_
            exact j2 _ y43 a w (S.sub ⟨rfl, rfl, rfl, rfl, rfl, trivial⟩ (.cons .here .nil)) h1
        refine c_region' ?_
        refine s_move S rfl rfl ?_; clear S a; intro a S
        refine s_move S rfl rfl ?_; clear S a; intro a S
        refine s_lenS S rfl Try.underlying36 rfl ?_; clear S a; intro a S
        refine s_bin S rfl rfl rfl rfl ?_; clear S a; intro a S
        refine s_move S rfl rfl ?_; clear S a; intro a S
        rcases ite_of h0 with ⟨c6, h1⟩ | ⟨c6, h1⟩ <;> clear h0
        · refine s_gF S (b := (decide (y41 < ((x2).length : Int)))) rfl rfl c6 rfl ?_; clear S a; intro a S
          refine s_gF S (b := (decide (y41 < ((x2).length : Int)))) rfl rfl c6 rfl ?_; clear S a; intro a S
          refine s_pick S (b := true) (hc_of rfl c6) rfl rfl ?_; clear S a; intro a S
          refine c_end' ?_
          refine x_thenN ?_
          exact j3 _ true a w (S.sub ⟨rfl, rfl, rfl, rfl, rfl, rfl, rfl, rfl, rfl, trivial⟩ (.cons .here .nil)) h1
        · refine s_gT S (b := (decide (y41 < ((x2).length : Int)))) rfl rfl c6 ?_
          refine s_move S rfl rfl ?_; clear S a; intro a S
          refine s_gT S (b := (decide (y41 < ((x2).length : Int)))) rfl rfl c6 ?_
          refine s_bin S rfl rfl rfl rfl ?_; clear S a; intro a S
          refine s_pick S (b := false) (hc_of rfl c6) rfl rfl ?_; clear S a; intro a S
          refine c_end' ?_
          refine x_thenN ?_
          exact j3 _ (decide (0 < y42)) a w (S.sub ⟨rfl, rfl, rfl, rfl, rfl, rfl, rfl, rfl, rfl, trivial⟩ (.cons .here .nil)) h1
    · refine c_condF S rfl c2 ?_
      refine wp_exit ?_
      refine x_thenX ?_
      refine x_thenX ?_
      refine x_blockX ?_
      refine x_thenN ?_
      exact j1 _ y25 a w (S.sub ⟨rfl, trivial⟩ (.cons .here .nil)) h1
/-! smithy/smithyref02.Plus -/
abbrev smithyref02_Plus.Ty : Type := (List Int) → (List Int) → Option ((List Int))
def smithyref02_Plus.Ctr (s : smithyref02_Plus.Ty) : Prop := ∀ (x1 : List Int) (x2 : List Int) (ch_0_0 : Option Addr) (ch_0_1 : Nat) (ch_1_0 : Option Addr) (ch_1_1 : Nat) (r : (List Int)) (h0 : s x1 x2 = some r) (mi : Mem) (w0 : World), okL mi [(.sl ch_0_0 (x1).length ch_0_1 (RdS (Ty.int .i64) ch_0_0 x1)), (.sl ch_1_0 (x2).length ch_1_1 (RdS (Ty.int .i64) ch_1_0 x2))] → Pre mi [] w0 → Calls Try.prog 20 (([(.sl ch_0_0 (x1).length ch_0_1 (RdS (Ty.int .i64) ch_0_0 x1)), (.sl ch_1_0 (x2).length ch_1_1 (RdS (Ty.int .i64) ch_1_0 x2))] : List D).map D.val).toArray w0 (RetX mi [] (fun (ch : (Option Addr) × Nat × Nat) => ((.v (.slice ch.1 ch.2.1 ch.2.2)) : D)) (fun (ch : (Option Addr) × Nat × Nat) => [Res.row (Ty.int .i64) 3 ch.1 ch.2.1 ch.2.2 r]) w0)
def smithyref02_Plus.j1 (y1 : List Int) : Option ((List Int)) := some y1
def smithyref02_Plus.b1 (x1 : List Int) (x2 : List Int) (rec1 : Int → Int → (List Int) → Option ((List Int))) (y5 : Int) (y6 : Int) (y7 : List Int) : Option ((List Int)) := if (decide (y5 < (wr .i64 ((imax ((x1).length : Int) ((x2).length : Int)) + 1)))) = true then ((smithyref02_at.f x1 y5).bind fun t1 => ((smithyref02_at.f x2 y5).bind fun t2 => (if ((y7).length + ([Int.tmod (wr .i64 ((wr .i64 (t1 + t2)) + y6)) 256]).length) * 8 ≤ 140737488355328 then (rec1 (wr .i64 (y5 + 1)) (wr .i64 (Int.tdiv (wr .i64 ((wr .i64 (t1 + t2)) + y6)) 256)) (y7 ++ [Int.tmod (wr .i64 ((wr .i64 (t1 + t2)) + y6)) 256])) else none))) else (smithyref02_Plus.j1 y7)
def smithyref02_Plus.l1 (x1 : List Int) (x2 : List Int) : Nat → Int → Int → (List Int) → Option ((List Int))
  | 0, _, _, _ => none
  | q + 1, y5, y6, y7 => smithyref02_Plus.b1 x1 x2 (smithyref02_Plus.l1 x1 x2 q) y5 y6 y7
def smithyref02_Plus.f (k : Nat) (x1 : List Int) (x2 : List Int) : Option ((List Int)) := smithyref02_Plus.l1 x1 x2 k 0 0 ([] : List Int)
theorem smithyref02_Plus.ok (k : Nat) : smithyref02_Plus.Ctr (smithyref02_Plus.f k) := by
  intro x1 x2 ch_0_0 ch_0_1 ch_1_0 ch_1_1 r h0 mi w0 ok hm
  delta smithyref02_Plus.f at h0
  refine c_enterX (n := 37) [(.sl ch_0_0 (x1).length ch_0_1 (RdS (Ty.int .i64) ch_0_0 x1)), (.sl ch_1_0 (x2).length ch_1_1 (RdS (Ty.int .i64) ch_1_0 x2))] (l := [(0, (.sl ch_0_0 (x1).length ch_0_1 (RdS (Ty.int .i64) ch_0_0 x1))), (1, (.sl ch_1_0 (x2).length ch_1_1 (RdS (Ty.int .i64) ch_1_0 x2)))]) Try.func20 rfl rfl rfl rfl ok hm ?_
  clear ok hm
  intro b0 hb a S
  refine c_region ?_
  refine s_assign S rfl rfl ?_; clear S a; intro a S
  refine c_end ?_
  refine c_region ?_
  refine s_bldSl S (ty' := (Ty.int .i64)) (ds := []) (z := 0) (c0 := ()) (ys := ([] : List Int)) (cs := []) rfl Try.underlying36 J3 Z3 rfl ⟨rfl, trivial⟩ rfl rfl rfl rfl rfl rfl ?_; clear S a; intro g1 a w S
  refine s_assign S rfl rfl ?_; clear S a; intro a S
  refine c_end ?_
  refine c_region ?_
  refine s_assign S rfl rfl ?_; clear S a; intro a S
  refine c_end ?_
  refine wp_seq_k ?_
  intro K1 hK1
  have j1 : ∀ (m : Mem) (A1 : Option Addr) (nn1 : Nat) (cp1 : Nat) (y1 : List Int) (a : Act) (w : World), St 37 m b0 [(5, (.v (.slice A1 nn1 cp1)))] [Res.row (Ty.int .i64) 3 A1 nn1 cp1 y1] a w → smithyref02_Plus.j1 y1 = some r → K1 a w := by
    intro m A1 nn1 cp1 y1 a w S h0
    delta smithyref02_Plus.j1 at h0
    refine hK1 a w ?_
    refine c_region ?_
    refine s_move S rfl rfl ?_; clear S a; intro a S
    refine s_assign S rfl rfl ?_; clear S a; intro a S
    refine c_end ?_
    refine wp_ret ?_
    obtain rfl := Option.some.inj h0
    exact b_ret1 (d := (.v (.slice A1 nn1 cp1))) S rfl rfl fun ok => S.retX (Hx := []) hb _ _ ((A1, nn1, cp1) : (Option Addr) × Nat × Nat) (.cons .here .nil) ok
  refine c_region ?_
  refine s_assign S rfl rfl ?_; clear S a; intro a S
  refine c_end ?_
  refine wp_block ?_
  refine c_loop (fun q1 a w => ∃ (m : Mem) (y5 : Int) (y6 : Int) (A2 : Option Addr) (nn3 : Nat) (cp5 : Nat) (y7 : List Int), St 37 m b0 [(7, (.v (.int .i64 y5))), (6, (.v (.int .i64 y6))), (5, (.v (.slice A2 nn3 cp5))), (0, (.sl ch_0_0 (x1).length ch_0_1 (RdS (Ty.int .i64) ch_0_0 x1))), (1, (.sl ch_1_0 (x2).length ch_1_1 (RdS (Ty.int .i64) ch_1_0 x2)))] [Res.row (Ty.int .i64) 3 A2 nn3 cp5 y7] a w ∧ smithyref02_Plus.l1 x1 x2 q1 y5 y6 y7 = some r) ?_ ?_ (k := k) ⟨_, 0, 0, (some ⟨g1, 0, none⟩), 0, 0, ([] : List Int), (S.sub ⟨rfl, rfl, rfl, rfl, rfl, trivial⟩ (.cons .here .nil)), h0⟩
  · rintro a w ⟨m, y5, y6, A2, nn3, cp5, y7, S, h0⟩
    exact (nomatch (show (none : Option ((List Int))) = some r from h0))
  · clear S h0
    rintro q1 a w ⟨m, y5, y6, A2, nn3, cp5, y7, S, h0⟩
    replace h0 : smithyref02_Plus.b1 x1 x2 (smithyref02_Plus.l1 x1 x2 q1) y5 y6 y7 = some r := h0
    delta smithyref02_Plus.b1 at h0
    refine wp_seq ?_
    refine c_region ?_
    refine s_move S rfl rfl ?_; clear S a; intro a S
    refine s_move S rfl rfl ?_; clear S a; intro a S
    refine s_lenS S rfl Try.underlying36 rfl ?_; clear S a; intro a S
    refine s_move S rfl rfl ?_; clear S a; intro a S
    refine s_lenS S rfl Try.underlying36 rfl ?_; clear S a; intro a S
    refine s_max2 S rfl rfl rfl ?_; clear S a; intro a S
    refine s_bin S rfl rfl rfl rfl ?_; clear S a; intro a S
    refine s_bin S rfl rfl rfl rfl ?_; clear S a; intro a S
    refine c_end ?_
    rcases ite_of h0 with ⟨c1, h1⟩ | ⟨c1, h1⟩ <;> clear h0
    · refine c_condT S rfl c1 ?_
      refine wp_skip ?_
      refine x_thenN ?_
      refine wp_seq ?_
      refine wp_block ?_
      refine c_region ?_
      refine s_move S rfl rfl ?_; clear S a; intro a S
      refine s_move S rfl rfl ?_; clear S a; intro a S
      obtain ⟨t1, et1, h2⟩ := bind_of h1; clear h1
      refine s_callP S (fun (ch : Unit) => ((.v (.int .i64 t1)) : D)) N29 rfl rfl (smithyref02_at.ok x1 y5 ch_0_0 ch_0_1 t1 et1 _ _) ?_; clear S a w; intro ch1 m le1 a w S
      refine s_move S rfl rfl ?_; clear S a; intro a S
      refine s_move S rfl rfl ?_; clear S a; intro a S
      obtain ⟨t2, et2, h3⟩ := bind_of h2; clear h2
      refine s_callP S (fun (ch : Unit) => ((.v (.int .i64 t2)) : D)) N29 rfl rfl (smithyref02_at.ok x2 y5 ch_1_0 ch_1_1 t2 et2 _ _) ?_; clear S a w; intro ch2 m le1 a w S
      refine s_bin S rfl rfl rfl rfl ?_; clear S a; intro a S
      refine s_move S rfl rfl ?_; clear S a; intro a S
      refine s_bin S rfl rfl rfl rfl ?_; clear S a; intro a S
      refine s_assign S rfl rfl ?_; clear S a; intro a S
      refine c_end ?_
      refine c_region ?_
      refine s_move S rfl rfl ?_; clear S a; intro a S
      refine s_move S rfl rfl ?_; clear S a; intro a S
      refine s_rem S rfl rfl (by decide) rfl ?_; clear S a; intro a S
      refine s_bldSl S (ty' := (Ty.int .i64)) (ds := [(0, (.v (.int .i64 (Int.tmod (wr .i64 ((wr .i64 (t1 + t2)) + y6)) 256))))]) (z := 0) (c0 := ()) (ys := [Int.tmod (wr .i64 ((wr .i64 (t1 + t2)) + y6)) 256]) (cs := [()]) rfl Try.underlying36 J3 Z3 rfl ⟨rfl, trivial⟩ rfl rfl rfl rfl rfl rfl ?_; clear S a w; intro g4 a w S
      obtain ⟨c2, h4⟩ := chk_of h3; clear h3
      refine s_app S (k2 := 1) (ys := [Int.tmod (wr .i64 ((wr .i64 (t1 + t2)) + y6)) 256]) rfl (fun _ _ => (.there .here)) rfl rfl (S.holds _ (Pull.mem .here).1).1 (Res.row.src (S.holds _ (Pull.mem .here).1)) Try.underlying36 J3 c2 rfl ?_; clear S a w; intro A3 cp6 a w S
      refine s_assign S rfl rfl ?_; clear S a; intro a S
      refine c_end ?_
      refine c_region' ?_
      refine s_move S rfl rfl ?_; clear S a; intro a S
      refine s_quo S rfl rfl (by decide) rfl ?_; clear S a; intro a S
      refine s_assign S rfl rfl ?_; clear S a; intro a S
      refine c_end' ?_
      refine x_blockN ?_
      refine x_thenN ?_
      refine c_region' ?_
      refine s_move S rfl rfl ?_; clear S a; intro a S
      refine s_bin S rfl rfl rfl rfl ?_; clear S a; intro a S
      refine s_assign S rfl rfl ?_; clear S a; intro a S
      refine c_end' ?_
      refine x_thenN ?_
      exact ⟨_, (wr .i64 (y5 + 1)), (wr .i64 (Int.tdiv (wr .i64 ((wr .i64 (t1 + t2)) + y6)) 256)), A3, (nn3 + 1), cp6, (y7 ++ [Int.tmod (wr .i64 ((wr .i64 (t1 + t2)) + y6)) 256]), (S.sub ⟨rfl, rfl, rfl, rfl, rfl, trivial⟩ (.cons (.there .here) .nil)), h4⟩
    · refine c_condF S rfl c1 ?_
      refine wp_exit ?_
      refine x_thenX ?_
      refine x_thenX ?_
      refine x_blockX ?_
      refine x_thenN ?_
      exact j1 _ A2 nn3 cp5 y7 a w (S.sub ⟨rfl, trivial⟩ (.cons .here .nil)) h1
end GW
