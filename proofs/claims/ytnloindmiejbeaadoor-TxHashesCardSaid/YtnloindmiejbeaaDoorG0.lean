/-
  Printed by a program of these sessions (wip/gw/gx.py): for each Go function a Lean function with the same answers, and the walk that shows it.
-/
import Derived.Test.YtnloindmiejbeaaDoorProg
import Derived.Test.YtnloindmiejbeaaDoorGE
set_option linter.unusedVariables false
set_option maxRecDepth 10000
namespace GW
open Go Go.RowKit Go.Proofs
/-! smithy/smithylaw19.TxHashes -/
abbrev smithylaw19_TxHashes.Ty : Type := ((List Int) × (List Int) × Bool × Int × (List Int) × (List Int) × Int × (List Int) × (List Int) × (List ((List Int) × (List (List Int))))) → Int → Option Bool
def smithylaw19_TxHashes.Ctr (s : smithylaw19_TxHashes.Ty) : Prop := ∀ (x1 : (List Int) × (List Int) × Bool × Int × (List Int) × (List Int) × Int × (List Int) × (List Int) × (List ((List Int) × (List (List Int))))) (x2 : Int) (ch_0_0 : Option Addr) (ch_0_1 : Nat) (ch_0_2 : Option Addr) (ch_0_3 : Nat) (r : Bool) (h0 : s x1 x2 = some r) (mi : Mem) (w0 : World) (G : Glob mi), okL mi [(.agg [.ints .u8 x1.1 20, .ints .u8 x1.2.1 20, .one (.bool x1.2.2.1), .one (.int .u64 x1.2.2.2.1), .ints .u64 x1.2.2.2.2.1 4, .sl ch_0_0 (x1.2.2.2.2.2.1).length ch_0_1 (RdS (Ty.int .u8) ch_0_0 x1.2.2.2.2.2.1), .one (.int .u64 x1.2.2.2.2.2.2.1), .ints .u64 x1.2.2.2.2.2.2.2.1 4, .ints .u64 x1.2.2.2.2.2.2.2.2.1 4, .sl ch_0_2 (x1.2.2.2.2.2.2.2.2.2).length ch_0_3 (RdS (Ty.prod (Ty.arr .u8 20) (Ty.slice (Ty.arr .u64 4))) ch_0_2 x1.2.2.2.2.2.2.2.2.2)]), (.v (.int .u8 x2))] → Pre mi [] w0 → Calls Tryd.prog 3 (([(.agg [.ints .u8 x1.1 20, .ints .u8 x1.2.1 20, .one (.bool x1.2.2.1), .one (.int .u64 x1.2.2.2.1), .ints .u64 x1.2.2.2.2.1 4, .sl ch_0_0 (x1.2.2.2.2.2.1).length ch_0_1 (RdS (Ty.int .u8) ch_0_0 x1.2.2.2.2.2.1), .one (.int .u64 x1.2.2.2.2.2.2.1), .ints .u64 x1.2.2.2.2.2.2.2.1 4, .ints .u64 x1.2.2.2.2.2.2.2.2.1 4, .sl ch_0_2 (x1.2.2.2.2.2.2.2.2.2).length ch_0_3 (RdS (Ty.prod (Ty.arr .u8 20) (Ty.slice (Ty.arr .u64 4))) ch_0_2 x1.2.2.2.2.2.2.2.2.2)]), (.v (.int .u8 x2))] : List D).map D.val).toArray w0 (RetX mi [] (fun (ch : Unit) => ((.v (.bool r)) : D)) (fun (ch : Unit) => []) w0)
def smithylaw19_TxHashes.j1 (k : Nat) (x1 : (List Int) × (List Int) × Bool × Int × (List Int) × (List Int) × Int × (List Int) × (List Int) × (List ((List Int) × (List (List Int))))) (x2 : Int) (y1 : List ((List Int) × (List (List Int)))) : Option Bool := if (0 : Int) ≤ (wr .i64 (65 + (wr .i64 x2))) ∧ 32 * Int.toNat (wr .i64 (65 + (wr .i64 x2))) ≤ 281474976710656 then ((smithylaw19_fixed.f k).bind fun t3 => (if t3 = true then ((tx_Hash.f k (x1.1, x1.2.1, x1.2.2.1, x1.2.2.2.1, x1.2.2.2.2.1, x1.2.2.2.2.2.1, x1.2.2.2.2.2.2.1, x1.2.2.2.2.2.2.2.1, x1.2.2.2.2.2.2.2.2.1, x1.2.2.2.2.2.2.2.2.2)).bind fun t4 => ((smithyref19_Hash.f k (x1.1, x1.2.1, x1.2.2.1, x1.2.2.2.1, x1.2.2.2.2.1, x1.2.2.2.2.2.1, x1.2.2.2.2.2.2.1, x1.2.2.2.2.2.2.2.1, x1.2.2.2.2.2.2.2.2.1, x1.2.2.2.2.2.2.2.2.2)).bind fun t5 => (if (decide (t4 = t5)) = true then ((tx_Hash.f k (x1.1, x1.2.1, x1.2.2.1, x1.2.2.2.1, x1.2.2.2.2.1, x1.2.2.2.2.2.1, x1.2.2.2.2.2.2.1, x1.2.2.2.2.2.2.2.1, x1.2.2.2.2.2.2.2.2.1, y1)).bind fun t6 => (if (decide (t6 = [0, 0, 0, 0, 0, 0, 0, 0, 0, 0, 0, 0, 0, 0, 0, 0, 0, 0, 0, 0, 0, 0, 0, 0, 0, 0, 0, 0, 0, 0, 0, 0])) = true then ((tx_Hash.f k (x1.1, x1.2.1, x1.2.2.1, x1.2.2.2.1, x1.2.2.2.2.1, x1.2.2.2.2.2.1, x1.2.2.2.2.2.2.1, x1.2.2.2.2.2.2.2.1, x1.2.2.2.2.2.2.2.2.1, [([0, 0, 0, 0, 0, 0, 0, 0, 0, 0, 0, 0, 0, 0, 0, 0, 0, 0, 0, 0], List.replicate (Int.toNat (wr .i64 (65 + (wr .i64 x2)))) ([0, 0, 0, 0] : List Int))])).bind fun t7 => (if (decide (t7 = [0, 0, 0, 0, 0, 0, 0, 0, 0, 0, 0, 0, 0, 0, 0, 0, 0, 0, 0, 0, 0, 0, 0, 0, 0, 0, 0, 0, 0, 0, 0, 0])) = true then ((tx_May.f k (x1.1, x1.2.1, x1.2.2.1, x1.2.2.2.1, x1.2.2.2.2.1, x1.2.2.2.2.2.1, x1.2.2.2.2.2.2.1, x1.2.2.2.2.2.2.2.1, x1.2.2.2.2.2.2.2.2.1, y1)).bind fun t8 => (if (t8 == 4) = true then ((tx_May.f k (x1.1, x1.2.1, x1.2.2.1, x1.2.2.2.1, x1.2.2.2.2.1, x1.2.2.2.2.2.1, x1.2.2.2.2.2.2.1, x1.2.2.2.2.2.2.2.1, x1.2.2.2.2.2.2.2.2.1, [([0, 0, 0, 0, 0, 0, 0, 0, 0, 0, 0, 0, 0, 0, 0, 0, 0, 0, 0, 0], List.replicate (Int.toNat (wr .i64 (65 + (wr .i64 x2)))) ([0, 0, 0, 0] : List Int))])).bind fun t9 => (some (t9 == 4))) else (some false))) else (some false))) else (some false))) else (some false)))) else (some false))) else none
def smithylaw19_TxHashes.b1 (k : Nat) (x1 : (List Int) × (List Int) × Bool × Int × (List Int) × (List Int) × Int × (List Int) × (List Int) × (List ((List Int) × (List (List Int))))) (x2 : Int) (rec1 : Int → (List ((List Int) × (List (List Int)))) → Option Bool) (y4 : Int) (y5 : List ((List Int) × (List (List Int)))) : Option Bool := if (decide (y4 < 65)) = true then (if ((y5).length + ([([0, 0, 0, 0, 0, 0, 0, 0, 0, 0, 0, 0, 0, 0, 0, 0, 0, 0, 0, 0], ([] : List (List Int)))]).length) * 48 ≤ 140737488355328 then (rec1 (wr .i64 (y4 + 1)) (y5 ++ [([0, 0, 0, 0, 0, 0, 0, 0, 0, 0, 0, 0, 0, 0, 0, 0, 0, 0, 0, 0], ([] : List (List Int)))])) else none) else (smithylaw19_TxHashes.j1 k x1 x2 y5)
def smithylaw19_TxHashes.l1 (k : Nat) (x1 : (List Int) × (List Int) × Bool × Int × (List Int) × (List Int) × Int × (List Int) × (List Int) × (List ((List Int) × (List (List Int))))) (x2 : Int) : Nat → Int → (List ((List Int) × (List (List Int)))) → Option Bool
  | 0, _, _ => none
  | q + 1, y4, y5 => smithylaw19_TxHashes.b1 k x1 x2 (smithylaw19_TxHashes.l1 k x1 x2 q) y4 y5
def smithylaw19_TxHashes.f (k : Nat) (x1 : (List Int) × (List Int) × Bool × Int × (List Int) × (List Int) × Int × (List Int) × (List Int) × (List ((List Int) × (List (List Int))))) (x2 : Int) : Option Bool := (smithyref19_Great.f k (x1.1, x1.2.1, x1.2.2.1, x1.2.2.2.1, x1.2.2.2.2.1, x1.2.2.2.2.2.1, x1.2.2.2.2.2.2.1, x1.2.2.2.2.2.2.2.1, x1.2.2.2.2.2.2.2.2.1, x1.2.2.2.2.2.2.2.2.2)).bind fun t1 => (if t1 = true then ((smithylaw19_fixed.f k).bind fun t2 => (some t2)) else (if ((([] : List ((List Int) × (List (List Int))))).length + (x1.2.2.2.2.2.2.2.2.2).length) * 48 ≤ 140737488355328 then (smithylaw19_TxHashes.l1 k x1 x2 k 0 (([] : List ((List Int) × (List (List Int)))) ++ x1.2.2.2.2.2.2.2.2.2)) else none))
theorem smithylaw19_TxHashes.ok (k : Nat) : smithylaw19_TxHashes.Ctr (smithylaw19_TxHashes.f k) := by
  intro x1 x2 ch_0_0 ch_0_1 ch_0_2 ch_0_3 r h0 mi w0 G ok hm
  delta smithylaw19_TxHashes.f at h0
  refine c_enterX (n := 63) [(.agg [.ints .u8 x1.1 20, .ints .u8 x1.2.1 20, .one (.bool x1.2.2.1), .one (.int .u64 x1.2.2.2.1), .ints .u64 x1.2.2.2.2.1 4, .sl ch_0_0 (x1.2.2.2.2.2.1).length ch_0_1 (RdS (Ty.int .u8) ch_0_0 x1.2.2.2.2.2.1), .one (.int .u64 x1.2.2.2.2.2.2.1), .ints .u64 x1.2.2.2.2.2.2.2.1 4, .ints .u64 x1.2.2.2.2.2.2.2.2.1 4, .sl ch_0_2 (x1.2.2.2.2.2.2.2.2.2).length ch_0_3 (RdS (Ty.prod (Ty.arr .u8 20) (Ty.slice (Ty.arr .u64 4))) ch_0_2 x1.2.2.2.2.2.2.2.2.2)]), (.v (.int .u8 x2))] (l := [(0, (.agg [.ints .u8 x1.1 20, .ints .u8 x1.2.1 20, .one (.bool x1.2.2.1), .one (.int .u64 x1.2.2.2.1), .ints .u64 x1.2.2.2.2.1 4, .sl ch_0_0 (x1.2.2.2.2.2.1).length ch_0_1 (RdS (Ty.int .u8) ch_0_0 x1.2.2.2.2.2.1), .one (.int .u64 x1.2.2.2.2.2.2.1), .ints .u64 x1.2.2.2.2.2.2.2.1 4, .ints .u64 x1.2.2.2.2.2.2.2.2.1 4, .sl ch_0_2 (x1.2.2.2.2.2.2.2.2.2).length ch_0_3 (RdS (Ty.prod (Ty.arr .u8 20) (Ty.slice (Ty.arr .u64 4))) ch_0_2 x1.2.2.2.2.2.2.2.2.2)])), (1, (.v (.int .u8 x2)))]) Tryd.func3 rfl rfl rfl rfl ok hm ?_
  clear ok hm
  intro b0 hb a S
  refine c_region ?_
  refine s_box S rfl rfl rfl ?_; clear S a; intro g1 a w S
  refine s_assign S rfl rfl ?_; clear S a; intro a S
  refine c_end ?_
  refine wp_seq ?_
  refine c_region ?_
  refine s_loada S rfl .here T30 (s' := [.ints .u8 x1.1 20, .ints .u8 x1.2.1 20, .one (.bool x1.2.2.1), .one (.int .u64 x1.2.2.2.1), .ints .u64 x1.2.2.2.2.1 4, .sl ch_0_0 (x1.2.2.2.2.2.1).length ch_0_1 (RdS (Ty.int .u8) ch_0_0 x1.2.2.2.2.2.1), .one (.int .u64 x1.2.2.2.2.2.2.1), .ints .u64 x1.2.2.2.2.2.2.2.1 4, .ints .u64 x1.2.2.2.2.2.2.2.2.1 4, .sl ch_0_2 (x1.2.2.2.2.2.2.2.2.2).length ch_0_3 (RdS (Ty.prod (Ty.arr .u8 20) (Ty.slice (Ty.arr .u64 4))) ch_0_2 x1.2.2.2.2.2.2.2.2.2)]) rfl rfl ?_; clear S a; intro a S
  obtain ⟨t1, et1, h1⟩ := bind_of h0; clear h0
  refine s_callP S (fun (ch : Unit) => ((.v (.bool t1)) : D)) N4 rfl rfl (smithyref19_Great.ok k (x1.1, x1.2.1, x1.2.2.1, x1.2.2.2.1, x1.2.2.2.2.1, x1.2.2.2.2.2.1, x1.2.2.2.2.2.2.1, x1.2.2.2.2.2.2.2.1, x1.2.2.2.2.2.2.2.2.1, x1.2.2.2.2.2.2.2.2.2) ch_0_0 ch_0_1 ch_0_2 ch_0_3 t1 et1 _ _) ?_; clear S a w; intro ch1 m le1 a w S
  refine c_end ?_
  rcases ite_of h1 with ⟨c1, h2⟩ | ⟨c1, h2⟩ <;> clear h1
  · refine c_condT S rfl c1 ?_
    refine c_region ?_
    obtain ⟨t2, et2, h3⟩ := bind_of h2; clear h2
    refine s_callP S (fun (ch : Unit) => ((.v (.bool t2)) : D)) N5 rfl rfl (smithylaw19_fixed.ok k t2 et2 _ _) ?_; clear S a w; intro ch2 m le1 a w S
    refine s_assign S rfl rfl ?_; clear S a; intro a S
    refine c_end ?_
    refine wp_ret ?_
    refine x_thenR ?_
    obtain rfl := Option.some.inj h3
    exact b_ret1 (d := (.v (.bool t2))) S rfl rfl fun ok => S.retX (Hx := []) hb _ _ (() : Unit) .nil ok
  · refine c_condF S rfl c1 ?_
    refine wp_skip ?_
    refine x_thenN ?_
    refine c_region ?_
    refine s_loada S rfl .here T30 (s' := [.ints .u8 x1.1 20, .ints .u8 x1.2.1 20, .one (.bool x1.2.2.1), .one (.int .u64 x1.2.2.2.1), .ints .u64 x1.2.2.2.2.1 4, .sl ch_0_0 (x1.2.2.2.2.2.1).length ch_0_1 (RdS (Ty.int .u8) ch_0_0 x1.2.2.2.2.2.1), .one (.int .u64 x1.2.2.2.2.2.2.1), .ints .u64 x1.2.2.2.2.2.2.2.1 4, .ints .u64 x1.2.2.2.2.2.2.2.2.1 4, .sl ch_0_2 (x1.2.2.2.2.2.2.2.2.2).length ch_0_3 (RdS (Ty.prod (Ty.arr .u8 20) (Ty.slice (Ty.arr .u64 4))) ch_0_2 x1.2.2.2.2.2.2.2.2.2)]) rfl rfl ?_; clear S a; intro a S
    refine s_alloc S Z30 rfl ⟨rfl, rfl, rfl, rfl, rfl, rfl, rfl, rfl, rfl, rfl, trivial⟩ rfl ?_; clear S a w; intro g2 a w S
    refine s_store S rfl rfl rfl (s' := [.ints .u8 x1.1 20, .ints .u8 x1.2.1 20, .one (.bool x1.2.2.1), .one (.int .u64 x1.2.2.2.1), .ints .u64 x1.2.2.2.2.1 4, .sl ch_0_0 (x1.2.2.2.2.2.1).length ch_0_1 (RdS (Ty.int .u8) ch_0_0 x1.2.2.2.2.2.1), .one (.int .u64 x1.2.2.2.2.2.2.1), .ints .u64 x1.2.2.2.2.2.2.2.1 4, .ints .u64 x1.2.2.2.2.2.2.2.2.1 4, .sl ch_0_2 (x1.2.2.2.2.2.2.2.2.2).length ch_0_3 (RdS (Ty.prod (Ty.arr .u8 20) (Ty.slice (Ty.arr .u64 4))) ch_0_2 x1.2.2.2.2.2.2.2.2.2)]) .here T30 rfl rfl ?_; clear S w; intro w S
    refine c_end ?_
    refine c_region ?_
    refine s_bldSl S (ty' := (Ty.prod (Ty.arr .u8 20) (Ty.slice (Ty.arr .u64 4)))) (ds := []) (z := ([0, 0, 0, 0, 0, 0, 0, 0, 0, 0, 0, 0, 0, 0, 0, 0, 0, 0, 0, 0], ([] : List (List Int)))) (c0 := ((), (none, 0))) (ys := ([] : List ((List Int) × (List (List Int))))) (cs := []) rfl Tryd.underlying28 J35 Z35 rfl ⟨rfl, ⟨Nat.le_refl _, Nat.zero_le _, RdS.nil _ _ _, RdS.mono _ _ _⟩, trivial⟩ rfl rfl rfl rfl rfl rfl ?_; clear S a w; intro g3 a w S
    refine s_fieldAddr S rfl I30_9 T28 (by decide) rfl rfl ?_; clear S a; intro a S
    refine s_loadSl S rfl (.there (.there .here)) T28 (A := ch_0_2) (len := (x1.2.2.2.2.2.2.2.2.2).length) (cap := ch_0_3) rfl rfl ?_; clear S a; intro a S
    obtain ⟨c2, h3⟩ := chk_of h2; clear h2
    refine s_app S (k2 := ((x1.2.2.2.2.2.2.2.2.2).length)) (ys := x1.2.2.2.2.2.2.2.2.2) rfl (fun _ _ => .here) rfl rfl rfl (RdS.src (S.get 13 (.sl ch_0_2 (x1.2.2.2.2.2.2.2.2.2).length ch_0_3 (RdS (Ty.prod (Ty.arr .u8 20) (Ty.slice (Ty.arr .u64 4))) ch_0_2 x1.2.2.2.2.2.2.2.2.2)) rfl).2.2.2.1 (by decide) S.frz) Tryd.underlying28 J35 c2 rfl ?_; clear S a w; intro A1 cp1 a w S
    refine s_fieldAddr S rfl I30_9 T28 (by decide) rfl rfl ?_; clear S a; intro a S
    refine s_store S rfl rfl rfl (s' := [.ints .u8 x1.1 20, .ints .u8 x1.2.1 20, .one (.bool x1.2.2.1), .one (.int .u64 x1.2.2.2.1), .ints .u64 x1.2.2.2.2.1 4, .sl ch_0_0 (x1.2.2.2.2.2.1).length ch_0_1 (RdS (Ty.int .u8) ch_0_0 x1.2.2.2.2.2.1), .one (.int .u64 x1.2.2.2.2.2.2.1), .ints .u64 x1.2.2.2.2.2.2.2.1 4, .ints .u64 x1.2.2.2.2.2.2.2.2.1 4, .one (.slice A1 (0 + ((x1.2.2.2.2.2.2.2.2.2).length)) cp1)]) (.there .here) T28 rfl rfl ?_; clear S w; intro w S
    refine c_end ?_
    refine wp_seq_k ?_
    intro K1 hK1
    have j1 : ∀ (m : Mem) (g12 : Nat) (g13 : Nat) (A2 : Option Addr) (nn1 : Nat) (cp7 : Nat) (y1 : List ((List Int) × (List (List Int)))) (a : Act) (w : World), St 63 m b0 [(5, (.v (.pointer (some ⟨g12, 0, none⟩)))), (2, (.v (.pointer (some ⟨g13, 0, none⟩)))), (1, (.v (.int .u8 x2)))] [Res.row (Ty.prod (Ty.arr .u8 20) (Ty.slice (Ty.arr .u64 4))) 35 A2 nn1 cp7 y1, Res.cells g12 30 [.ints .u8 x1.1 20, .ints .u8 x1.2.1 20, .one (.bool x1.2.2.1), .one (.int .u64 x1.2.2.2.1), .ints .u64 x1.2.2.2.2.1 4, .sl ch_0_0 (x1.2.2.2.2.2.1).length ch_0_1 (RdS (Ty.int .u8) ch_0_0 x1.2.2.2.2.2.1), .one (.int .u64 x1.2.2.2.2.2.2.1), .ints .u64 x1.2.2.2.2.2.2.2.1 4, .ints .u64 x1.2.2.2.2.2.2.2.2.1 4, .one (.slice A2 nn1 cp7)], Res.cells g13 30 [.ints .u8 x1.1 20, .ints .u8 x1.2.1 20, .one (.bool x1.2.2.1), .one (.int .u64 x1.2.2.2.1), .ints .u64 x1.2.2.2.2.1 4, .sl ch_0_0 (x1.2.2.2.2.2.1).length ch_0_1 (RdS (Ty.int .u8) ch_0_0 x1.2.2.2.2.2.1), .one (.int .u64 x1.2.2.2.2.2.2.1), .ints .u64 x1.2.2.2.2.2.2.2.1 4, .ints .u64 x1.2.2.2.2.2.2.2.2.1 4, .sl ch_0_2 (x1.2.2.2.2.2.2.2.2.2).length ch_0_3 (RdS (Ty.prod (Ty.arr .u8 20) (Ty.slice (Ty.arr .u64 4))) ch_0_2 x1.2.2.2.2.2.2.2.2.2)]] a w → smithylaw19_TxHashes.j1 k x1 x2 y1 = some r → K1 a w := by
      intro m g12 g13 A2 nn1 cp7 y1 a w S h0
      delta smithylaw19_TxHashes.j1 at h0
      refine hK1 a w ?_
      refine c_region ?_
      refine s_loada S rfl (.there (.there .here)) T30 (s' := [.ints .u8 x1.1 20, .ints .u8 x1.2.1 20, .one (.bool x1.2.2.1), .one (.int .u64 x1.2.2.2.1), .ints .u64 x1.2.2.2.2.1 4, .sl ch_0_0 (x1.2.2.2.2.2.1).length ch_0_1 (RdS (Ty.int .u8) ch_0_0 x1.2.2.2.2.2.1), .one (.int .u64 x1.2.2.2.2.2.2.1), .ints .u64 x1.2.2.2.2.2.2.2.1 4, .ints .u64 x1.2.2.2.2.2.2.2.2.1 4, .sl ch_0_2 (x1.2.2.2.2.2.2.2.2.2).length ch_0_3 (RdS (Ty.prod (Ty.arr .u8 20) (Ty.slice (Ty.arr .u64 4))) ch_0_2 x1.2.2.2.2.2.2.2.2.2)]) rfl rfl ?_; clear S a; intro a S
      refine s_alloc S Z30 rfl ⟨rfl, rfl, rfl, rfl, rfl, rfl, rfl, rfl, rfl, rfl, trivial⟩ rfl ?_; clear S a w; intro g14 a w S
      refine s_store S rfl rfl rfl (s' := [.ints .u8 x1.1 20, .ints .u8 x1.2.1 20, .one (.bool x1.2.2.1), .one (.int .u64 x1.2.2.2.1), .ints .u64 x1.2.2.2.2.1 4, .sl ch_0_0 (x1.2.2.2.2.2.1).length ch_0_1 (RdS (Ty.int .u8) ch_0_0 x1.2.2.2.2.2.1), .one (.int .u64 x1.2.2.2.2.2.2.1), .ints .u64 x1.2.2.2.2.2.2.2.1 4, .ints .u64 x1.2.2.2.2.2.2.2.2.1 4, .sl ch_0_2 (x1.2.2.2.2.2.2.2.2.2).length ch_0_3 (RdS (Ty.prod (Ty.arr .u8 20) (Ty.slice (Ty.arr .u64 4))) ch_0_2 x1.2.2.2.2.2.2.2.2.2)]) .here T30 rfl rfl ?_; clear S w; intro w S
      refine c_end ?_
      refine c_region ?_
      refine s_move S rfl rfl ?_; clear S a; intro a S
      refine s_conv S rfl rfl Tryd.underlying3 rfl ?_; clear S a; intro a S
      refine s_bin S rfl rfl rfl rfl ?_; clear S a; intro a S
      obtain ⟨c3, h1⟩ := chk_of h0; clear h0
      refine s_make S (ty' := (Ty.arr .u64 4)) (z := [0, 0, 0, 0]) (c0 := ()) rfl rfl Tryd.underlying33 J26 Z26 rfl ⟨rfl, trivial⟩ c3.1 c3.2 rfl ?_; clear S a w; intro g15 a w S
      refine s_bldS S (ds := [(1, (.v (.slice (some ⟨g15, 0, none⟩) (Int.toNat (wr .i64 (65 + (wr .i64 x2)))) (Int.toNat (wr .i64 (65 + (wr .i64 x2)))))))]) (zs := [.ints .u8 [0, 0, 0, 0, 0, 0, 0, 0, 0, 0, 0, 0, 0, 0, 0, 0, 0, 0, 0, 0] 20, .one (.slice none 0 0)]) (s' := [.ints .u8 [0, 0, 0, 0, 0, 0, 0, 0, 0, 0, 0, 0, 0, 0, 0, 0, 0, 0, 0, 0] 20, .one (.slice (some ⟨g15, 0, none⟩) (Int.toNat (wr .i64 (65 + (wr .i64 x2)))) (Int.toNat (wr .i64 (65 + (wr .i64 x2)))))]) rfl Tryd.underlying35 P35 Z35 ⟨rfl, rfl, trivial⟩ rfl rfl ?_; clear S a; intro a S
      replace S := S.rowfro .here
      obtain ⟨m, le1, S, hro⟩ := S
      replace S := S.slot (u := 30) (d' := (.agg [.ints .u8 [0, 0, 0, 0, 0, 0, 0, 0, 0, 0, 0, 0, 0, 0, 0, 0, 0, 0, 0, 0] 20, .sl (some ⟨g15, 0, none⟩) (List.replicate (Int.toNat (wr .i64 (65 + (wr .i64 x2)))) ([0, 0, 0, 0] : List Int)).length (Int.toNat (wr .i64 (65 + (wr .i64 x2)))) (RdS (Ty.arr .u64 4) (some ⟨g15, 0, none⟩) (List.replicate (Int.toNat (wr .i64 (65 + (wr .i64 x2)))) ([0, 0, 0, 0] : List Int)))])) rfl (by simp [D.val, cellsOf, Seg.cells, hro.2.1]) (by have h := (S.get 30 (.agg [.ints .u8 [0, 0, 0, 0, 0, 0, 0, 0, 0, 0, 0, 0, 0, 0, 0, 0, 0, 0, 0, 0] 20, .one (.slice (some ⟨g15, 0, none⟩) (Int.toNat (wr .i64 (65 + (wr .i64 x2)))) (Int.toNat (wr .i64 (65 + (wr .i64 x2)))))]) rfl).2; exact ⟨h.1, ⟨by have := hro.2.2.1; omega, hro.2.2.2, hro.1, RdS.mono _ _ _⟩, trivial⟩)
      replace S := S.slotro (u := 29) rfl hro
      refine s_bldSl S (ty' := (Ty.prod (Ty.arr .u8 20) (Ty.slice (Ty.arr .u64 4)))) (ds := [(0, (.agg [.ints .u8 [0, 0, 0, 0, 0, 0, 0, 0, 0, 0, 0, 0, 0, 0, 0, 0, 0, 0, 0, 0] 20, .sl (some ⟨g15, 0, none⟩) (List.replicate (Int.toNat (wr .i64 (65 + (wr .i64 x2)))) ([0, 0, 0, 0] : List Int)).length (Int.toNat (wr .i64 (65 + (wr .i64 x2)))) (RdS (Ty.arr .u64 4) (some ⟨g15, 0, none⟩) (List.replicate (Int.toNat (wr .i64 (65 + (wr .i64 x2)))) ([0, 0, 0, 0] : List Int)))]))]) (z := ([0, 0, 0, 0, 0, 0, 0, 0, 0, 0, 0, 0, 0, 0, 0, 0, 0, 0, 0, 0], ([] : List (List Int)))) (c0 := ((), (none, 0))) (ys := [([0, 0, 0, 0, 0, 0, 0, 0, 0, 0, 0, 0, 0, 0, 0, 0, 0, 0, 0, 0], List.replicate (Int.toNat (wr .i64 (65 + (wr .i64 x2)))) ([0, 0, 0, 0] : List Int))]) (cs := [((), ((some ⟨g15, 0, none⟩), Int.toNat (wr .i64 (65 + (wr .i64 x2)))))]) rfl Tryd.underlying28 J35 Z35 rfl ⟨rfl, ⟨Nat.le_refl _, Nat.zero_le _, RdS.nil _ _ _, RdS.mono _ _ _⟩, trivial⟩ rfl rfl rfl rfl rfl rfl ?_; clear S a w; intro g16 a w S
      refine s_fieldAddr S rfl I30_9 T28 (by decide) rfl rfl ?_; clear S a; intro a S
      refine s_store S rfl rfl rfl (s' := [.ints .u8 x1.1 20, .ints .u8 x1.2.1 20, .one (.bool x1.2.2.1), .one (.int .u64 x1.2.2.2.1), .ints .u64 x1.2.2.2.2.1 4, .sl ch_0_0 (x1.2.2.2.2.2.1).length ch_0_1 (RdS (Ty.int .u8) ch_0_0 x1.2.2.2.2.2.1), .one (.int .u64 x1.2.2.2.2.2.2.1), .ints .u64 x1.2.2.2.2.2.2.2.1 4, .ints .u64 x1.2.2.2.2.2.2.2.2.1 4, .one (.slice (some ⟨g16, 0, none⟩) 1 1)]) (.there .here) T28 rfl rfl ?_; clear S w; intro w S
      refine c_end ?_
      refine wp_seq (c_heldS S (.alts (.run 0 true (.take 1 (.take 2 (.take 4 (.alts (.run 3 true (.alts (.run 5 true (.take 6 (.take 7 (.take 8 (.take 11 (.alts (.run 9 true (.alts (.run 10 true (.take 12 (.take 13 (.take 14 (.take 17 (.alts (.run 15 true (.alts (.run 16 true (.take 18 (.take 19 (.take 20 (.alts (.run 21 true (.alts (.run 22 true (.take 23 (.take 24 (.take 25 (.alts (.run 26 true (.alts (.run 27 true (.take 28 (.take 29 (.take 30 .done))) .nil)) .nil))))) .nil)) .nil))))) .nil)) .nil)))))) .nil)) .nil)))))) .nil)) .nil))))) .nil)) 31 [Res.cells g13 30 [.ints .u8 x1.1 20, .ints .u8 x1.2.1 20, .one (.bool x1.2.2.1), .one (.int .u64 x1.2.2.2.1), .ints .u64 x1.2.2.2.2.1 4, .sl ch_0_0 (x1.2.2.2.2.2.1).length ch_0_1 (RdS (Ty.int .u8) ch_0_0 x1.2.2.2.2.2.1), .one (.int .u64 x1.2.2.2.2.2.2.1), .ints .u64 x1.2.2.2.2.2.2.2.1 4, .ints .u64 x1.2.2.2.2.2.2.2.2.1 4, .sl ch_0_2 (x1.2.2.2.2.2.2.2.2.2).length ch_0_3 (RdS (Ty.prod (Ty.arr .u8 20) (Ty.slice (Ty.arr .u64 4))) ch_0_2 x1.2.2.2.2.2.2.2.2.2)]] (.cons (.there (.there (.there (.there .here)))) .nil) ⟨Res.stay_cells, trivial⟩ [(2, (.v (.pointer (some ⟨g13, 0, none⟩))))] ⟨rfl, trivial⟩ (by kernel_rfl) (by kernel_rfl) ?_); clear S; intro w S CL hw le
      refine h_run' S rfl trivial ?_
      obtain ⟨t3, et3, h2⟩ := bind_of h1; clear h1
      refine s_callP S (fun (ch : Unit) => ((.v (.bool t3)) : D)) N5 rfl rfl (smithylaw19_fixed.ok k t3 et3 _ _) ?_; clear S a; intro ch3 m le1 a w S
      replace le := le.trans le1
      replace hw := CL.again hw S (.cons (.there (.there (.there (.there .here)))) .nil) le
      refine h_back ⟨fun _ => hw, ?_⟩
      replace CL := CL.add (t := 33) (d := (.v (.bool t3))) S rfl rfl
      refine h_move S CL hw le ⟨rfl, rfl, trivial⟩ rfl rfl rfl trivial ?_; clear S CL a; intro a S CL
      rcases ite_of h2 with ⟨c4, h3⟩ | ⟨c4, h3⟩ <;> clear h2
      · refine h_loada S CL hw le ⟨rfl, rfl, rfl, trivial⟩ rfl .here T30 (s' := [.ints .u8 x1.1 20, .ints .u8 x1.2.1 20, .one (.bool x1.2.2.1), .one (.int .u64 x1.2.2.2.1), .ints .u64 x1.2.2.2.2.1 4, .sl ch_0_0 (x1.2.2.2.2.2.1).length ch_0_1 (RdS (Ty.int .u8) ch_0_0 x1.2.2.2.2.2.1), .one (.int .u64 x1.2.2.2.2.2.2.1), .ints .u64 x1.2.2.2.2.2.2.2.1 4, .ints .u64 x1.2.2.2.2.2.2.2.2.1 4, .sl ch_0_2 (x1.2.2.2.2.2.2.2.2.2).length ch_0_3 (RdS (Ty.prod (Ty.arr .u8 20) (Ty.slice (Ty.arr .u64 4))) ch_0_2 x1.2.2.2.2.2.2.2.2.2)]) rfl rfl rfl ⟨_, _, rfl, rfl, c4⟩ ?_; clear S CL a; intro a S CL
        refine h_loada S CL hw le ⟨rfl, rfl, rfl, rfl, trivial⟩ rfl .here T30 (s' := [.ints .u8 x1.1 20, .ints .u8 x1.2.1 20, .one (.bool x1.2.2.1), .one (.int .u64 x1.2.2.2.1), .ints .u64 x1.2.2.2.2.1 4, .sl ch_0_0 (x1.2.2.2.2.2.1).length ch_0_1 (RdS (Ty.int .u8) ch_0_0 x1.2.2.2.2.2.1), .one (.int .u64 x1.2.2.2.2.2.2.1), .ints .u64 x1.2.2.2.2.2.2.2.1 4, .ints .u64 x1.2.2.2.2.2.2.2.2.1 4, .sl ch_0_2 (x1.2.2.2.2.2.2.2.2.2).length ch_0_3 (RdS (Ty.prod (Ty.arr .u8 20) (Ty.slice (Ty.arr .u64 4))) ch_0_2 x1.2.2.2.2.2.2.2.2.2)]) rfl rfl rfl ⟨_, _, rfl, rfl, c4⟩ ?_; clear S CL a; intro a S CL
        refine h_run' S rfl ⟨_, _, rfl, rfl, c4⟩ ?_
        obtain ⟨t4, et4, h4⟩ := bind_of h3; clear h3
        refine s_callP S (fun (ch : Unit) => ((.agg [.ints .u8 t4 32]) : D)) N6 rfl rfl (tx_Hash.ok k (x1.1, x1.2.1, x1.2.2.1, x1.2.2.2.1, x1.2.2.2.2.1, x1.2.2.2.2.2.1, x1.2.2.2.2.2.2.1, x1.2.2.2.2.2.2.2.1, x1.2.2.2.2.2.2.2.2.1, x1.2.2.2.2.2.2.2.2.2) ch_0_0 ch_0_1 ch_0_2 ch_0_3 t4 et4 _ _ (G.mono (S.leB hb))) ?_; clear S a; intro ch4 m le1 a w S
        replace le := le.trans le1
        replace hw := CL.again hw S (.cons (.there (.there (.there (.there .here)))) .nil) le
        refine h_back ⟨fun _ => hw, ?_⟩
        replace CL := CL.add (t := 36) (d := (.agg [.ints .u8 t4 32])) S rfl rfl
        refine h_run' S rfl ⟨_, _, rfl, rfl, c4⟩ ?_
        obtain ⟨t5, et5, h5⟩ := bind_of h4; clear h4
        refine s_callP S (fun (ch : Unit) => ((.agg [.ints .u8 t5 32]) : D)) N7 rfl rfl (smithyref19_Hash.ok k (x1.1, x1.2.1, x1.2.2.1, x1.2.2.2.1, x1.2.2.2.2.1, x1.2.2.2.2.2.1, x1.2.2.2.2.2.2.1, x1.2.2.2.2.2.2.2.1, x1.2.2.2.2.2.2.2.2.1, x1.2.2.2.2.2.2.2.2.2) ch_0_0 ch_0_1 ch_0_2 ch_0_3 t5 et5 _ _) ?_; clear S a; intro ch5 m le1 a w S
        replace le := le.trans le1
        replace hw := CL.again hw S (.cons (.there (.there (.there (.there .here)))) .nil) le
        refine h_back ⟨fun _ => hw, ?_⟩
        replace CL := CL.add (t := 38) (d := (.agg [.ints .u8 t5 32])) S rfl rfl
        refine h_eqa S CL hw le ⟨rfl, rfl, rfl, rfl, rfl, rfl, rfl, trivial⟩ rfl rfl Tryd.underlying37 Tryd.underlying5 T5 Q37 rfl rfl ⟨_, _, rfl, rfl, c4⟩ ?_; clear S CL a; intro a S CL
        refine h_pick S CL hw le ⟨rfl, rfl, rfl, rfl, rfl, rfl, rfl, rfl, trivial⟩ (b := true) (hc_of rfl c4) rfl rfl rfl trivial ?_; clear S CL a; intro a S CL
        refine h_move S CL hw le ⟨rfl, rfl, rfl, rfl, rfl, rfl, rfl, rfl, rfl, trivial⟩ rfl rfl rfl trivial ?_; clear S CL a; intro a S CL
        rcases ite_of h5 with ⟨c5, h6⟩ | ⟨c5, h6⟩ <;> clear h5
        · refine h_build S CL hw le ⟨rfl, rfl, rfl, rfl, rfl, rfl, rfl, rfl, rfl, rfl, trivial⟩ (ds := []) (dv := (.agg [.ints .u8 [0, 0, 0, 0, 0, 0, 0, 0, 0, 0, 0, 0, 0, 0, 0, 0, 0, 0, 0, 0, 0, 0, 0, 0, 0, 0, 0, 0, 0, 0, 0, 0] 32])) rfl (fun _ => by kernel_rfl) ⟨rfl, trivial⟩ rfl rfl ⟨_, _, rfl, rfl, c5⟩ ?_; clear S CL a; intro a S CL
          refine h_run' S rfl ⟨_, _, rfl, rfl, c5⟩ ?_
          refine s_loada S rfl (.there (.there (.there .here))) T30 (s' := [.ints .u8 x1.1 20, .ints .u8 x1.2.1 20, .one (.bool x1.2.2.1), .one (.int .u64 x1.2.2.2.1), .ints .u64 x1.2.2.2.2.1 4, .sl ch_0_0 (x1.2.2.2.2.2.1).length ch_0_1 (RdS (Ty.int .u8) ch_0_0 x1.2.2.2.2.2.1), .one (.int .u64 x1.2.2.2.2.2.2.1), .ints .u64 x1.2.2.2.2.2.2.2.1 4, .ints .u64 x1.2.2.2.2.2.2.2.2.1 4, .one (.slice A2 nn1 cp7)]) rfl rfl ?_; clear S a; intro a S
          replace hw := CL.again hw S (.cons (.there (.there (.there (.there .here)))) .nil) le
          refine h_back ⟨fun _ => hw, ?_⟩
          refine h_run' S rfl ⟨_, _, rfl, rfl, c5⟩ ?_
          replace S := S.rowfro (.there (.there .here))
          obtain ⟨m, le1, S, hro⟩ := S
          replace le := le.trans le1
          replace S := S.slot (u := 42) (d' := (.agg [.ints .u8 x1.1 20, .ints .u8 x1.2.1 20, .one (.bool x1.2.2.1), .one (.int .u64 x1.2.2.2.1), .ints .u64 x1.2.2.2.2.1 4, .sl ch_0_0 (x1.2.2.2.2.2.1).length ch_0_1 (RdS (Ty.int .u8) ch_0_0 x1.2.2.2.2.2.1), .one (.int .u64 x1.2.2.2.2.2.2.1), .ints .u64 x1.2.2.2.2.2.2.2.1 4, .ints .u64 x1.2.2.2.2.2.2.2.2.1 4, .sl A2 (y1).length cp7 (RdS (Ty.prod (Ty.arr .u8 20) (Ty.slice (Ty.arr .u64 4))) A2 y1)])) rfl (by simp [D.val, cellsOf, Seg.cells, hro.2.1]) (by have h := (S.get 42 (.agg [.ints .u8 x1.1 20, .ints .u8 x1.2.1 20, .one (.bool x1.2.2.1), .one (.int .u64 x1.2.2.2.1), .ints .u64 x1.2.2.2.2.1 4, .sl ch_0_0 (x1.2.2.2.2.2.1).length ch_0_1 (RdS (Ty.int .u8) ch_0_0 x1.2.2.2.2.2.1), .one (.int .u64 x1.2.2.2.2.2.2.1), .ints .u64 x1.2.2.2.2.2.2.2.1 4, .ints .u64 x1.2.2.2.2.2.2.2.2.1 4, .one (.slice A2 nn1 cp7)]) rfl).2; exact ⟨h.1, h.2.1, h.2.2.1, h.2.2.2.1, h.2.2.2.2.1, h.2.2.2.2.2.1, h.2.2.2.2.2.2.1, h.2.2.2.2.2.2.2.1, h.2.2.2.2.2.2.2.2.1, ⟨by have := hro.2.2.1; omega, hro.2.2.2, hro.1, RdS.mono _ _ _⟩, trivial⟩)
          replace S := S.cellro (s' := [.ints .u8 x1.1 20, .ints .u8 x1.2.1 20, .one (.bool x1.2.2.1), .one (.int .u64 x1.2.2.2.1), .ints .u64 x1.2.2.2.2.1 4, .sl ch_0_0 (x1.2.2.2.2.2.1).length ch_0_1 (RdS (Ty.int .u8) ch_0_0 x1.2.2.2.2.2.1), .one (.int .u64 x1.2.2.2.2.2.2.1), .ints .u64 x1.2.2.2.2.2.2.2.1 4, .ints .u64 x1.2.2.2.2.2.2.2.2.1 4, .sl A2 (y1).length cp7 (RdS (Ty.prod (Ty.arr .u8 20) (Ty.slice (Ty.arr .u64 4))) A2 y1)]) (.there (.there .here)) (by simp [cellsOf, Seg.cells, hro.2.1]) (fun h => ⟨h.1, h.2.1, h.2.2.1, h.2.2.2.1, h.2.2.2.2.1, h.2.2.2.2.2.1, h.2.2.2.2.2.2.1, h.2.2.2.2.2.2.2.1, h.2.2.2.2.2.2.2.2.1, ⟨by have := hro.2.2.1; omega, hro.2.2.2, hro.1, RdS.mono _ _ _⟩, trivial⟩)
          obtain ⟨t6, et6, h7⟩ := bind_of h6; clear h6
          refine s_callP S (fun (ch : Unit) => ((.agg [.ints .u8 t6 32]) : D)) N6 rfl rfl (tx_Hash.ok k (x1.1, x1.2.1, x1.2.2.1, x1.2.2.2.1, x1.2.2.2.2.1, x1.2.2.2.2.2.1, x1.2.2.2.2.2.2.1, x1.2.2.2.2.2.2.2.1, x1.2.2.2.2.2.2.2.2.1, y1) ch_0_0 ch_0_1 A2 cp7 t6 et6 _ _ (G.mono (S.leB hb))) ?_; clear S a; intro ch6 m le1 a w S
          replace le := le.trans le1
          replace hw := CL.again hw S (.cons (.there (.there (.there .here))) .nil) le
          refine h_back ⟨fun _ => hw, ?_⟩
          replace CL := CL.add (t := 43) (d := (.agg [.ints .u8 t6 32])) S rfl rfl
          refine h_eqa S CL hw le ⟨rfl, rfl, rfl, rfl, rfl, rfl, rfl, rfl, rfl, rfl, rfl, rfl, trivial⟩ rfl rfl Tryd.underlying37 Tryd.underlying5 T5 Q37 rfl rfl ⟨_, _, rfl, rfl, c5⟩ ?_; clear S CL a; intro a S CL
          refine h_pick S CL hw le ⟨rfl, rfl, rfl, rfl, rfl, rfl, rfl, rfl, rfl, rfl, rfl, rfl, rfl, trivial⟩ (b := true) (hc_of rfl c5) rfl rfl rfl trivial ?_; clear S CL a; intro a S CL
          refine h_move S CL hw le ⟨rfl, rfl, rfl, rfl, rfl, rfl, rfl, rfl, rfl, rfl, rfl, rfl, rfl, rfl, trivial⟩ rfl rfl rfl trivial ?_; clear S CL a; intro a S CL
          rcases ite_of h7 with ⟨c6, h8⟩ | ⟨c6, h8⟩ <;> clear h7
          · refine h_build S CL hw le ⟨rfl, rfl, rfl, rfl, rfl, rfl, rfl, rfl, rfl, rfl, rfl, rfl, rfl, rfl, rfl, trivial⟩ (ds := []) (dv := (.agg [.ints .u8 [0, 0, 0, 0, 0, 0, 0, 0, 0, 0, 0, 0, 0, 0, 0, 0, 0, 0, 0, 0, 0, 0, 0, 0, 0, 0, 0, 0, 0, 0, 0, 0] 32])) rfl (fun _ => by kernel_rfl) ⟨rfl, trivial⟩ rfl rfl ⟨_, _, rfl, rfl, c6⟩ ?_; clear S CL a; intro a S CL
            refine h_run' S rfl ⟨_, _, rfl, rfl, c6⟩ ?_
            refine s_loada S rfl (.there .here) T30 (s' := [.ints .u8 x1.1 20, .ints .u8 x1.2.1 20, .one (.bool x1.2.2.1), .one (.int .u64 x1.2.2.2.1), .ints .u64 x1.2.2.2.2.1 4, .sl ch_0_0 (x1.2.2.2.2.2.1).length ch_0_1 (RdS (Ty.int .u8) ch_0_0 x1.2.2.2.2.2.1), .one (.int .u64 x1.2.2.2.2.2.2.1), .ints .u64 x1.2.2.2.2.2.2.2.1 4, .ints .u64 x1.2.2.2.2.2.2.2.2.1 4, .one (.slice (some ⟨g16, 0, none⟩) 1 1)]) rfl rfl ?_; clear S a; intro a S
            replace hw := CL.again hw S (.cons (.there (.there (.there .here))) .nil) le
            refine h_back ⟨fun _ => hw, ?_⟩
            refine h_run' S rfl ⟨_, _, rfl, rfl, c6⟩ ?_
            replace S := S.rowfro .here
            obtain ⟨m, le1, S, hro⟩ := S
            replace le := le.trans le1
            replace S := S.slot (u := 48) (d' := (.agg [.ints .u8 x1.1 20, .ints .u8 x1.2.1 20, .one (.bool x1.2.2.1), .one (.int .u64 x1.2.2.2.1), .ints .u64 x1.2.2.2.2.1 4, .sl ch_0_0 (x1.2.2.2.2.2.1).length ch_0_1 (RdS (Ty.int .u8) ch_0_0 x1.2.2.2.2.2.1), .one (.int .u64 x1.2.2.2.2.2.2.1), .ints .u64 x1.2.2.2.2.2.2.2.1 4, .ints .u64 x1.2.2.2.2.2.2.2.2.1 4, .sl (some ⟨g16, 0, none⟩) ([([0, 0, 0, 0, 0, 0, 0, 0, 0, 0, 0, 0, 0, 0, 0, 0, 0, 0, 0, 0], List.replicate (Int.toNat (wr .i64 (65 + (wr .i64 x2)))) ([0, 0, 0, 0] : List Int))]).length 1 (RdS (Ty.prod (Ty.arr .u8 20) (Ty.slice (Ty.arr .u64 4))) (some ⟨g16, 0, none⟩) [([0, 0, 0, 0, 0, 0, 0, 0, 0, 0, 0, 0, 0, 0, 0, 0, 0, 0, 0, 0], List.replicate (Int.toNat (wr .i64 (65 + (wr .i64 x2)))) ([0, 0, 0, 0] : List Int))])])) rfl (by simp [D.val, cellsOf, Seg.cells, hro.2.1]) (by have h := (S.get 48 (.agg [.ints .u8 x1.1 20, .ints .u8 x1.2.1 20, .one (.bool x1.2.2.1), .one (.int .u64 x1.2.2.2.1), .ints .u64 x1.2.2.2.2.1 4, .sl ch_0_0 (x1.2.2.2.2.2.1).length ch_0_1 (RdS (Ty.int .u8) ch_0_0 x1.2.2.2.2.2.1), .one (.int .u64 x1.2.2.2.2.2.2.1), .ints .u64 x1.2.2.2.2.2.2.2.1 4, .ints .u64 x1.2.2.2.2.2.2.2.2.1 4, .one (.slice (some ⟨g16, 0, none⟩) 1 1)]) rfl).2; exact ⟨h.1, h.2.1, h.2.2.1, h.2.2.2.1, h.2.2.2.2.1, h.2.2.2.2.2.1, h.2.2.2.2.2.2.1, h.2.2.2.2.2.2.2.1, h.2.2.2.2.2.2.2.2.1, ⟨by have := hro.2.2.1; omega, hro.2.2.2, hro.1, RdS.mono _ _ _⟩, trivial⟩)
            replace S := S.slotro (u := 31) rfl hro
            replace S := S.cellro (s' := [.ints .u8 x1.1 20, .ints .u8 x1.2.1 20, .one (.bool x1.2.2.1), .one (.int .u64 x1.2.2.2.1), .ints .u64 x1.2.2.2.2.1 4, .sl ch_0_0 (x1.2.2.2.2.2.1).length ch_0_1 (RdS (Ty.int .u8) ch_0_0 x1.2.2.2.2.2.1), .one (.int .u64 x1.2.2.2.2.2.2.1), .ints .u64 x1.2.2.2.2.2.2.2.1 4, .ints .u64 x1.2.2.2.2.2.2.2.2.1 4, .sl (some ⟨g16, 0, none⟩) ([([0, 0, 0, 0, 0, 0, 0, 0, 0, 0, 0, 0, 0, 0, 0, 0, 0, 0, 0, 0], List.replicate (Int.toNat (wr .i64 (65 + (wr .i64 x2)))) ([0, 0, 0, 0] : List Int))]).length 1 (RdS (Ty.prod (Ty.arr .u8 20) (Ty.slice (Ty.arr .u64 4))) (some ⟨g16, 0, none⟩) [([0, 0, 0, 0, 0, 0, 0, 0, 0, 0, 0, 0, 0, 0, 0, 0, 0, 0, 0, 0], List.replicate (Int.toNat (wr .i64 (65 + (wr .i64 x2)))) ([0, 0, 0, 0] : List Int))])]) .here (by simp [cellsOf, Seg.cells, hro.2.1]) (fun h => ⟨h.1, h.2.1, h.2.2.1, h.2.2.2.1, h.2.2.2.2.1, h.2.2.2.2.2.1, h.2.2.2.2.2.2.1, h.2.2.2.2.2.2.2.1, h.2.2.2.2.2.2.2.2.1, ⟨by have := hro.2.2.1; omega, hro.2.2.2, hro.1, RdS.mono _ _ _⟩, trivial⟩)
            obtain ⟨t7, et7, h9⟩ := bind_of h8; clear h8
            refine s_callP S (fun (ch : Unit) => ((.agg [.ints .u8 t7 32]) : D)) N6 rfl rfl (tx_Hash.ok k (x1.1, x1.2.1, x1.2.2.1, x1.2.2.2.1, x1.2.2.2.2.1, x1.2.2.2.2.2.1, x1.2.2.2.2.2.2.1, x1.2.2.2.2.2.2.2.1, x1.2.2.2.2.2.2.2.2.1, [([0, 0, 0, 0, 0, 0, 0, 0, 0, 0, 0, 0, 0, 0, 0, 0, 0, 0, 0, 0], List.replicate (Int.toNat (wr .i64 (65 + (wr .i64 x2)))) ([0, 0, 0, 0] : List Int))]) ch_0_0 ch_0_1 (some ⟨g16, 0, none⟩) 1 t7 et7 _ _ (G.mono (S.leB hb))) ?_; clear S a; intro ch7 m le1 a w S
            replace le := le.trans le1
            replace hw := CL.again hw S (.cons (.there (.there .here)) .nil) le
            refine h_back ⟨fun _ => hw, ?_⟩
            replace CL := CL.add (t := 49) (d := (.agg [.ints .u8 t7 32])) S rfl rfl
            refine h_eqa S CL hw le ⟨rfl, rfl, rfl, rfl, rfl, rfl, rfl, rfl, rfl, rfl, rfl, rfl, rfl, rfl, rfl, rfl, rfl, trivial⟩ rfl rfl Tryd.underlying37 Tryd.underlying5 T5 Q37 rfl rfl ⟨_, _, rfl, rfl, c6⟩ ?_; clear S CL a; intro a S CL
            refine h_pick S CL hw le ⟨rfl, rfl, rfl, rfl, rfl, rfl, rfl, rfl, rfl, rfl, rfl, rfl, rfl, rfl, rfl, rfl, rfl, rfl, trivial⟩ (b := true) (hc_of rfl c6) rfl rfl rfl trivial ?_; clear S CL a; intro a S CL
            refine h_move S CL hw le ⟨rfl, rfl, rfl, rfl, rfl, rfl, rfl, rfl, rfl, rfl, rfl, rfl, rfl, rfl, rfl, rfl, rfl, rfl, rfl, trivial⟩ rfl rfl rfl trivial ?_; clear S CL a; intro a S CL
            rcases ite_of h9 with ⟨c7, h10⟩ | ⟨c7, h10⟩ <;> clear h9
            · refine h_run' S rfl ⟨_, _, rfl, rfl, c7⟩ ?_
              refine s_loada S rfl (.there .here) T30 (s' := [.ints .u8 x1.1 20, .ints .u8 x1.2.1 20, .one (.bool x1.2.2.1), .one (.int .u64 x1.2.2.2.1), .ints .u64 x1.2.2.2.2.1 4, .sl ch_0_0 (x1.2.2.2.2.2.1).length ch_0_1 (RdS (Ty.int .u8) ch_0_0 x1.2.2.2.2.2.1), .one (.int .u64 x1.2.2.2.2.2.2.1), .ints .u64 x1.2.2.2.2.2.2.2.1 4, .ints .u64 x1.2.2.2.2.2.2.2.2.1 4, .sl A2 (y1).length cp7 (RdS (Ty.prod (Ty.arr .u8 20) (Ty.slice (Ty.arr .u64 4))) A2 y1)]) rfl rfl ?_; clear S a; intro a S
              replace hw := CL.again hw S (.cons (.there (.there .here)) .nil) le
              refine h_back ⟨fun _ => hw, ?_⟩
              refine h_run' S rfl ⟨_, _, rfl, rfl, c7⟩ ?_
              obtain ⟨t8, et8, h11⟩ := bind_of h10; clear h10
              refine s_callP S (fun (ch : Unit) => ((.v (.int .i64 t8)) : D)) N8 rfl rfl (tx_May.ok k (x1.1, x1.2.1, x1.2.2.1, x1.2.2.2.1, x1.2.2.2.2.1, x1.2.2.2.2.2.1, x1.2.2.2.2.2.2.1, x1.2.2.2.2.2.2.2.1, x1.2.2.2.2.2.2.2.2.1, y1) ch_0_0 ch_0_1 A2 cp7 t8 et8 _ _) ?_; clear S a; intro ch8 m le1 a w S
              replace le := le.trans le1
              replace hw := CL.again hw S (.cons (.there (.there .here)) .nil) le
              refine h_back ⟨fun _ => hw, ?_⟩
              replace CL := CL.add (t := 55) (d := (.v (.int .i64 t8))) S rfl rfl
              refine h_bin S CL hw le ⟨rfl, rfl, rfl, rfl, rfl, rfl, rfl, rfl, rfl, rfl, rfl, rfl, rfl, rfl, rfl, rfl, rfl, rfl, rfl, rfl, rfl, trivial⟩ rfl rfl rfl rfl rfl ⟨_, _, rfl, rfl, c7⟩ ?_; clear S CL a; intro a S CL
              refine h_pick S CL hw le ⟨rfl, rfl, rfl, rfl, rfl, rfl, rfl, rfl, rfl, rfl, rfl, rfl, rfl, rfl, rfl, rfl, rfl, rfl, rfl, rfl, rfl, rfl, trivial⟩ (b := true) (hc_of rfl c7) rfl rfl rfl trivial ?_; clear S CL a; intro a S CL
              refine h_move S CL hw le ⟨rfl, rfl, rfl, rfl, rfl, rfl, rfl, rfl, rfl, rfl, rfl, rfl, rfl, rfl, rfl, rfl, rfl, rfl, rfl, rfl, rfl, rfl, rfl, trivial⟩ rfl rfl rfl trivial ?_; clear S CL a; intro a S CL
              rcases ite_of h11 with ⟨c8, h12⟩ | ⟨c8, h12⟩ <;> clear h11
              · refine h_run' S rfl ⟨_, _, rfl, rfl, c8⟩ ?_
                refine s_loada S rfl .here T30 (s' := [.ints .u8 x1.1 20, .ints .u8 x1.2.1 20, .one (.bool x1.2.2.1), .one (.int .u64 x1.2.2.2.1), .ints .u64 x1.2.2.2.2.1 4, .sl ch_0_0 (x1.2.2.2.2.2.1).length ch_0_1 (RdS (Ty.int .u8) ch_0_0 x1.2.2.2.2.2.1), .one (.int .u64 x1.2.2.2.2.2.2.1), .ints .u64 x1.2.2.2.2.2.2.2.1 4, .ints .u64 x1.2.2.2.2.2.2.2.2.1 4, .sl (some ⟨g16, 0, none⟩) ([([0, 0, 0, 0, 0, 0, 0, 0, 0, 0, 0, 0, 0, 0, 0, 0, 0, 0, 0, 0], List.replicate (Int.toNat (wr .i64 (65 + (wr .i64 x2)))) ([0, 0, 0, 0] : List Int))]).length 1 (RdS (Ty.prod (Ty.arr .u8 20) (Ty.slice (Ty.arr .u64 4))) (some ⟨g16, 0, none⟩) [([0, 0, 0, 0, 0, 0, 0, 0, 0, 0, 0, 0, 0, 0, 0, 0, 0, 0, 0, 0], List.replicate (Int.toNat (wr .i64 (65 + (wr .i64 x2)))) ([0, 0, 0, 0] : List Int))])]) rfl rfl ?_; clear S a; intro a S
                replace hw := CL.again hw S (.cons (.there (.there .here)) .nil) le
                refine h_back ⟨fun _ => hw, ?_⟩
                refine h_run' S rfl ⟨_, _, rfl, rfl, c8⟩ ?_
                obtain ⟨t9, et9, h13⟩ := bind_of h12; clear h12
                refine s_callP S (fun (ch : Unit) => ((.v (.int .i64 t9)) : D)) N8 rfl rfl (tx_May.ok k (x1.1, x1.2.1, x1.2.2.1, x1.2.2.2.1, x1.2.2.2.2.1, x1.2.2.2.2.2.1, x1.2.2.2.2.2.2.1, x1.2.2.2.2.2.2.2.1, x1.2.2.2.2.2.2.2.2.1, [([0, 0, 0, 0, 0, 0, 0, 0, 0, 0, 0, 0, 0, 0, 0, 0, 0, 0, 0, 0], List.replicate (Int.toNat (wr .i64 (65 + (wr .i64 x2)))) ([0, 0, 0, 0] : List Int))]) ch_0_0 ch_0_1 (some ⟨g16, 0, none⟩) 1 t9 et9 _ _) ?_; clear S a; intro ch9 m le1 a w S
                replace le := le.trans le1
                replace hw := CL.again hw S (.cons (.there (.there .here)) .nil) le
                refine h_back ⟨fun _ => hw, ?_⟩
                replace CL := CL.add (t := 60) (d := (.v (.int .i64 t9))) S rfl rfl
                refine h_bin S CL hw le ⟨rfl, rfl, rfl, rfl, rfl, rfl, rfl, rfl, rfl, rfl, rfl, rfl, rfl, rfl, rfl, rfl, rfl, rfl, rfl, rfl, rfl, rfl, rfl, rfl, rfl, trivial⟩ rfl rfl rfl rfl rfl ⟨_, _, rfl, rfl, c8⟩ ?_; clear S CL a; intro a S CL
                refine h_pick S CL hw le ⟨rfl, rfl, rfl, rfl, rfl, rfl, rfl, rfl, rfl, rfl, rfl, rfl, rfl, rfl, rfl, rfl, rfl, rfl, rfl, rfl, rfl, rfl, rfl, rfl, rfl, rfl, trivial⟩ (b := true) (hc_of rfl c8) rfl rfl rfl trivial ?_; clear S CL a; intro a S CL
                refine h_assign S CL hw le ⟨rfl, rfl, rfl, rfl, rfl, rfl, rfl, rfl, rfl, rfl, rfl, rfl, rfl, rfl, rfl, rfl, rfl, rfl, rfl, rfl, rfl, rfl, rfl, rfl, rfl, rfl, rfl, trivial⟩ rfl rfl rfl trivial ?_; clear S CL a; intro a S CL
                refine h_done ?_; clear CL hw le
                refine x_thenN ?_
                refine wp_ret ?_
                obtain rfl := Option.some.inj h13
                exact b_ret1 (d := (.v (.bool (t9 == 4)))) S rfl rfl fun ok => S.retX (Hx := []) hb _ _ (() : Unit) .nil ok
              · refine h_skipRt S rfl rfl rfl (ne_bool c8) rfl ?_; clear S a; intro a S
                replace hw := CL.again hw S (.cons (.there (.there .here)) .nil) le
                refine h_back ⟨fun _ => hw, ?_⟩
                refine h_skipRt S rfl rfl rfl (ne_bool c8) rfl ?_; clear S a; intro a S
                replace hw := CL.again hw S (.cons (.there (.there .here)) .nil) le
                refine h_back ⟨fun _ => hw, ?_⟩
                replace CL := CL.add (t := 60) (d := .u) S rfl rfl
                refine h_skip S CL rfl rfl rfl (ne_bool c8) rfl ?_; clear S CL a; intro a S CL
                refine h_pick S CL hw le ⟨rfl, rfl, rfl, rfl, rfl, rfl, rfl, rfl, rfl, rfl, rfl, rfl, rfl, rfl, rfl, rfl, rfl, rfl, rfl, rfl, rfl, rfl, rfl, rfl, rfl, rfl, trivial⟩ (b := false) (hc_of rfl c8) rfl rfl rfl trivial ?_; clear S CL a; intro a S CL
                refine h_assign S CL hw le ⟨rfl, rfl, rfl, rfl, rfl, rfl, rfl, rfl, rfl, rfl, rfl, rfl, rfl, rfl, rfl, rfl, rfl, rfl, rfl, rfl, rfl, rfl, rfl, rfl, rfl, rfl, rfl, trivial⟩ rfl rfl rfl trivial ?_; clear S CL a; intro a S CL
                refine h_done ?_; clear CL hw le
                refine x_thenN ?_
                refine wp_ret ?_
                obtain rfl := Option.some.inj h12
                exact b_ret1 (d := (.v (.bool false))) S rfl rfl fun ok => S.retX (Hx := []) hb _ _ (() : Unit) .nil ok
            · refine h_skipRt S rfl rfl rfl (ne_bool c7) rfl ?_; clear S a; intro a S
              replace hw := CL.again hw S (.cons (.there (.there .here)) .nil) le
              refine h_back ⟨fun _ => hw, ?_⟩
              refine h_skipRt S rfl rfl rfl (ne_bool c7) rfl ?_; clear S a; intro a S
              replace hw := CL.again hw S (.cons (.there (.there .here)) .nil) le
              refine h_back ⟨fun _ => hw, ?_⟩
              replace CL := CL.add (t := 55) (d := .u) S rfl rfl
              refine h_skip S CL rfl rfl rfl (ne_bool c7) rfl ?_; clear S CL a; intro a S CL
              refine h_pick S CL hw le ⟨rfl, rfl, rfl, rfl, rfl, rfl, rfl, rfl, rfl, rfl, rfl, rfl, rfl, rfl, rfl, rfl, rfl, rfl, rfl, rfl, rfl, rfl, trivial⟩ (b := false) (hc_of rfl c7) rfl rfl rfl trivial ?_; clear S CL a; intro a S CL
              refine h_move S CL hw le ⟨rfl, rfl, rfl, rfl, rfl, rfl, rfl, rfl, rfl, rfl, rfl, rfl, rfl, rfl, rfl, rfl, rfl, rfl, rfl, rfl, rfl, rfl, rfl, trivial⟩ rfl rfl rfl trivial ?_; clear S CL a; intro a S CL
              refine h_skipRt S rfl rfl rfl (ne_bool rfl) rfl ?_; clear S a; intro a S
              replace hw := CL.again hw S (.cons (.there (.there .here)) .nil) le
              refine h_back ⟨fun _ => hw, ?_⟩
              refine h_skipRt S rfl rfl rfl (ne_bool rfl) rfl ?_; clear S a; intro a S
              replace hw := CL.again hw S (.cons (.there (.there .here)) .nil) le
              refine h_back ⟨fun _ => hw, ?_⟩
              replace CL := CL.add (t := 60) (d := .u) S rfl rfl
              refine h_skip S CL rfl rfl rfl (ne_bool rfl) rfl ?_; clear S CL a; intro a S CL
              refine h_pick S CL hw le ⟨rfl, rfl, rfl, rfl, rfl, rfl, rfl, rfl, rfl, rfl, rfl, rfl, rfl, rfl, rfl, rfl, rfl, rfl, rfl, rfl, rfl, rfl, rfl, rfl, rfl, rfl, trivial⟩ (b := false) (hc_of rfl rfl) rfl rfl rfl trivial ?_; clear S CL a; intro a S CL
              refine h_assign S CL hw le ⟨rfl, rfl, rfl, rfl, rfl, rfl, rfl, rfl, rfl, rfl, rfl, rfl, rfl, rfl, rfl, rfl, rfl, rfl, rfl, rfl, rfl, rfl, rfl, rfl, rfl, rfl, rfl, trivial⟩ rfl rfl rfl trivial ?_; clear S CL a; intro a S CL
              refine h_done ?_; clear CL hw le
              refine x_thenN ?_
              refine wp_ret ?_
              obtain rfl := Option.some.inj h10
              exact b_ret1 (d := (.v (.bool false))) S rfl rfl fun ok => S.retX (Hx := []) hb _ _ (() : Unit) .nil ok
          · refine h_skip S CL rfl rfl rfl (ne_bool c6) rfl ?_; clear S CL a; intro a S CL
            refine h_skipRt S rfl rfl rfl (ne_bool c6) rfl ?_; clear S a; intro a S
            replace hw := CL.again hw S (.cons (.there (.there (.there .here))) .nil) le
            refine h_back ⟨fun _ => hw, ?_⟩
            refine h_skipRt S rfl rfl rfl (ne_bool c6) rfl ?_; clear S a; intro a S
            replace hw := CL.again hw S (.cons (.there (.there (.there .here))) .nil) le
            refine h_back ⟨fun _ => hw, ?_⟩
            replace CL := CL.add (t := 49) (d := .u) S rfl rfl
            refine h_skip S CL rfl rfl rfl (ne_bool c6) rfl ?_; clear S CL a; intro a S CL
            refine h_pick S CL hw le ⟨rfl, rfl, rfl, rfl, rfl, rfl, rfl, rfl, rfl, rfl, rfl, rfl, rfl, rfl, rfl, rfl, rfl, rfl, trivial⟩ (b := false) (hc_of rfl c6) rfl rfl rfl trivial ?_; clear S CL a; intro a S CL
            refine h_move S CL hw le ⟨rfl, rfl, rfl, rfl, rfl, rfl, rfl, rfl, rfl, rfl, rfl, rfl, rfl, rfl, rfl, rfl, rfl, rfl, rfl, trivial⟩ rfl rfl rfl trivial ?_; clear S CL a; intro a S CL
            refine h_skipRt S rfl rfl rfl (ne_bool rfl) rfl ?_; clear S a; intro a S
            replace hw := CL.again hw S (.cons (.there (.there (.there .here))) .nil) le
            refine h_back ⟨fun _ => hw, ?_⟩
            refine h_skipRt S rfl rfl rfl (ne_bool rfl) rfl ?_; clear S a; intro a S
            replace hw := CL.again hw S (.cons (.there (.there (.there .here))) .nil) le
            refine h_back ⟨fun _ => hw, ?_⟩
            replace CL := CL.add (t := 55) (d := .u) S rfl rfl
            refine h_skip S CL rfl rfl rfl (ne_bool rfl) rfl ?_; clear S CL a; intro a S CL
            refine h_pick S CL hw le ⟨rfl, rfl, rfl, rfl, rfl, rfl, rfl, rfl, rfl, rfl, rfl, rfl, rfl, rfl, rfl, rfl, rfl, rfl, rfl, rfl, rfl, rfl, trivial⟩ (b := false) (hc_of rfl rfl) rfl rfl rfl trivial ?_; clear S CL a; intro a S CL
            refine h_move S CL hw le ⟨rfl, rfl, rfl, rfl, rfl, rfl, rfl, rfl, rfl, rfl, rfl, rfl, rfl, rfl, rfl, rfl, rfl, rfl, rfl, rfl, rfl, rfl, rfl, trivial⟩ rfl rfl rfl trivial ?_; clear S CL a; intro a S CL
            refine h_skipRt S rfl rfl rfl (ne_bool rfl) rfl ?_; clear S a; intro a S
            replace hw := CL.again hw S (.cons (.there (.there (.there .here))) .nil) le
            refine h_back ⟨fun _ => hw, ?_⟩
            refine h_skipRt S rfl rfl rfl (ne_bool rfl) rfl ?_; clear S a; intro a S
            replace hw := CL.again hw S (.cons (.there (.there (.there .here))) .nil) le
            refine h_back ⟨fun _ => hw, ?_⟩
            replace CL := CL.add (t := 60) (d := .u) S rfl rfl
            refine h_skip S CL rfl rfl rfl (ne_bool rfl) rfl ?_; clear S CL a; intro a S CL
            refine h_pick S CL hw le ⟨rfl, rfl, rfl, rfl, rfl, rfl, rfl, rfl, rfl, rfl, rfl, rfl, rfl, rfl, rfl, rfl, rfl, rfl, rfl, rfl, rfl, rfl, rfl, rfl, rfl, rfl, trivial⟩ (b := false) (hc_of rfl rfl) rfl rfl rfl trivial ?_; clear S CL a; intro a S CL
            refine h_assign S CL hw le ⟨rfl, rfl, rfl, rfl, rfl, rfl, rfl, rfl, rfl, rfl, rfl, rfl, rfl, rfl, rfl, rfl, rfl, rfl, rfl, rfl, rfl, rfl, rfl, rfl, rfl, rfl, rfl, trivial⟩ rfl rfl rfl trivial ?_; clear S CL a; intro a S CL
            refine h_done ?_; clear CL hw le
            refine x_thenN ?_
            refine wp_ret ?_
            obtain rfl := Option.some.inj h8
            exact b_ret1 (d := (.v (.bool false))) S rfl rfl fun ok => S.retX (Hx := []) hb _ _ (() : Unit) .nil ok
        · refine h_skip S CL rfl rfl rfl (ne_bool c5) rfl ?_; clear S CL a; intro a S CL
          refine h_skipRt S rfl rfl rfl (ne_bool c5) rfl ?_; clear S a; intro a S
          replace hw := CL.again hw S (.cons (.there (.there (.there (.there .here)))) .nil) le
          refine h_back ⟨fun _ => hw, ?_⟩
          refine h_skipRt S rfl rfl rfl (ne_bool c5) rfl ?_; clear S a; intro a S
          replace hw := CL.again hw S (.cons (.there (.there (.there (.there .here)))) .nil) le
          refine h_back ⟨fun _ => hw, ?_⟩
          replace CL := CL.add (t := 43) (d := .u) S rfl rfl
          refine h_skip S CL rfl rfl rfl (ne_bool c5) rfl ?_; clear S CL a; intro a S CL
          refine h_pick S CL hw le ⟨rfl, rfl, rfl, rfl, rfl, rfl, rfl, rfl, rfl, rfl, rfl, rfl, rfl, trivial⟩ (b := false) (hc_of rfl c5) rfl rfl rfl trivial ?_; clear S CL a; intro a S CL
          refine h_move S CL hw le ⟨rfl, rfl, rfl, rfl, rfl, rfl, rfl, rfl, rfl, rfl, rfl, rfl, rfl, rfl, trivial⟩ rfl rfl rfl trivial ?_; clear S CL a; intro a S CL
          refine h_skip S CL rfl rfl rfl (ne_bool rfl) rfl ?_; clear S CL a; intro a S CL
          refine h_skipRt S rfl rfl rfl (ne_bool rfl) rfl ?_; clear S a; intro a S
          replace hw := CL.again hw S (.cons (.there (.there (.there (.there .here)))) .nil) le
          refine h_back ⟨fun _ => hw, ?_⟩
          refine h_skipRt S rfl rfl rfl (ne_bool rfl) rfl ?_; clear S a; intro a S
          replace hw := CL.again hw S (.cons (.there (.there (.there (.there .here)))) .nil) le
          refine h_back ⟨fun _ => hw, ?_⟩
          replace CL := CL.add (t := 49) (d := .u) S rfl rfl
          refine h_skip S CL rfl rfl rfl (ne_bool rfl) rfl ?_; clear S CL a; intro a S CL
          refine h_pick S CL hw le ⟨rfl, rfl, rfl, rfl, rfl, rfl, rfl, rfl, rfl, rfl, rfl, rfl, rfl, rfl, rfl, rfl, rfl, rfl, trivial⟩ (b := false) (hc_of rfl rfl) rfl rfl rfl trivial ?_; clear S CL a; intro a S CL
          refine h_move S CL hw le ⟨rfl, rfl, rfl, rfl, rfl, rfl, rfl, rfl, rfl, rfl, rfl, rfl, rfl, rfl, rfl, rfl, rfl, rfl, rfl, trivial⟩ rfl rfl rfl trivial ?_; clear S CL a; intro a S CL
          refine h_skipRt S rfl rfl rfl (ne_bool rfl) rfl ?_; clear S a; intro a S
          replace hw := CL.again hw S (.cons (.there (.there (.there (.there .here)))) .nil) le
          refine h_back ⟨fun _ => hw, ?_⟩
          refine h_skipRt S rfl rfl rfl (ne_bool rfl) rfl ?_; clear S a; intro a S
          replace hw := CL.again hw S (.cons (.there (.there (.there (.there .here)))) .nil) le
          refine h_back ⟨fun _ => hw, ?_⟩
          replace CL := CL.add (t := 55) (d := .u) S rfl rfl
          refine h_skip S CL rfl rfl rfl (ne_bool rfl) rfl ?_; clear S CL a; intro a S CL
          refine h_pick S CL hw le ⟨rfl, rfl, rfl, rfl, rfl, rfl, rfl, rfl, rfl, rfl, rfl, rfl, rfl, rfl, rfl, rfl, rfl, rfl, rfl, rfl, rfl, rfl, trivial⟩ (b := false) (hc_of rfl rfl) rfl rfl rfl trivial ?_; clear S CL a; intro a S CL
          refine h_move S CL hw le ⟨rfl, rfl, rfl, rfl, rfl, rfl, rfl, rfl, rfl, rfl, rfl, rfl, rfl, rfl, rfl, rfl, rfl, rfl, rfl, rfl, rfl, rfl, rfl, trivial⟩ rfl rfl rfl trivial ?_; clear S CL a; intro a S CL
          refine h_skipRt S rfl rfl rfl (ne_bool rfl) rfl ?_; clear S a; intro a S
          replace hw := CL.again hw S (.cons (.there (.there (.there (.there .here)))) .nil) le
          refine h_back ⟨fun _ => hw, ?_⟩
          refine h_skipRt S rfl rfl rfl (ne_bool rfl) rfl ?_; clear S a; intro a S
          replace hw := CL.again hw S (.cons (.there (.there (.there (.there .here)))) .nil) le
          refine h_back ⟨fun _ => hw, ?_⟩
          replace CL := CL.add (t := 60) (d := .u) S rfl rfl
          refine h_skip S CL rfl rfl rfl (ne_bool rfl) rfl ?_; clear S CL a; intro a S CL
          refine h_pick S CL hw le ⟨rfl, rfl, rfl, rfl, rfl, rfl, rfl, rfl, rfl, rfl, rfl, rfl, rfl, rfl, rfl, rfl, rfl, rfl, rfl, rfl, rfl, rfl, rfl, rfl, rfl, rfl, trivial⟩ (b := false) (hc_of rfl rfl) rfl rfl rfl trivial ?_; clear S CL a; intro a S CL
          refine h_assign S CL hw le ⟨rfl, rfl, rfl, rfl, rfl, rfl, rfl, rfl, rfl, rfl, rfl, rfl, rfl, rfl, rfl, rfl, rfl, rfl, rfl, rfl, rfl, rfl, rfl, rfl, rfl, rfl, rfl, trivial⟩ rfl rfl rfl trivial ?_; clear S CL a; intro a S CL
          refine h_done ?_; clear CL hw le
          refine x_thenN ?_
          refine wp_ret ?_
          obtain rfl := Option.some.inj h6
          exact b_ret1 (d := (.v (.bool false))) S rfl rfl fun ok => S.retX (Hx := []) hb _ _ (() : Unit) .nil ok
      · refine h_skip S CL rfl rfl rfl (ne_bool c4) rfl ?_; clear S CL a; intro a S CL
        refine h_skip S CL rfl rfl rfl (ne_bool c4) rfl ?_; clear S CL a; intro a S CL
        refine h_skipRt S rfl rfl rfl (ne_bool c4) rfl ?_; clear S a; intro a S
        replace hw := CL.again hw S (.cons (.there (.there (.there (.there .here)))) .nil) le
        refine h_back ⟨fun _ => hw, ?_⟩
        replace CL := CL.add (t := 36) (d := .u) S rfl rfl
        refine h_skipRt S rfl rfl rfl (ne_bool c4) rfl ?_; clear S a; intro a S
        replace hw := CL.again hw S (.cons (.there (.there (.there (.there .here)))) .nil) le
        refine h_back ⟨fun _ => hw, ?_⟩
        replace CL := CL.add (t := 38) (d := .u) S rfl rfl
        refine h_skip S CL rfl rfl rfl (ne_bool c4) rfl ?_; clear S CL a; intro a S CL
        refine h_pick S CL hw le ⟨rfl, rfl, rfl, rfl, rfl, rfl, rfl, rfl, trivial⟩ (b := false) (hc_of rfl c4) rfl rfl rfl trivial ?_; clear S CL a; intro a S CL
        refine h_move S CL hw le ⟨rfl, rfl, rfl, rfl, rfl, rfl, rfl, rfl, rfl, trivial⟩ rfl rfl rfl trivial ?_; clear S CL a; intro a S CL
        refine h_skip S CL rfl rfl rfl (ne_bool rfl) rfl ?_; clear S CL a; intro a S CL
        refine h_skipRt S rfl rfl rfl (ne_bool rfl) rfl ?_; clear S a; intro a S
        replace hw := CL.again hw S (.cons (.there (.there (.there (.there .here)))) .nil) le
        refine h_back ⟨fun _ => hw, ?_⟩
        refine h_skipRt S rfl rfl rfl (ne_bool rfl) rfl ?_; clear S a; intro a S
        replace hw := CL.again hw S (.cons (.there (.there (.there (.there .here)))) .nil) le
        refine h_back ⟨fun _ => hw, ?_⟩
        replace CL := CL.add (t := 43) (d := .u) S rfl rfl
        refine h_skip S CL rfl rfl rfl (ne_bool rfl) rfl ?_; clear S CL a; intro a S CL
        refine h_pick S CL hw le ⟨rfl, rfl, rfl, rfl, rfl, rfl, rfl, rfl, rfl, rfl, rfl, rfl, rfl, trivial⟩ (b := false) (hc_of rfl rfl) rfl rfl rfl trivial ?_; clear S CL a; intro a S CL
        refine h_move S CL hw le ⟨rfl, rfl, rfl, rfl, rfl, rfl, rfl, rfl, rfl, rfl, rfl, rfl, rfl, rfl, trivial⟩ rfl rfl rfl trivial ?_; clear S CL a; intro a S CL
        refine h_skip S CL rfl rfl rfl (ne_bool rfl) rfl ?_; clear S CL a; intro a S CL
        refine h_skipRt S rfl rfl rfl (ne_bool rfl) rfl ?_; clear S a; intro a S
        replace hw := CL.again hw S (.cons (.there (.there (.there (.there .here)))) .nil) le
        refine h_back ⟨fun _ => hw, ?_⟩
        refine h_skipRt S rfl rfl rfl (ne_bool rfl) rfl ?_; clear S a; intro a S
        replace hw := CL.again hw S (.cons (.there (.there (.there (.there .here)))) .nil) le
        refine h_back ⟨fun _ => hw, ?_⟩
        replace CL := CL.add (t := 49) (d := .u) S rfl rfl
        refine h_skip S CL rfl rfl rfl (ne_bool rfl) rfl ?_; clear S CL a; intro a S CL
        refine h_pick S CL hw le ⟨rfl, rfl, rfl, rfl, rfl, rfl, rfl, rfl, rfl, rfl, rfl, rfl, rfl, rfl, rfl, rfl, rfl, rfl, trivial⟩ (b := false) (hc_of rfl rfl) rfl rfl rfl trivial ?_; clear S CL a; intro a S CL
        refine h_move S CL hw le ⟨rfl, rfl, rfl, rfl, rfl, rfl, rfl, rfl, rfl, rfl, rfl, rfl, rfl, rfl, rfl, rfl, rfl, rfl, rfl, trivial⟩ rfl rfl rfl trivial ?_; clear S CL a; intro a S CL
        refine h_skipRt S rfl rfl rfl (ne_bool rfl) rfl ?_; clear S a; intro a S
        replace hw := CL.again hw S (.cons (.there (.there (.there (.there .here)))) .nil) le
        refine h_back ⟨fun _ => hw, ?_⟩
        refine h_skipRt S rfl rfl rfl (ne_bool rfl) rfl ?_; clear S a; intro a S
        replace hw := CL.again hw S (.cons (.there (.there (.there (.there .here)))) .nil) le
        refine h_back ⟨fun _ => hw, ?_⟩
        replace CL := CL.add (t := 55) (d := .u) S rfl rfl
        refine h_skip S CL rfl rfl rfl (ne_bool rfl) rfl ?_; clear S CL a; intro a S CL
        refine h_pick S CL hw le ⟨rfl, rfl, rfl, rfl, rfl, rfl, rfl, rfl, rfl, rfl, rfl, rfl, rfl, rfl, rfl, rfl, rfl, rfl, rfl, rfl, rfl, rfl, trivial⟩ (b := false) (hc_of rfl rfl) rfl rfl rfl trivial ?_; clear S CL a; intro a S CL
        refine h_move S CL hw le ⟨rfl, rfl, rfl, rfl, rfl, rfl, rfl, rfl, rfl, rfl, rfl, rfl, rfl, rfl, rfl, rfl, rfl, rfl, rfl, rfl, rfl, rfl, rfl, trivial⟩ rfl rfl rfl trivial ?_; clear S CL a; intro a S CL
        refine h_skipRt S rfl rfl rfl (ne_bool rfl) rfl ?_; clear S a; intro a S
        replace hw := CL.again hw S (.cons (.there (.there (.there (.there .here)))) .nil) le
        refine h_back ⟨fun _ => hw, ?_⟩
        refine h_skipRt S rfl rfl rfl (ne_bool rfl) rfl ?_; clear S a; intro a S
        replace hw := CL.again hw S (.cons (.there (.there (.there (.there .here)))) .nil) le
        refine h_back ⟨fun _ => hw, ?_⟩
        replace CL := CL.add (t := 60) (d := .u) S rfl rfl
        refine h_skip S CL rfl rfl rfl (ne_bool rfl) rfl ?_; clear S CL a; intro a S CL
        refine h_pick S CL hw le ⟨rfl, rfl, rfl, rfl, rfl, rfl, rfl, rfl, rfl, rfl, rfl, rfl, rfl, rfl, rfl, rfl, rfl, rfl, rfl, rfl, rfl, rfl, rfl, rfl, rfl, rfl, trivial⟩ (b := false) (hc_of rfl rfl) rfl rfl rfl trivial ?_; clear S CL a; intro a S CL
        refine h_assign S CL hw le ⟨rfl, rfl, rfl, rfl, rfl, rfl, rfl, rfl, rfl, rfl, rfl, rfl, rfl, rfl, rfl, rfl, rfl, rfl, rfl, rfl, rfl, rfl, rfl, rfl, rfl, rfl, rfl, trivial⟩ rfl rfl rfl trivial ?_; clear S CL a; intro a S CL
        refine h_done ?_; clear CL hw le
        refine x_thenN ?_
        refine wp_ret ?_
        obtain rfl := Option.some.inj h3
        exact b_ret1 (d := (.v (.bool false))) S rfl rfl fun ok => S.retX (Hx := []) hb _ _ (() : Unit) .nil ok
    refine c_region ?_
    refine s_move S rfl rfl ?_; clear S a; intro a S
    refine c_end ?_
    refine wp_block ?_
    refine c_loop (fun q1 a w => ∃ (m : Mem) (y4 : Int) (g23 : Nat) (g24 : Nat) (A3 : Option Addr) (nn3 : Nat) (cp12 : Nat) (y5 : List ((List Int) × (List (List Int)))), St 63 m b0 [(16, (.v (.int .i64 y4))), (5, (.v (.pointer (some ⟨g23, 0, none⟩)))), (2, (.v (.pointer (some ⟨g24, 0, none⟩)))), (1, (.v (.int .u8 x2)))] [Res.row (Ty.prod (Ty.arr .u8 20) (Ty.slice (Ty.arr .u64 4))) 35 A3 nn3 cp12 y5, Res.cells g23 30 [.ints .u8 x1.1 20, .ints .u8 x1.2.1 20, .one (.bool x1.2.2.1), .one (.int .u64 x1.2.2.2.1), .ints .u64 x1.2.2.2.2.1 4, .sl ch_0_0 (x1.2.2.2.2.2.1).length ch_0_1 (RdS (Ty.int .u8) ch_0_0 x1.2.2.2.2.2.1), .one (.int .u64 x1.2.2.2.2.2.2.1), .ints .u64 x1.2.2.2.2.2.2.2.1 4, .ints .u64 x1.2.2.2.2.2.2.2.2.1 4, .one (.slice A3 nn3 cp12)], Res.cells g24 30 [.ints .u8 x1.1 20, .ints .u8 x1.2.1 20, .one (.bool x1.2.2.1), .one (.int .u64 x1.2.2.2.1), .ints .u64 x1.2.2.2.2.1 4, .sl ch_0_0 (x1.2.2.2.2.2.1).length ch_0_1 (RdS (Ty.int .u8) ch_0_0 x1.2.2.2.2.2.1), .one (.int .u64 x1.2.2.2.2.2.2.1), .ints .u64 x1.2.2.2.2.2.2.2.1 4, .ints .u64 x1.2.2.2.2.2.2.2.2.1 4, .sl ch_0_2 (x1.2.2.2.2.2.2.2.2.2).length ch_0_3 (RdS (Ty.prod (Ty.arr .u8 20) (Ty.slice (Ty.arr .u64 4))) ch_0_2 x1.2.2.2.2.2.2.2.2.2)]] a w ∧ smithylaw19_TxHashes.l1 k x1 x2 q1 y4 y5 = some r) ?_ ?_ (k := k) ⟨_, 0, g2, g1, A1, (0 + ((x1.2.2.2.2.2.2.2.2.2).length)), cp1, (([] : List ((List Int) × (List (List Int)))) ++ x1.2.2.2.2.2.2.2.2.2), (S.sub ⟨rfl, rfl, rfl, rfl, trivial⟩ (.cons .here (.cons .here (.cons .here .nil)))), h3⟩
    · rintro a w ⟨m, y4, g23, g24, A3, nn3, cp12, y5, S, h0⟩
      exact (nomatch (show (none : Option Bool) = some r from h0))
    · clear S h3
      rintro q1 a w ⟨m, y4, g23, g24, A3, nn3, cp12, y5, S, h0⟩
      replace h0 : smithylaw19_TxHashes.b1 k x1 x2 (smithylaw19_TxHashes.l1 k x1 x2 q1) y4 y5 = some r := h0
      delta smithylaw19_TxHashes.b1 at h0
      refine c_region ?_
      refine s_bin S rfl rfl rfl rfl ?_; clear S a; intro a S
      refine c_end ?_
      refine wp_seq ?_
      rcases ite_of h0 with ⟨c9, h1⟩ | ⟨c9, h1⟩ <;> clear h0
      · refine c_condT S rfl c9 ?_
        refine wp_skip ?_
        refine x_thenN ?_
        refine wp_seq ?_
        refine wp_block ?_
        refine c_region' ?_
        refine s_fieldAddr S rfl I30_9 T28 (by decide) rfl rfl ?_; clear S a; intro a S
        refine s_load1 S rfl (.there .here) T28 (v := (.slice A3 nn3 cp12)) rfl rfl ?_; clear S a; intro a S
        refine s_bldS S (ds := []) (zs := [.ints .u8 [0, 0, 0, 0, 0, 0, 0, 0, 0, 0, 0, 0, 0, 0, 0, 0, 0, 0, 0, 0] 20, .one (.slice none 0 0)]) (s' := [.ints .u8 [0, 0, 0, 0, 0, 0, 0, 0, 0, 0, 0, 0, 0, 0, 0, 0, 0, 0, 0, 0] 20, .one (.slice none 0 0)]) rfl Tryd.underlying35 P35 Z35 ⟨rfl, rfl, trivial⟩ rfl rfl ?_; clear S a; intro a S
        replace S := S.slot (u := 20) (d' := (.agg [.ints .u8 [0, 0, 0, 0, 0, 0, 0, 0, 0, 0, 0, 0, 0, 0, 0, 0, 0, 0, 0, 0] 20, .sl none (([] : List (List Int))).length 0 (RdS (Ty.arr .u64 4) none ([] : List (List Int)))])) rfl rfl (by have h := (S.get 20 (.agg [.ints .u8 [0, 0, 0, 0, 0, 0, 0, 0, 0, 0, 0, 0, 0, 0, 0, 0, 0, 0, 0, 0] 20, .one (.slice none 0 0)]) rfl).2; exact ⟨h.1, ok_nil, trivial⟩)
        refine s_bldSl S (ty' := (Ty.prod (Ty.arr .u8 20) (Ty.slice (Ty.arr .u64 4)))) (ds := [(0, (.agg [.ints .u8 [0, 0, 0, 0, 0, 0, 0, 0, 0, 0, 0, 0, 0, 0, 0, 0, 0, 0, 0, 0] 20, .sl none (([] : List (List Int))).length 0 (RdS (Ty.arr .u64 4) none ([] : List (List Int)))]))]) (z := ([0, 0, 0, 0, 0, 0, 0, 0, 0, 0, 0, 0, 0, 0, 0, 0, 0, 0, 0, 0], ([] : List (List Int)))) (c0 := ((), (none, 0))) (ys := [([0, 0, 0, 0, 0, 0, 0, 0, 0, 0, 0, 0, 0, 0, 0, 0, 0, 0, 0, 0], ([] : List (List Int)))]) (cs := [((), (none, 0))]) rfl Tryd.underlying28 J35 Z35 rfl ⟨rfl, ⟨Nat.le_refl _, Nat.zero_le _, RdS.nil _ _ _, RdS.mono _ _ _⟩, trivial⟩ rfl rfl rfl rfl rfl rfl ?_; clear S a w; intro g25 a w S
        obtain ⟨c10, h2⟩ := chk_of h1; clear h1
        refine s_app S (k2 := 1) (ys := [([0, 0, 0, 0, 0, 0, 0, 0, 0, 0, 0, 0, 0, 0, 0, 0, 0, 0, 0, 0], ([] : List (List Int)))]) rfl (fun _ _ => (.there .here)) rfl rfl (S.holds _ (Pull.mem .here).1).1 (Res.row.src (S.holds _ (Pull.mem .here).1)) Tryd.underlying28 J35 c10 rfl ?_; clear S a w; intro A4 cp13 a w S
        refine s_fieldAddr S rfl I30_9 T28 (by decide) rfl rfl ?_; clear S a; intro a S
        refine s_store S rfl rfl rfl (s' := [.ints .u8 x1.1 20, .ints .u8 x1.2.1 20, .one (.bool x1.2.2.1), .one (.int .u64 x1.2.2.2.1), .ints .u64 x1.2.2.2.2.1 4, .sl ch_0_0 (x1.2.2.2.2.2.1).length ch_0_1 (RdS (Ty.int .u8) ch_0_0 x1.2.2.2.2.2.1), .one (.int .u64 x1.2.2.2.2.2.2.1), .ints .u64 x1.2.2.2.2.2.2.2.1 4, .ints .u64 x1.2.2.2.2.2.2.2.2.1 4, .one (.slice A4 (nn3 + 1) cp13)]) (.there (.there .here)) T28 rfl rfl ?_; clear S w; intro w S
        refine c_end' ?_
        refine x_blockN ?_
        refine x_thenN ?_
        refine c_region' ?_
        refine s_bin S rfl rfl rfl rfl ?_; clear S a; intro a S
        refine s_move S rfl rfl ?_; clear S a; intro a S
        refine c_end' ?_
        refine x_thenN ?_
        exact ⟨_, (wr .i64 (y4 + 1)), g23, g24, A4, (nn3 + 1), cp13, (y5 ++ [([0, 0, 0, 0, 0, 0, 0, 0, 0, 0, 0, 0, 0, 0, 0, 0, 0, 0, 0, 0], ([] : List (List Int)))]), (S.sub ⟨rfl, rfl, rfl, rfl, trivial⟩ (.cons (.there .here) (.cons (.there .here) (.cons (.there .here) .nil)))), h2⟩
      · refine c_condF S rfl c9 ?_
        refine wp_exit ?_
        refine x_thenX ?_
        refine x_thenX ?_
        refine x_blockX ?_
        refine x_thenN ?_
        exact j1 _ g23 g24 A3 nn3 cp12 y5 a w (S.sub ⟨rfl, rfl, rfl, trivial⟩ (.cons .here (.cons .here (.cons .here .nil)))) h1
end GW
