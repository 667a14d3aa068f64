/-
  Printed by a program of these sessions (wip/gw/gx.py): for each Go function a Lean function with the same answers, and the walk that shows it.
-/
import Derived.Test.YtcpinokfhfmilaaProg
import Derived.Test.YtcpinokfhfmilaaGE
set_option linter.unusedVariables false
set_option maxRecDepth 10000
namespace GW
open Go Go.RowKit Go.Proofs
/-! smithy/smithylaw10.MemNil -/
abbrev smithylaw10_MemNil.Ty : Type := (Int × Int × Int × Int × (List Int) × (List Int) × (List Int)) → Option Bool
def smithylaw10_MemNil.Ctr (s : smithylaw10_MemNil.Ty) : Prop := ∀ (x1 : Int × Int × Int × Int × (List Int) × (List Int) × (List Int)) (ch_0_0 : Option Addr) (ch_0_1 : Nat) (r : Bool) (h0 : s x1 = some r) (mi : Mem) (w0 : World), okL mi [(.agg [.one (.int .i64 x1.1), .one (.int .i64 x1.2.1), .one (.int .i64 x1.2.2.1), .one (.int .i64 x1.2.2.2.1), .ints .u64 x1.2.2.2.2.1 4, .ints .u64 x1.2.2.2.2.2.1 4, .sl ch_0_0 (x1.2.2.2.2.2.2).length ch_0_1 (RdS (Ty.int .u8) ch_0_0 x1.2.2.2.2.2.2)])] → Pre mi [] w0 → Calls Try.prog 9 (([(.agg [.one (.int .i64 x1.1), .one (.int .i64 x1.2.1), .one (.int .i64 x1.2.2.1), .one (.int .i64 x1.2.2.2.1), .ints .u64 x1.2.2.2.2.1 4, .ints .u64 x1.2.2.2.2.2.1 4, .sl ch_0_0 (x1.2.2.2.2.2.2).length ch_0_1 (RdS (Ty.int .u8) ch_0_0 x1.2.2.2.2.2.2)])] : List D).map D.val).toArray w0 (RetX mi [] (fun (ch : Unit) => ((.v (.bool r)) : D)) (fun (ch : Unit) => []) w0)
def smithylaw10_MemNil.f (k : Nat) (x1 : Int × Int × Int × Int × (List Int) × (List Int) × (List Int)) : Option Bool := if (decide (1000 < ((x1.2.2.2.2.2.2).length : Int))) = true then ((smithylaw10_fixed.f).bind fun t1 => (some t1)) else ((mem_Memory_Cost_0nil.f x1.2.2.2.2.1 x1.2.2.2.2.2.1).bind fun t2 => ((mem_Memory_Write_0nil.f x1.2.1 x1.2.2.2.2.2.2).bind fun t3 => ((mem_Memory_Copy_0nil.f x1.2.1 x1.2.2.1 x1.2.2.2.1).bind fun t4 => ((mem_Memory_SetWord_0nil.f k x1.2.1 x1.2.2.2.2.1).bind fun t5 => ((mem_Stack_Pop_0nil.f).bind fun t6 => ((smithylaw10_fixed.f).bind fun t7 => (if t7 = true then ((mem_Memory_Len_0nil.f).bind fun t8 => (if (t8 == 0) = true then (if (t2.1 == 0) = true then (if (!t2.2) = true then ((mem_Memory_Reach_0nil.f x1.2.2.2.2.1 x1.2.2.2.2.2.1).bind fun t9 => (if (!t9) = true then ((mem_Memory_Read_0nil.f x1.2.1 x1.2.2.2.1).bind fun t10 => (if (((t10).length : Int) == 0) = true then ((mem_Memory_Word_0nil.f k x1.2.1).bind fun t11 => ((smithyref01_D_Word.f k [0, 0, 0, 0, 0, 0, 0, 0, 0, 0, 0, 0, 0, 0, 0, 0, 0, 0, 0, 0, 0, 0, 0, 0, 0, 0, 0, 0, 0, 0, 0, 0]).bind fun t12 => (if (decide (t11 = t12)) = true then ((mem_Stack_Len_0nil.f).bind fun t13 => (if (t13 == 0) = true then ((mem_Stack_Push_0nil.f x1.2.2.2.2.1).bind fun t14 => (if (!t14) = true then (if (decide (t6.1 = [0, 0, 0, 0])) = true then (if (!t6.2) = true then ((mem_Stack_Dup_0nil.f x1.2.1).bind fun t15 => (if (!t15) = true then ((mem_Stack_Swap_0nil.f x1.2.1).bind fun t16 => (if (!t16) = true then ((mem_Stack_All_0nil.f).bind fun t17 => (some (((t17).length : Int) == 0))) else (some false))) else (some false))) else (some false)) else (some false)) else (some false))) else (some false))) else (some false)))) else (some false))) else (some false))) else (some false)) else (some false)) else (some false))) else (some false))))))))
theorem smithylaw10_MemNil.ok (k : Nat) : smithylaw10_MemNil.Ctr (smithylaw10_MemNil.f k) := by
  intro x1 ch_0_0 ch_0_1 r h0 mi w0 ok hm
  delta smithylaw10_MemNil.f at h0
  refine c_enterX (n := 131) [(.agg [.one (.int .i64 x1.1), .one (.int .i64 x1.2.1), .one (.int .i64 x1.2.2.1), .one (.int .i64 x1.2.2.2.1), .ints .u64 x1.2.2.2.2.1 4, .ints .u64 x1.2.2.2.2.2.1 4, .sl ch_0_0 (x1.2.2.2.2.2.2).length ch_0_1 (RdS (Ty.int .u8) ch_0_0 x1.2.2.2.2.2.2)])] (l := [(0, (.agg [.one (.int .i64 x1.1), .one (.int .i64 x1.2.1), .one (.int .i64 x1.2.2.1), .one (.int .i64 x1.2.2.2.1), .ints .u64 x1.2.2.2.2.1 4, .ints .u64 x1.2.2.2.2.2.1 4, .sl ch_0_0 (x1.2.2.2.2.2.2).length ch_0_1 (RdS (Ty.int .u8) ch_0_0 x1.2.2.2.2.2.2)]))]) Try.func9 rfl rfl rfl rfl ok hm ?_
  clear ok hm
  intro b0 hb a S
  refine c_region ?_
  refine s_box S rfl rfl rfl ?_; clear S a; intro g1 a w S
  refine s_assign S rfl rfl ?_; clear S a; intro a S
  refine c_end ?_
  refine wp_seq ?_
  refine c_region ?_
  refine s_fieldAddr S rfl I40_6 T38 (by decide) rfl rfl ?_; clear S a; intro a S
  refine s_loadSl S rfl .here T38 (A := ch_0_0) (len := (x1.2.2.2.2.2.2).length) (cap := ch_0_1) rfl rfl ?_; clear S a; intro a S
  refine s_lenS S rfl Try.underlying38 rfl ?_; clear S a; intro a S
  refine s_bin S rfl rfl rfl rfl ?_; clear S a; intro a S
  refine c_end ?_
  rcases ite_of h0 with ⟨c1, h1⟩ | ⟨c1, h1⟩ <;> clear h0
  · refine c_condT S rfl c1 ?_
    refine c_region ?_
    obtain ⟨t1, et1, h2⟩ := bind_of h1; clear h1
    refine s_callX S (ds' := []) (ds := []) [] [Res.cells g1 40 [.one (.int .i64 x1.1), .one (.int .i64 x1.2.1), .one (.int .i64 x1.2.2.1), .one (.int .i64 x1.2.2.2.1), .ints .u64 x1.2.2.2.2.1 4, .ints .u64 x1.2.2.2.2.2.1 4, .sl ch_0_0 (x1.2.2.2.2.2.2).length ch_0_1 (RdS (Ty.int .u8) ch_0_0 x1.2.2.2.2.2.2)]] (fun (ch : Unit) => ((.v (.bool t1)) : D)) (fun (ch : Unit) => []) (fun (ch : Unit) => [Res.cells g1 40 [.one (.int .i64 x1.1), .one (.int .i64 x1.2.1), .one (.int .i64 x1.2.2.1), .one (.int .i64 x1.2.2.2.1), .ints .u64 x1.2.2.2.2.1 4, .ints .u64 x1.2.2.2.2.2.1 4, .sl ch_0_0 (x1.2.2.2.2.2.2).length ch_0_1 (RdS (Ty.int .u8) ch_0_0 x1.2.2.2.2.2.2)]]) (fun _ => rfl) N12 rfl rfl (fun ok => ok) (.cons .here .nil) rfl (smithylaw10_fixed.ok t1 et1 _ _) ?_; clear S a w; intro ch1 m le1 a w S
    refine s_assign S rfl rfl ?_; clear S a; intro a S
    refine c_end ?_
    refine wp_ret ?_
    refine x_thenR ?_
    obtain rfl := Option.some.inj h2
    exact b_ret1 (d := (.v (.bool t1))) S rfl rfl fun ok => S.retX (Hx := []) hb _ _ (() : Unit) .nil ok
  · refine c_condF S rfl c1 ?_
    refine wp_skip ?_
    refine x_thenN ?_
    refine c_region ?_
    refine s_assign S rfl rfl ?_; clear S a; intro a S
    refine c_end ?_
    refine c_region ?_
    refine s_assign S rfl rfl ?_; clear S a; intro a S
    refine c_end ?_
    refine c_region ?_
    refine s_move S rfl rfl ?_; clear S a; intro a S
    refine s_fieldAddr S rfl I40_4 T27 (by decide) rfl rfl ?_; clear S a; intro a S
    refine s_loada S rfl .here T27 (s' := [.ints .u64 x1.2.2.2.2.1 4]) rfl rfl ?_; clear S a; intro a S
    refine s_fieldAddr S rfl I40_5 T27 (by decide) rfl rfl ?_; clear S a; intro a S
    refine s_loada S rfl .here T27 (s' := [.ints .u64 x1.2.2.2.2.2.1 4]) rfl rfl ?_; clear S a; intro a S
    obtain ⟨t2, et2, h2⟩ := bind_of h1; clear h1
    refine s_callX S (ds' := [(.v (.pointer none)), (.agg [.ints .u64 x1.2.2.2.2.1 4]), (.agg [.ints .u64 x1.2.2.2.2.2.1 4])]) (ds := [(.v (.pointer none)), (.agg [.ints .u64 x1.2.2.2.2.1 4]), (.agg [.ints .u64 x1.2.2.2.2.2.1 4])]) [] [Res.cells g1 40 [.one (.int .i64 x1.1), .one (.int .i64 x1.2.1), .one (.int .i64 x1.2.2.1), .one (.int .i64 x1.2.2.2.1), .ints .u64 x1.2.2.2.2.1 4, .ints .u64 x1.2.2.2.2.2.1 4, .sl ch_0_0 (x1.2.2.2.2.2.2).length ch_0_1 (RdS (Ty.int .u8) ch_0_0 x1.2.2.2.2.2.2)]] (fun (ch : Unit) => ((.tup [(false, [.one (.int .u64 t2.1)]), (false, [.one (.bool t2.2)])]) : D)) (fun (ch : Unit) => []) (fun (ch : Unit) => [Res.cells g1 40 [.one (.int .i64 x1.1), .one (.int .i64 x1.2.1), .one (.int .i64 x1.2.2.1), .one (.int .i64 x1.2.2.2.1), .ints .u64 x1.2.2.2.2.1 4, .ints .u64 x1.2.2.2.2.2.1 4, .sl ch_0_0 (x1.2.2.2.2.2.2).length ch_0_1 (RdS (Ty.int .u8) ch_0_0 x1.2.2.2.2.2.2)]]) (fun _ => rfl) N18 rfl rfl (fun ok => ok) (.cons .here .nil) rfl (mem_Memory_Cost_0nil.ok x1.2.2.2.2.1 x1.2.2.2.2.2.1 t2 et2 _ _) ?_; clear S a w; intro ch2 m le1 a w S
    refine s_move S rfl rfl ?_; clear S a; intro a S
    refine s_extract S rfl rfl rfl rfl ?_; clear S a; intro a S
    refine s_extract S rfl rfl rfl rfl ?_; clear S a; intro a S
    refine s_assign S rfl rfl ?_; clear S a; intro a S
    refine s_assign S rfl rfl ?_; clear S a; intro a S
    refine c_end ?_
    refine c_region ?_
    refine s_move S rfl rfl ?_; clear S a; intro a S
    refine s_fieldAddr S rfl I40_1 T3 (by decide) rfl rfl ?_; clear S a; intro a S
    refine s_load1 S rfl .here T3 (v := (.int .i64 x1.2.1)) rfl rfl ?_; clear S a; intro a S
    refine s_fieldAddr S rfl I40_6 T38 (by decide) rfl rfl ?_; clear S a; intro a S
    refine s_loadSl S rfl .here T38 (A := ch_0_0) (len := (x1.2.2.2.2.2.2).length) (cap := ch_0_1) rfl rfl ?_; clear S a; intro a S
    obtain ⟨t3, et3, h3⟩ := bind_of h2; clear h2
    refine s_callX S (ds' := [(.v (.pointer none)), (.v (.int .i64 x1.2.1)), (.sl ch_0_0 (x1.2.2.2.2.2.2).length ch_0_1 (RdS (Ty.int .u8) ch_0_0 x1.2.2.2.2.2.2))]) (ds := [(.v (.pointer none)), (.v (.int .i64 x1.2.1)), (.sl ch_0_0 (x1.2.2.2.2.2.2).length ch_0_1 (RdS (Ty.int .u8) ch_0_0 x1.2.2.2.2.2.2))]) [] [Res.cells g1 40 [.one (.int .i64 x1.1), .one (.int .i64 x1.2.1), .one (.int .i64 x1.2.2.1), .one (.int .i64 x1.2.2.2.1), .ints .u64 x1.2.2.2.2.1 4, .ints .u64 x1.2.2.2.2.2.1 4, .sl ch_0_0 (x1.2.2.2.2.2.2).length ch_0_1 (RdS (Ty.int .u8) ch_0_0 x1.2.2.2.2.2.2)]] (fun (ch : Unit) => ((.tup []) : D)) (fun (ch : Unit) => []) (fun (ch : Unit) => [Res.cells g1 40 [.one (.int .i64 x1.1), .one (.int .i64 x1.2.1), .one (.int .i64 x1.2.2.1), .one (.int .i64 x1.2.2.2.1), .ints .u64 x1.2.2.2.2.1 4, .ints .u64 x1.2.2.2.2.2.1 4, .sl ch_0_0 (x1.2.2.2.2.2.2).length ch_0_1 (RdS (Ty.int .u8) ch_0_0 x1.2.2.2.2.2.2)]]) (fun _ => rfl) N28 rfl rfl (fun ok => ok) (.cons .here .nil) rfl (mem_Memory_Write_0nil.ok x1.2.1 x1.2.2.2.2.2.2 ch_0_0 ch_0_1 t3 et3 _ _) ?_; clear S a w; intro ch3 m le1 a w S
    refine c_end ?_
    refine c_region ?_
    refine s_move S rfl rfl ?_; clear S a; intro a S
    refine s_fieldAddr S rfl I40_1 T3 (by decide) rfl rfl ?_; clear S a; intro a S
    refine s_load1 S rfl .here T3 (v := (.int .i64 x1.2.1)) rfl rfl ?_; clear S a; intro a S
    refine s_fieldAddr S rfl I40_2 T3 (by decide) rfl rfl ?_; clear S a; intro a S
    refine s_load1 S rfl .here T3 (v := (.int .i64 x1.2.2.1)) rfl rfl ?_; clear S a; intro a S
    refine s_fieldAddr S rfl I40_3 T3 (by decide) rfl rfl ?_; clear S a; intro a S
    refine s_load1 S rfl .here T3 (v := (.int .i64 x1.2.2.2.1)) rfl rfl ?_; clear S a; intro a S
    obtain ⟨t4, et4, h4⟩ := bind_of h3; clear h3
    refine s_callX S (ds' := [(.v (.pointer none)), (.v (.int .i64 x1.2.1)), (.v (.int .i64 x1.2.2.1)), (.v (.int .i64 x1.2.2.2.1))]) (ds := [(.v (.pointer none)), (.v (.int .i64 x1.2.1)), (.v (.int .i64 x1.2.2.1)), (.v (.int .i64 x1.2.2.2.1))]) [] [Res.cells g1 40 [.one (.int .i64 x1.1), .one (.int .i64 x1.2.1), .one (.int .i64 x1.2.2.1), .one (.int .i64 x1.2.2.2.1), .ints .u64 x1.2.2.2.2.1 4, .ints .u64 x1.2.2.2.2.2.1 4, .sl ch_0_0 (x1.2.2.2.2.2.2).length ch_0_1 (RdS (Ty.int .u8) ch_0_0 x1.2.2.2.2.2.2)]] (fun (ch : Unit) => ((.tup []) : D)) (fun (ch : Unit) => []) (fun (ch : Unit) => [Res.cells g1 40 [.one (.int .i64 x1.1), .one (.int .i64 x1.2.1), .one (.int .i64 x1.2.2.1), .one (.int .i64 x1.2.2.2.1), .ints .u64 x1.2.2.2.2.1 4, .ints .u64 x1.2.2.2.2.2.1 4, .sl ch_0_0 (x1.2.2.2.2.2.2).length ch_0_1 (RdS (Ty.int .u8) ch_0_0 x1.2.2.2.2.2.2)]]) (fun _ => rfl) N30 rfl rfl (fun ok => ok) (.cons .here .nil) rfl (mem_Memory_Copy_0nil.ok x1.2.1 x1.2.2.1 x1.2.2.2.1 t4 et4 _ _) ?_; clear S a w; intro ch4 m le1 a w S
    refine c_end ?_
    refine c_region ?_
    refine s_move S rfl rfl ?_; clear S a; intro a S
    refine s_fieldAddr S rfl I40_1 T3 (by decide) rfl rfl ?_; clear S a; intro a S
    refine s_load1 S rfl .here T3 (v := (.int .i64 x1.2.1)) rfl rfl ?_; clear S a; intro a S
    refine s_fieldAddr S rfl I40_4 T27 (by decide) rfl rfl ?_; clear S a; intro a S
    refine s_loada S rfl .here T27 (s' := [.ints .u64 x1.2.2.2.2.1 4]) rfl rfl ?_; clear S a; intro a S
    obtain ⟨t5, et5, h5⟩ := bind_of h4; clear h4
    refine s_callX S (ds' := [(.v (.pointer none)), (.v (.int .i64 x1.2.1)), (.agg [.ints .u64 x1.2.2.2.2.1 4])]) (ds := [(.v (.pointer none)), (.v (.int .i64 x1.2.1)), (.agg [.ints .u64 x1.2.2.2.2.1 4])]) [] [Res.cells g1 40 [.one (.int .i64 x1.1), .one (.int .i64 x1.2.1), .one (.int .i64 x1.2.2.1), .one (.int .i64 x1.2.2.2.1), .ints .u64 x1.2.2.2.2.1 4, .ints .u64 x1.2.2.2.2.2.1 4, .sl ch_0_0 (x1.2.2.2.2.2.2).length ch_0_1 (RdS (Ty.int .u8) ch_0_0 x1.2.2.2.2.2.2)]] (fun (ch : Unit) => ((.tup []) : D)) (fun (ch : Unit) => []) (fun (ch : Unit) => [Res.cells g1 40 [.one (.int .i64 x1.1), .one (.int .i64 x1.2.1), .one (.int .i64 x1.2.2.1), .one (.int .i64 x1.2.2.2.1), .ints .u64 x1.2.2.2.2.1 4, .ints .u64 x1.2.2.2.2.2.1 4, .sl ch_0_0 (x1.2.2.2.2.2.2).length ch_0_1 (RdS (Ty.int .u8) ch_0_0 x1.2.2.2.2.2.2)]]) (fun _ => rfl) N32 rfl rfl (fun ok => ok) (.cons .here .nil) rfl (mem_Memory_SetWord_0nil.ok k x1.2.1 x1.2.2.2.2.1 t5 et5 _ _) ?_; clear S a w; intro ch5 m le1 a w S
    refine c_end ?_
    refine c_region ?_
    refine s_move S rfl rfl ?_; clear S a; intro a S
    obtain ⟨t6, et6, h6⟩ := bind_of h5; clear h5
    refine s_callX S (ds' := [(.v (.pointer none))]) (ds := [(.v (.pointer none))]) [] [Res.cells g1 40 [.one (.int .i64 x1.1), .one (.int .i64 x1.2.1), .one (.int .i64 x1.2.2.1), .one (.int .i64 x1.2.2.2.1), .ints .u64 x1.2.2.2.2.1 4, .ints .u64 x1.2.2.2.2.2.1 4, .sl ch_0_0 (x1.2.2.2.2.2.2).length ch_0_1 (RdS (Ty.int .u8) ch_0_0 x1.2.2.2.2.2.2)]] (fun (ch : Unit) => ((.tup [(true, [.ints .u64 t6.1 4]), (false, [.one (.bool t6.2)])]) : D)) (fun (ch : Unit) => []) (fun (ch : Unit) => [Res.cells g1 40 [.one (.int .i64 x1.1), .one (.int .i64 x1.2.1), .one (.int .i64 x1.2.2.1), .one (.int .i64 x1.2.2.2.1), .ints .u64 x1.2.2.2.2.1 4, .ints .u64 x1.2.2.2.2.2.1 4, .sl ch_0_0 (x1.2.2.2.2.2.2).length ch_0_1 (RdS (Ty.int .u8) ch_0_0 x1.2.2.2.2.2.2)]]) (fun _ => rfl) N24 rfl rfl (fun ok => ok) (.cons .here .nil) rfl (mem_Stack_Pop_0nil.ok t6 et6 _ _) ?_; clear S a w; intro ch6 m le1 a w S
    refine s_move S rfl rfl ?_; clear S a; intro a S
    refine s_extract S rfl rfl rfl rfl ?_; clear S a; intro a S
    refine s_extract S rfl rfl rfl rfl ?_; clear S a; intro a S
    refine s_alloc S Z27 rfl ⟨rfl, trivial⟩ rfl ?_; clear S a w; intro g2 a w S
    refine s_store S rfl rfl rfl (s' := [.ints .u64 t6.1 4]) .here T27 rfl rfl ?_; clear S w; intro w S
    refine s_assign S rfl rfl ?_; clear S a; intro a S
    refine c_end ?_
    refine c_region ?_
    obtain ⟨t7, et7, h7⟩ := bind_of h6; clear h6
    refine s_callX S (ds' := []) (ds := []) [] [Res.cells g2 27 [.ints .u64 t6.1 4], Res.cells g1 40 [.one (.int .i64 x1.1), .one (.int .i64 x1.2.1), .one (.int .i64 x1.2.2.1), .one (.int .i64 x1.2.2.2.1), .ints .u64 x1.2.2.2.2.1 4, .ints .u64 x1.2.2.2.2.2.1 4, .sl ch_0_0 (x1.2.2.2.2.2.2).length ch_0_1 (RdS (Ty.int .u8) ch_0_0 x1.2.2.2.2.2.2)]] (fun (ch : Unit) => ((.v (.bool t7)) : D)) (fun (ch : Unit) => []) (fun (ch : Unit) => [Res.cells g2 27 [.ints .u64 t6.1 4], Res.cells g1 40 [.one (.int .i64 x1.1), .one (.int .i64 x1.2.1), .one (.int .i64 x1.2.2.1), .one (.int .i64 x1.2.2.2.1), .ints .u64 x1.2.2.2.2.1 4, .ints .u64 x1.2.2.2.2.2.1 4, .sl ch_0_0 (x1.2.2.2.2.2.2).length ch_0_1 (RdS (Ty.int .u8) ch_0_0 x1.2.2.2.2.2.2)]]) (fun _ => rfl) N12 rfl rfl (fun ok => ok) (.cons .here (.cons .here .nil)) rfl (smithylaw10_fixed.ok t7 et7 _ _) ?_; clear S a w; intro ch7 m le1 a w S
    refine s_move S rfl rfl ?_; clear S a; intro a S
    rcases ite_of h7 with ⟨c2, h8⟩ | ⟨c2, h8⟩ <;> clear h7
    · refine s_gT S (b := t7) rfl rfl c2 ?_
      refine s_move S rfl rfl ?_; clear S a; intro a S
      refine s_gT S (b := t7) rfl rfl c2 ?_
      obtain ⟨t8, et8, h9⟩ := bind_of h8; clear h8
      refine s_callX S (ds' := [(.v (.pointer none))]) (ds := [(.v (.pointer none))]) [] [Res.cells g2 27 [.ints .u64 t6.1 4], Res.cells g1 40 [.one (.int .i64 x1.1), .one (.int .i64 x1.2.1), .one (.int .i64 x1.2.2.1), .one (.int .i64 x1.2.2.2.1), .ints .u64 x1.2.2.2.2.1 4, .ints .u64 x1.2.2.2.2.2.1 4, .sl ch_0_0 (x1.2.2.2.2.2.2).length ch_0_1 (RdS (Ty.int .u8) ch_0_0 x1.2.2.2.2.2.2)]] (fun (ch : Unit) => ((.v (.int .i64 t8)) : D)) (fun (ch : Unit) => []) (fun (ch : Unit) => [Res.cells g2 27 [.ints .u64 t6.1 4], Res.cells g1 40 [.one (.int .i64 x1.1), .one (.int .i64 x1.2.1), .one (.int .i64 x1.2.2.1), .one (.int .i64 x1.2.2.2.1), .ints .u64 x1.2.2.2.2.1 4, .ints .u64 x1.2.2.2.2.2.1 4, .sl ch_0_0 (x1.2.2.2.2.2.2).length ch_0_1 (RdS (Ty.int .u8) ch_0_0 x1.2.2.2.2.2.2)]]) (fun _ => rfl) N19 rfl rfl (fun ok => ok) (.cons .here (.cons .here .nil)) rfl (mem_Memory_Len_0nil.ok t8 et8 _ _) ?_; clear S a w; intro ch8 m le1 a w S
      refine s_gT S (b := t7) rfl rfl c2 ?_
      refine s_bin S rfl rfl rfl rfl ?_; clear S a; intro a S
      refine s_pick S (b := true) (hc_of rfl c2) rfl rfl ?_; clear S a; intro a S
      refine s_move S rfl rfl ?_; clear S a; intro a S
      rcases ite_of h9 with ⟨c3, h10⟩ | ⟨c3, h10⟩ <;> clear h9
      · refine s_gT S (b := (t8 == 0)) rfl rfl c3 ?_
        refine s_move S rfl rfl ?_; clear S a; intro a S
        refine s_gT S (b := (t8 == 0)) rfl rfl c3 ?_
        refine s_bin S rfl rfl rfl rfl ?_; clear S a; intro a S
        refine s_pick S (b := true) (hc_of rfl c3) rfl rfl ?_; clear S a; intro a S
        refine s_move S rfl rfl ?_; clear S a; intro a S
        rcases ite_of h10 with ⟨c4, h11⟩ | ⟨c4, h11⟩ <;> clear h10
        · refine s_gT S (b := (t2.1 == 0)) rfl rfl c4 ?_
          refine s_move S rfl rfl ?_; clear S a; intro a S
          refine s_gT S (b := (t2.1 == 0)) rfl rfl c4 ?_
          refine s_not S rfl rfl ?_; clear S a; intro a S
          refine s_pick S (b := true) (hc_of rfl c4) rfl rfl ?_; clear S a; intro a S
          refine s_move S rfl rfl ?_; clear S a; intro a S
          rcases ite_of h11 with ⟨c5, h12⟩ | ⟨c5, h12⟩ <;> clear h11
          · refine s_gT S (b := (!t2.2)) rfl rfl c5 ?_
            refine s_move S rfl rfl ?_; clear S a; intro a S
            refine s_gT S (b := (!t2.2)) rfl rfl c5 ?_
            refine s_fieldAddr S rfl I40_4 T27 (by decide) rfl rfl ?_; clear S a; intro a S
            refine s_gT S (b := (!t2.2)) rfl rfl c5 ?_
            refine s_loada S rfl (.there .here) T27 (s' := [.ints .u64 x1.2.2.2.2.1 4]) rfl rfl ?_; clear S a; intro a S
            refine s_gT S (b := (!t2.2)) rfl rfl c5 ?_
            refine s_fieldAddr S rfl I40_5 T27 (by decide) rfl rfl ?_; clear S a; intro a S
            refine s_gT S (b := (!t2.2)) rfl rfl c5 ?_
            refine s_loada S rfl (.there .here) T27 (s' := [.ints .u64 x1.2.2.2.2.2.1 4]) rfl rfl ?_; clear S a; intro a S
            refine s_gT S (b := (!t2.2)) rfl rfl c5 ?_
            obtain ⟨t9, et9, h13⟩ := bind_of h12; clear h12
            refine s_callX S (ds' := [(.v (.pointer none)), (.agg [.ints .u64 x1.2.2.2.2.1 4]), (.agg [.ints .u64 x1.2.2.2.2.2.1 4])]) (ds := [(.v (.pointer none)), (.agg [.ints .u64 x1.2.2.2.2.1 4]), (.agg [.ints .u64 x1.2.2.2.2.2.1 4])]) [] [Res.cells g2 27 [.ints .u64 t6.1 4], Res.cells g1 40 [.one (.int .i64 x1.1), .one (.int .i64 x1.2.1), .one (.int .i64 x1.2.2.1), .one (.int .i64 x1.2.2.2.1), .ints .u64 x1.2.2.2.2.1 4, .ints .u64 x1.2.2.2.2.2.1 4, .sl ch_0_0 (x1.2.2.2.2.2.2).length ch_0_1 (RdS (Ty.int .u8) ch_0_0 x1.2.2.2.2.2.2)]] (fun (ch : Unit) => ((.v (.bool t9)) : D)) (fun (ch : Unit) => []) (fun (ch : Unit) => [Res.cells g2 27 [.ints .u64 t6.1 4], Res.cells g1 40 [.one (.int .i64 x1.1), .one (.int .i64 x1.2.1), .one (.int .i64 x1.2.2.1), .one (.int .i64 x1.2.2.2.1), .ints .u64 x1.2.2.2.2.1 4, .ints .u64 x1.2.2.2.2.2.1 4, .sl ch_0_0 (x1.2.2.2.2.2.2).length ch_0_1 (RdS (Ty.int .u8) ch_0_0 x1.2.2.2.2.2.2)]]) (fun _ => rfl) N16 rfl rfl (fun ok => ok) (.cons .here (.cons .here .nil)) rfl (mem_Memory_Reach_0nil.ok x1.2.2.2.2.1 x1.2.2.2.2.2.1 t9 et9 _ _) ?_; clear S a w; intro ch9 m le1 a w S
            refine s_gT S (b := (!t2.2)) rfl rfl c5 ?_
            refine s_not S rfl rfl ?_; clear S a; intro a S
            refine s_pick S (b := true) (hc_of rfl c5) rfl rfl ?_; clear S a; intro a S
            refine s_move S rfl rfl ?_; clear S a; intro a S
            rcases ite_of h13 with ⟨c6, h14⟩ | ⟨c6, h14⟩ <;> clear h13
            · refine s_gT S (b := (!t9)) rfl rfl c6 ?_
              refine s_move S rfl rfl ?_; clear S a; intro a S
              refine s_gT S (b := (!t9)) rfl rfl c6 ?_
              refine s_fieldAddr S rfl I40_1 T3 (by decide) rfl rfl ?_; clear S a; intro a S
              refine s_gT S (b := (!t9)) rfl rfl c6 ?_
              refine s_load1 S rfl (.there .here) T3 (v := (.int .i64 x1.2.1)) rfl rfl ?_; clear S a; intro a S
              refine s_gT S (b := (!t9)) rfl rfl c6 ?_
              refine s_fieldAddr S rfl I40_3 T3 (by decide) rfl rfl ?_; clear S a; intro a S
              refine s_gT S (b := (!t9)) rfl rfl c6 ?_
              refine s_load1 S rfl (.there .here) T3 (v := (.int .i64 x1.2.2.2.1)) rfl rfl ?_; clear S a; intro a S
              refine s_gT S (b := (!t9)) rfl rfl c6 ?_
              obtain ⟨t10, et10, h15⟩ := bind_of h14; clear h14
              refine s_callX S (ds' := [(.v (.pointer none)), (.v (.int .i64 x1.2.1)), (.v (.int .i64 x1.2.2.2.1))]) (ds := [(.v (.pointer none)), (.v (.int .i64 x1.2.1)), (.v (.int .i64 x1.2.2.2.1))]) [] [Res.cells g2 27 [.ints .u64 t6.1 4], Res.cells g1 40 [.one (.int .i64 x1.1), .one (.int .i64 x1.2.1), .one (.int .i64 x1.2.2.1), .one (.int .i64 x1.2.2.2.1), .ints .u64 x1.2.2.2.2.1 4, .ints .u64 x1.2.2.2.2.2.1 4, .sl ch_0_0 (x1.2.2.2.2.2.2).length ch_0_1 (RdS (Ty.int .u8) ch_0_0 x1.2.2.2.2.2.2)]] (fun (ch : (Option Addr) × Nat) => ((.sl ch.1 (t10).length ch.2 (RdS (Ty.int .u8) ch.1 t10)) : D)) (fun (ch : (Option Addr) × Nat) => []) (fun (ch : (Option Addr) × Nat) => [Res.cells g2 27 [.ints .u64 t6.1 4], Res.cells g1 40 [.one (.int .i64 x1.1), .one (.int .i64 x1.2.1), .one (.int .i64 x1.2.2.1), .one (.int .i64 x1.2.2.2.1), .ints .u64 x1.2.2.2.2.1 4, .ints .u64 x1.2.2.2.2.2.1 4, .sl ch_0_0 (x1.2.2.2.2.2.2).length ch_0_1 (RdS (Ty.int .u8) ch_0_0 x1.2.2.2.2.2.2)]]) (fun _ => rfl) N34 rfl rfl (fun ok => ok) (.cons .here (.cons .here .nil)) rfl (mem_Memory_Read_0nil.ok x1.2.1 x1.2.2.2.1 t10 et10 _ _) ?_; clear S a w; intro ch10 m le1 a w S
              refine s_gT S (b := (!t9)) rfl rfl c6 ?_
              refine s_lenS S rfl Try.underlying38 rfl ?_; clear S a; intro a S
              refine s_gT S (b := (!t9)) rfl rfl c6 ?_
              refine s_bin S rfl rfl rfl rfl ?_; clear S a; intro a S
              refine s_pick S (b := true) (hc_of rfl c6) rfl rfl ?_; clear S a; intro a S
              refine s_move S rfl rfl ?_; clear S a; intro a S
              rcases ite_of h15 with ⟨c7, h16⟩ | ⟨c7, h16⟩ <;> clear h15
              · refine s_gT S (b := (((t10).length : Int) == 0)) rfl rfl c7 ?_
                refine s_move S rfl rfl ?_; clear S a; intro a S
                refine s_gT S (b := (((t10).length : Int) == 0)) rfl rfl c7 ?_
                refine s_fieldAddr S rfl I40_1 T3 (by decide) rfl rfl ?_; clear S a; intro a S
                refine s_gT S (b := (((t10).length : Int) == 0)) rfl rfl c7 ?_
                refine s_load1 S rfl (.there .here) T3 (v := (.int .i64 x1.2.1)) rfl rfl ?_; clear S a; intro a S
                refine s_gT S (b := (((t10).length : Int) == 0)) rfl rfl c7 ?_
                obtain ⟨t11, et11, h17⟩ := bind_of h16; clear h16
                refine s_callX S (ds' := [(.v (.pointer none)), (.v (.int .i64 x1.2.1))]) (ds := [(.v (.pointer none)), (.v (.int .i64 x1.2.1))]) [] [Res.cells g2 27 [.ints .u64 t6.1 4], Res.cells g1 40 [.one (.int .i64 x1.1), .one (.int .i64 x1.2.1), .one (.int .i64 x1.2.2.1), .one (.int .i64 x1.2.2.2.1), .ints .u64 x1.2.2.2.2.1 4, .ints .u64 x1.2.2.2.2.2.1 4, .sl ch_0_0 (x1.2.2.2.2.2.2).length ch_0_1 (RdS (Ty.int .u8) ch_0_0 x1.2.2.2.2.2.2)]] (fun (ch : Unit) => ((.agg [.ints .u64 t11 4]) : D)) (fun (ch : Unit) => []) (fun (ch : Unit) => [Res.cells g2 27 [.ints .u64 t6.1 4], Res.cells g1 40 [.one (.int .i64 x1.1), .one (.int .i64 x1.2.1), .one (.int .i64 x1.2.2.1), .one (.int .i64 x1.2.2.2.1), .ints .u64 x1.2.2.2.2.1 4, .ints .u64 x1.2.2.2.2.2.1 4, .sl ch_0_0 (x1.2.2.2.2.2.2).length ch_0_1 (RdS (Ty.int .u8) ch_0_0 x1.2.2.2.2.2.2)]]) (fun _ => rfl) N35 rfl rfl (fun ok => ok) (.cons .here (.cons .here .nil)) rfl (mem_Memory_Word_0nil.ok k x1.2.1 t11 et11 _ _) ?_; clear S a w; intro ch11 m le1 a w S
                refine s_gT S (b := (((t10).length : Int) == 0)) rfl rfl c7 ?_
                refine s_build S (ds := []) (dv := (.agg [.ints .i64 [0, 0, 0, 0, 0, 0, 0, 0, 0, 0, 0, 0, 0, 0, 0, 0, 0, 0, 0, 0, 0, 0, 0, 0, 0, 0, 0, 0, 0, 0, 0, 0] 32])) rfl (fun _ => by kernel_rfl) ⟨rfl, trivial⟩ rfl ?_; clear S a; intro a S
                refine s_gT S (b := (((t10).length : Int) == 0)) rfl rfl c7 ?_
                obtain ⟨t12, et12, h18⟩ := bind_of h17; clear h17
                refine s_callX S (ds' := [(.agg [.ints .i64 [0, 0, 0, 0, 0, 0, 0, 0, 0, 0, 0, 0, 0, 0, 0, 0, 0, 0, 0, 0, 0, 0, 0, 0, 0, 0, 0, 0, 0, 0, 0, 0] 32])]) (ds := [(.agg [.ints .i64 [0, 0, 0, 0, 0, 0, 0, 0, 0, 0, 0, 0, 0, 0, 0, 0, 0, 0, 0, 0, 0, 0, 0, 0, 0, 0, 0, 0, 0, 0, 0, 0] 32])]) [] [Res.cells g2 27 [.ints .u64 t6.1 4], Res.cells g1 40 [.one (.int .i64 x1.1), .one (.int .i64 x1.2.1), .one (.int .i64 x1.2.2.1), .one (.int .i64 x1.2.2.2.1), .ints .u64 x1.2.2.2.2.1 4, .ints .u64 x1.2.2.2.2.2.1 4, .sl ch_0_0 (x1.2.2.2.2.2.2).length ch_0_1 (RdS (Ty.int .u8) ch_0_0 x1.2.2.2.2.2.2)]] (fun (ch : Unit) => ((.agg [.ints .u64 t12 4]) : D)) (fun (ch : Unit) => []) (fun (ch : Unit) => [Res.cells g2 27 [.ints .u64 t6.1 4], Res.cells g1 40 [.one (.int .i64 x1.1), .one (.int .i64 x1.2.1), .one (.int .i64 x1.2.2.1), .one (.int .i64 x1.2.2.2.1), .ints .u64 x1.2.2.2.2.1 4, .ints .u64 x1.2.2.2.2.2.1 4, .sl ch_0_0 (x1.2.2.2.2.2.2).length ch_0_1 (RdS (Ty.int .u8) ch_0_0 x1.2.2.2.2.2.2)]]) (fun _ => rfl) N39 rfl rfl (fun ok => ok) (.cons .here (.cons .here .nil)) rfl (smithyref01_D_Word.ok k [0, 0, 0, 0, 0, 0, 0, 0, 0, 0, 0, 0, 0, 0, 0, 0, 0, 0, 0, 0, 0, 0, 0, 0, 0, 0, 0, 0, 0, 0, 0, 0] t12 et12 _ _) ?_; clear S a w; intro ch12 m le1 a w S
                refine s_gT S (b := (((t10).length : Int) == 0)) rfl rfl c7 ?_
                refine s_eqa S rfl rfl Try.underlying27 Try.underlying22 T22 Q27 rfl ?_; clear S a; intro a S
                refine s_pick S (b := true) (hc_of rfl c7) rfl rfl ?_; clear S a; intro a S
                refine s_move S rfl rfl ?_; clear S a; intro a S
                rcases ite_of h18 with ⟨c8, h19⟩ | ⟨c8, h19⟩ <;> clear h18
                · refine s_gT S (b := (decide (t11 = t12))) rfl rfl c8 ?_
                  refine s_move S rfl rfl ?_; clear S a; intro a S
                  refine s_gT S (b := (decide (t11 = t12))) rfl rfl c8 ?_
                  obtain ⟨t13, et13, h20⟩ := bind_of h19; clear h19
                  refine s_callX S (ds' := [(.v (.pointer none))]) (ds := [(.v (.pointer none))]) [] [Res.cells g2 27 [.ints .u64 t6.1 4], Res.cells g1 40 [.one (.int .i64 x1.1), .one (.int .i64 x1.2.1), .one (.int .i64 x1.2.2.1), .one (.int .i64 x1.2.2.2.1), .ints .u64 x1.2.2.2.2.1 4, .ints .u64 x1.2.2.2.2.2.1 4, .sl ch_0_0 (x1.2.2.2.2.2.2).length ch_0_1 (RdS (Ty.int .u8) ch_0_0 x1.2.2.2.2.2.2)]] (fun (ch : Unit) => ((.v (.int .i64 t13)) : D)) (fun (ch : Unit) => []) (fun (ch : Unit) => [Res.cells g2 27 [.ints .u64 t6.1 4], Res.cells g1 40 [.one (.int .i64 x1.1), .one (.int .i64 x1.2.1), .one (.int .i64 x1.2.2.1), .one (.int .i64 x1.2.2.2.1), .ints .u64 x1.2.2.2.2.1 4, .ints .u64 x1.2.2.2.2.2.1 4, .sl ch_0_0 (x1.2.2.2.2.2.2).length ch_0_1 (RdS (Ty.int .u8) ch_0_0 x1.2.2.2.2.2.2)]]) (fun _ => rfl) N26 rfl rfl (fun ok => ok) (.cons .here (.cons .here .nil)) rfl (mem_Stack_Len_0nil.ok t13 et13 _ _) ?_; clear S a w; intro ch13 m le1 a w S
                  refine s_gT S (b := (decide (t11 = t12))) rfl rfl c8 ?_
                  refine s_bin S rfl rfl rfl rfl ?_; clear S a; intro a S
                  refine s_pick S (b := true) (hc_of rfl c8) rfl rfl ?_; clear S a; intro a S
                  refine s_move S rfl rfl ?_; clear S a; intro a S
                  rcases ite_of h20 with ⟨c9, h21⟩ | ⟨c9, h21⟩ <;> clear h20
                  · refine s_gT S (b := (t13 == 0)) rfl rfl c9 ?_
                    refine s_move S rfl rfl ?_; clear S a; intro a S
                    refine s_gT S (b := (t13 == 0)) rfl rfl c9 ?_
                    refine s_fieldAddr S rfl I40_4 T27 (by decide) rfl rfl ?_; clear S a; intro a S
                    refine s_gT S (b := (t13 == 0)) rfl rfl c9 ?_
                    refine s_loada S rfl (.there .here) T27 (s' := [.ints .u64 x1.2.2.2.2.1 4]) rfl rfl ?_; clear S a; intro a S
                    refine s_gT S (b := (t13 == 0)) rfl rfl c9 ?_
                    obtain ⟨t14, et14, h22⟩ := bind_of h21; clear h21
                    refine s_callX S (ds' := [(.v (.pointer none)), (.agg [.ints .u64 x1.2.2.2.2.1 4])]) (ds := [(.v (.pointer none)), (.agg [.ints .u64 x1.2.2.2.2.1 4])]) [] [Res.cells g2 27 [.ints .u64 t6.1 4], Res.cells g1 40 [.one (.int .i64 x1.1), .one (.int .i64 x1.2.1), .one (.int .i64 x1.2.2.1), .one (.int .i64 x1.2.2.2.1), .ints .u64 x1.2.2.2.2.1 4, .ints .u64 x1.2.2.2.2.2.1 4, .sl ch_0_0 (x1.2.2.2.2.2.2).length ch_0_1 (RdS (Ty.int .u8) ch_0_0 x1.2.2.2.2.2.2)]] (fun (ch : Unit) => ((.v (.bool t14)) : D)) (fun (ch : Unit) => []) (fun (ch : Unit) => [Res.cells g2 27 [.ints .u64 t6.1 4], Res.cells g1 40 [.one (.int .i64 x1.1), .one (.int .i64 x1.2.1), .one (.int .i64 x1.2.2.1), .one (.int .i64 x1.2.2.2.1), .ints .u64 x1.2.2.2.2.1 4, .ints .u64 x1.2.2.2.2.2.1 4, .sl ch_0_0 (x1.2.2.2.2.2.2).length ch_0_1 (RdS (Ty.int .u8) ch_0_0 x1.2.2.2.2.2.2)]]) (fun _ => rfl) N22 rfl rfl (fun ok => ok) (.cons .here (.cons .here .nil)) rfl (mem_Stack_Push_0nil.ok x1.2.2.2.2.1 t14 et14 _ _) ?_; clear S a w; intro ch14 m le1 a w S
                    refine s_gT S (b := (t13 == 0)) rfl rfl c9 ?_
                    refine s_not S rfl rfl ?_; clear S a; intro a S
                    refine s_pick S (b := true) (hc_of rfl c9) rfl rfl ?_; clear S a; intro a S
                    refine s_move S rfl rfl ?_; clear S a; intro a S
                    rcases ite_of h22 with ⟨c10, h23⟩ | ⟨c10, h23⟩ <;> clear h22
                    · refine s_gT S (b := (!t14)) rfl rfl c10 ?_
                      refine s_loada S rfl .here T27 (s' := [.ints .u64 t6.1 4]) rfl rfl ?_; clear S a; intro a S
                      refine s_gT S (b := (!t14)) rfl rfl c10 ?_
                      refine s_build S (ds := []) (dv := (.agg [.ints .u64 [0, 0, 0, 0] 4])) rfl (fun _ => by kernel_rfl) ⟨rfl, trivial⟩ rfl ?_; clear S a; intro a S
                      refine s_gT S (b := (!t14)) rfl rfl c10 ?_
                      refine s_eqa S rfl rfl Try.underlying27 Try.underlying22 T22 Q27 rfl ?_; clear S a; intro a S
                      refine s_pick S (b := true) (hc_of rfl c10) rfl rfl ?_; clear S a; intro a S
                      refine s_move S rfl rfl ?_; clear S a; intro a S
                      rcases ite_of h23 with ⟨c11, h24⟩ | ⟨c11, h24⟩ <;> clear h23
                      · refine s_gT S (b := (decide (t6.1 = [0, 0, 0, 0]))) rfl rfl c11 ?_
                        refine s_move S rfl rfl ?_; clear S a; intro a S
                        refine s_gT S (b := (decide (t6.1 = [0, 0, 0, 0]))) rfl rfl c11 ?_
                        refine s_not S rfl rfl ?_; clear S a; intro a S
                        refine s_pick S (b := true) (hc_of rfl c11) rfl rfl ?_; clear S a; intro a S
                        refine s_move S rfl rfl ?_; clear S a; intro a S
                        rcases ite_of h24 with ⟨c12, h25⟩ | ⟨c12, h25⟩ <;> clear h24
                        · refine s_gT S (b := (!t6.2)) rfl rfl c12 ?_
                          refine s_move S rfl rfl ?_; clear S a; intro a S
                          refine s_gT S (b := (!t6.2)) rfl rfl c12 ?_
                          refine s_fieldAddr S rfl I40_1 T3 (by decide) rfl rfl ?_; clear S a; intro a S
                          refine s_gT S (b := (!t6.2)) rfl rfl c12 ?_
                          refine s_load1 S rfl (.there .here) T3 (v := (.int .i64 x1.2.1)) rfl rfl ?_; clear S a; intro a S
                          refine s_gT S (b := (!t6.2)) rfl rfl c12 ?_
                          obtain ⟨t15, et15, h26⟩ := bind_of h25; clear h25
                          refine s_callX S (ds' := [(.v (.pointer none)), (.v (.int .i64 x1.2.1))]) (ds := [(.v (.pointer none)), (.v (.int .i64 x1.2.1))]) [] [Res.cells g2 27 [.ints .u64 t6.1 4], Res.cells g1 40 [.one (.int .i64 x1.1), .one (.int .i64 x1.2.1), .one (.int .i64 x1.2.2.1), .one (.int .i64 x1.2.2.2.1), .ints .u64 x1.2.2.2.2.1 4, .ints .u64 x1.2.2.2.2.2.1 4, .sl ch_0_0 (x1.2.2.2.2.2.2).length ch_0_1 (RdS (Ty.int .u8) ch_0_0 x1.2.2.2.2.2.2)]] (fun (ch : Unit) => ((.v (.bool t15)) : D)) (fun (ch : Unit) => []) (fun (ch : Unit) => [Res.cells g2 27 [.ints .u64 t6.1 4], Res.cells g1 40 [.one (.int .i64 x1.1), .one (.int .i64 x1.2.1), .one (.int .i64 x1.2.2.1), .one (.int .i64 x1.2.2.2.1), .ints .u64 x1.2.2.2.2.1 4, .ints .u64 x1.2.2.2.2.2.1 4, .sl ch_0_0 (x1.2.2.2.2.2.2).length ch_0_1 (RdS (Ty.int .u8) ch_0_0 x1.2.2.2.2.2.2)]]) (fun _ => rfl) N23 rfl rfl (fun ok => ok) (.cons .here (.cons .here .nil)) rfl (mem_Stack_Dup_0nil.ok x1.2.1 t15 et15 _ _) ?_; clear S a w; intro ch15 m le1 a w S
                          refine s_gT S (b := (!t6.2)) rfl rfl c12 ?_
                          refine s_not S rfl rfl ?_; clear S a; intro a S
                          refine s_pick S (b := true) (hc_of rfl c12) rfl rfl ?_; clear S a; intro a S
                          refine s_move S rfl rfl ?_; clear S a; intro a S
                          rcases ite_of h26 with ⟨c13, h27⟩ | ⟨c13, h27⟩ <;> clear h26
                          · refine s_gT S (b := (!t15)) rfl rfl c13 ?_
                            refine s_move S rfl rfl ?_; clear S a; intro a S
                            refine s_gT S (b := (!t15)) rfl rfl c13 ?_
                            refine s_fieldAddr S rfl I40_1 T3 (by decide) rfl rfl ?_; clear S a; intro a S
                            refine s_gT S (b := (!t15)) rfl rfl c13 ?_
                            refine s_load1 S rfl (.there .here) T3 (v := (.int .i64 x1.2.1)) rfl rfl ?_; clear S a; intro a S
                            refine s_gT S (b := (!t15)) rfl rfl c13 ?_
                            obtain ⟨t16, et16, h28⟩ := bind_of h27; clear h27
                            refine s_callX S (ds' := [(.v (.pointer none)), (.v (.int .i64 x1.2.1))]) (ds := [(.v (.pointer none)), (.v (.int .i64 x1.2.1))]) [] [Res.cells g2 27 [.ints .u64 t6.1 4], Res.cells g1 40 [.one (.int .i64 x1.1), .one (.int .i64 x1.2.1), .one (.int .i64 x1.2.2.1), .one (.int .i64 x1.2.2.2.1), .ints .u64 x1.2.2.2.2.1 4, .ints .u64 x1.2.2.2.2.2.1 4, .sl ch_0_0 (x1.2.2.2.2.2.2).length ch_0_1 (RdS (Ty.int .u8) ch_0_0 x1.2.2.2.2.2.2)]] (fun (ch : Unit) => ((.v (.bool t16)) : D)) (fun (ch : Unit) => []) (fun (ch : Unit) => [Res.cells g2 27 [.ints .u64 t6.1 4], Res.cells g1 40 [.one (.int .i64 x1.1), .one (.int .i64 x1.2.1), .one (.int .i64 x1.2.2.1), .one (.int .i64 x1.2.2.2.1), .ints .u64 x1.2.2.2.2.1 4, .ints .u64 x1.2.2.2.2.2.1 4, .sl ch_0_0 (x1.2.2.2.2.2.2).length ch_0_1 (RdS (Ty.int .u8) ch_0_0 x1.2.2.2.2.2.2)]]) (fun _ => rfl) N25 rfl rfl (fun ok => ok) (.cons .here (.cons .here .nil)) rfl (mem_Stack_Swap_0nil.ok x1.2.1 t16 et16 _ _) ?_; clear S a w; intro ch16 m le1 a w S
                            refine s_gT S (b := (!t15)) rfl rfl c13 ?_
                            refine s_not S rfl rfl ?_; clear S a; intro a S
                            refine s_pick S (b := true) (hc_of rfl c13) rfl rfl ?_; clear S a; intro a S
                            refine s_move S rfl rfl ?_; clear S a; intro a S
                            rcases ite_of h28 with ⟨c14, h29⟩ | ⟨c14, h29⟩ <;> clear h28
                            · refine s_gT S (b := (!t16)) rfl rfl c14 ?_
                              refine s_move S rfl rfl ?_; clear S a; intro a S
                              refine s_gT S (b := (!t16)) rfl rfl c14 ?_
                              obtain ⟨t17, et17, h30⟩ := bind_of h29; clear h29
                              refine s_callX S (ds' := [(.v (.pointer none))]) (ds := [(.v (.pointer none))]) [] [Res.cells g2 27 [.ints .u64 t6.1 4], Res.cells g1 40 [.one (.int .i64 x1.1), .one (.int .i64 x1.2.1), .one (.int .i64 x1.2.2.1), .one (.int .i64 x1.2.2.2.1), .ints .u64 x1.2.2.2.2.1 4, .ints .u64 x1.2.2.2.2.2.1 4, .sl ch_0_0 (x1.2.2.2.2.2.2).length ch_0_1 (RdS (Ty.int .u8) ch_0_0 x1.2.2.2.2.2.2)]] (fun (ch : (Option Addr) × Nat) => ((.sl ch.1 (t17).length ch.2 (RdS (Ty.arr .u64 4) ch.1 t17)) : D)) (fun (ch : (Option Addr) × Nat) => []) (fun (ch : (Option Addr) × Nat) => [Res.cells g2 27 [.ints .u64 t6.1 4], Res.cells g1 40 [.one (.int .i64 x1.1), .one (.int .i64 x1.2.1), .one (.int .i64 x1.2.2.1), .one (.int .i64 x1.2.2.2.1), .ints .u64 x1.2.2.2.2.1 4, .ints .u64 x1.2.2.2.2.2.1 4, .sl ch_0_0 (x1.2.2.2.2.2.2).length ch_0_1 (RdS (Ty.int .u8) ch_0_0 x1.2.2.2.2.2.2)]]) (fun _ => rfl) N38 rfl rfl (fun ok => ok) (.cons .here (.cons .here .nil)) rfl (mem_Stack_All_0nil.ok t17 et17 _ _) ?_; clear S a w; intro ch17 m le1 a w S
                              refine s_gT S (b := (!t16)) rfl rfl c14 ?_
                              refine s_lenS S rfl Try.underlying42 rfl ?_; clear S a; intro a S
                              refine s_gT S (b := (!t16)) rfl rfl c14 ?_
                              refine s_bin S rfl rfl rfl rfl ?_; clear S a; intro a S
                              refine s_pick S (b := true) (hc_of rfl c14) rfl rfl ?_; clear S a; intro a S
                              refine s_assign S rfl rfl ?_; clear S a; intro a S
                              refine c_end ?_
                              refine wp_ret ?_
                              obtain rfl := Option.some.inj h30
                              exact b_ret1 (d := (.v (.bool (((t17).length : Int) == 0)))) S rfl rfl fun ok => S.retX (Hx := []) hb _ _ (() : Unit) .nil ok
                            · refine s_gF S (b := (!t16)) rfl rfl c14 rfl ?_; clear S a; intro a S
                              refine s_gF S (b := (!t16)) rfl rfl c14 rfl ?_; clear S a; intro a S
                              refine s_gF S (b := (!t16)) rfl rfl c14 rfl ?_; clear S a; intro a S
                              refine s_gF S (b := (!t16)) rfl rfl c14 rfl ?_; clear S a; intro a S
                              refine s_pick S (b := false) (hc_of rfl c14) rfl rfl ?_; clear S a; intro a S
                              refine s_assign S rfl rfl ?_; clear S a; intro a S
                              refine c_end ?_
                              refine wp_ret ?_
                              obtain rfl := Option.some.inj h29
                              exact b_ret1 (d := (.v (.bool false))) S rfl rfl fun ok => S.retX (Hx := []) hb _ _ (() : Unit) .nil ok
                          · refine s_gF S (b := (!t15)) rfl rfl c13 rfl ?_; clear S a; intro a S
                            refine s_gF S (b := (!t15)) rfl rfl c13 rfl ?_; clear S a; intro a S
                            refine s_gF S (b := (!t15)) rfl rfl c13 rfl ?_; clear S a; intro a S
                            refine s_gF S (b := (!t15)) rfl rfl c13 rfl ?_; clear S a; intro a S
                            refine s_gF S (b := (!t15)) rfl rfl c13 rfl ?_; clear S a; intro a S
                            refine s_pick S (b := false) (hc_of rfl c13) rfl rfl ?_; clear S a; intro a S
                            refine s_move S rfl rfl ?_; clear S a; intro a S
                            refine s_gF S (b := false) rfl rfl rfl rfl ?_; clear S a; intro a S
                            refine s_gF S (b := false) rfl rfl rfl rfl ?_; clear S a; intro a S
                            refine s_gF S (b := false) rfl rfl rfl rfl ?_; clear S a; intro a S
                            refine s_gF S (b := false) rfl rfl rfl rfl ?_; clear S a; intro a S
                            refine s_pick S (b := false) (hc_of rfl rfl) rfl rfl ?_; clear S a; intro a S
                            refine s_assign S rfl rfl ?_; clear S a; intro a S
                            refine c_end ?_
                            refine wp_ret ?_
                            obtain rfl := Option.some.inj h27
                            exact b_ret1 (d := (.v (.bool false))) S rfl rfl fun ok => S.retX (Hx := []) hb _ _ (() : Unit) .nil ok
                        · refine s_gF S (b := (!t6.2)) rfl rfl c12 rfl ?_; clear S a; intro a S
                          refine s_gF S (b := (!t6.2)) rfl rfl c12 rfl ?_; clear S a; intro a S
                          refine s_gF S (b := (!t6.2)) rfl rfl c12 rfl ?_; clear S a; intro a S
                          refine s_gF S (b := (!t6.2)) rfl rfl c12 rfl ?_; clear S a; intro a S
                          refine s_gF S (b := (!t6.2)) rfl rfl c12 rfl ?_; clear S a; intro a S
                          refine s_pick S (b := false) (hc_of rfl c12) rfl rfl ?_; clear S a; intro a S
                          refine s_move S rfl rfl ?_; clear S a; intro a S
                          refine s_gF S (b := false) rfl rfl rfl rfl ?_; clear S a; intro a S
                          refine s_gF S (b := false) rfl rfl rfl rfl ?_; clear S a; intro a S
                          refine s_gF S (b := false) rfl rfl rfl rfl ?_; clear S a; intro a S
                          refine s_gF S (b := false) rfl rfl rfl rfl ?_; clear S a; intro a S
                          refine s_gF S (b := false) rfl rfl rfl rfl ?_; clear S a; intro a S
                          refine s_pick S (b := false) (hc_of rfl rfl) rfl rfl ?_; clear S a; intro a S
                          refine s_move S rfl rfl ?_; clear S a; intro a S
                          refine s_gF S (b := false) rfl rfl rfl rfl ?_; clear S a; intro a S
                          refine s_gF S (b := false) rfl rfl rfl rfl ?_; clear S a; intro a S
                          refine s_gF S (b := false) rfl rfl rfl rfl ?_; clear S a; intro a S
                          refine s_gF S (b := false) rfl rfl rfl rfl ?_; clear S a; intro a S
                          refine s_pick S (b := false) (hc_of rfl rfl) rfl rfl ?_; clear S a; intro a S
                          refine s_assign S rfl rfl ?_; clear S a; intro a S
                          refine c_end ?_
                          refine wp_ret ?_
                          obtain rfl := Option.some.inj h25
                          exact b_ret1 (d := (.v (.bool false))) S rfl rfl fun ok => S.retX (Hx := []) hb _ _ (() : Unit) .nil ok
                      · refine s_gF S (b := (decide (t6.1 = [0, 0, 0, 0]))) rfl rfl c11 rfl ?_; clear S a; intro a S
                        refine s_gF S (b := (decide (t6.1 = [0, 0, 0, 0]))) rfl rfl c11 rfl ?_; clear S a; intro a S
                        refine s_pick S (b := false) (hc_of rfl c11) rfl rfl ?_; clear S a; intro a S
                        refine s_move S rfl rfl ?_; clear S a; intro a S
                        refine s_gF S (b := false) rfl rfl rfl rfl ?_; clear S a; intro a S
                        refine s_gF S (b := false) rfl rfl rfl rfl ?_; clear S a; intro a S
                        refine s_gF S (b := false) rfl rfl rfl rfl ?_; clear S a; intro a S
                        refine s_gF S (b := false) rfl rfl rfl rfl ?_; clear S a; intro a S
                        refine s_gF S (b := false) rfl rfl rfl rfl ?_; clear S a; intro a S
                        refine s_pick S (b := false) (hc_of rfl rfl) rfl rfl ?_; clear S a; intro a S
                        refine s_move S rfl rfl ?_; clear S a; intro a S
                        refine s_gF S (b := false) rfl rfl rfl rfl ?_; clear S a; intro a S
                        refine s_gF S (b := false) rfl rfl rfl rfl ?_; clear S a; intro a S
                        refine s_gF S (b := false) rfl rfl rfl rfl ?_; clear S a; intro a S
                        refine s_gF S (b := false) rfl rfl rfl rfl ?_; clear S a; intro a S
                        refine s_gF S (b := false) rfl rfl rfl rfl ?_; clear S a; intro a S
                        refine s_pick S (b := false) (hc_of rfl rfl) rfl rfl ?_; clear S a; intro a S
                        refine s_move S rfl rfl ?_; clear S a; intro a S
                        refine s_gF S (b := false) rfl rfl rfl rfl ?_; clear S a; intro a S
                        refine s_gF S (b := false) rfl rfl rfl rfl ?_; clear S a; intro a S
                        refine s_gF S (b := false) rfl rfl rfl rfl ?_; clear S a; intro a S
                        refine s_gF S (b := false) rfl rfl rfl rfl ?_; clear S a; intro a S
                        refine s_pick S (b := false) (hc_of rfl rfl) rfl rfl ?_; clear S a; intro a S
                        refine s_assign S rfl rfl ?_; clear S a; intro a S
                        refine c_end ?_
                        refine wp_ret ?_
                        obtain rfl := Option.some.inj h24
                        exact b_ret1 (d := (.v (.bool false))) S rfl rfl fun ok => S.retX (Hx := []) hb _ _ (() : Unit) .nil ok
                    · refine s_gF S (b := (!t14)) rfl rfl c10 rfl ?_; clear S a; intro a S
                      refine s_gF S (b := (!t14)) rfl rfl c10 rfl ?_; clear S a; intro a S
                      refine s_gF S (b := (!t14)) rfl rfl c10 rfl ?_; clear S a; intro a S
                      refine s_pick S (b := false) (hc_of rfl c10) rfl rfl ?_; clear S a; intro a S
                      refine s_move S rfl rfl ?_; clear S a; intro a S
                      refine s_gF S (b := false) rfl rfl rfl rfl ?_; clear S a; intro a S
                      refine s_gF S (b := false) rfl rfl rfl rfl ?_; clear S a; intro a S
                      refine s_pick S (b := false) (hc_of rfl rfl) rfl rfl ?_; clear S a; intro a S
                      refine s_move S rfl rfl ?_; clear S a; intro a S
                      refine s_gF S (b := false) rfl rfl rfl rfl ?_; clear S a; intro a S
                      refine s_gF S (b := false) rfl rfl rfl rfl ?_; clear S a; intro a S
                      refine s_gF S (b := false) rfl rfl rfl rfl ?_; clear S a; intro a S
                      refine s_gF S (b := false) rfl rfl rfl rfl ?_; clear S a; intro a S
                      refine s_gF S (b := false) rfl rfl rfl rfl ?_; clear S a; intro a S
                      refine s_pick S (b := false) (hc_of rfl rfl) rfl rfl ?_; clear S a; intro a S
                      refine s_move S rfl rfl ?_; clear S a; intro a S
                      refine s_gF S (b := false) rfl rfl rfl rfl ?_; clear S a; intro a S
                      refine s_gF S (b := false) rfl rfl rfl rfl ?_; clear S a; intro a S
                      refine s_gF S (b := false) rfl rfl rfl rfl ?_; clear S a; intro a S
                      refine s_gF S (b := false) rfl rfl rfl rfl ?_; clear S a; intro a S
                      refine s_gF S (b := false) rfl rfl rfl rfl ?_; clear S a; intro a S
                      refine s_pick S (b := false) (hc_of rfl rfl) rfl rfl ?_; clear S a; intro a S
                      refine s_move S rfl rfl ?_; clear S a; intro a S
                      refine s_gF S (b := false) rfl rfl rfl rfl ?_; clear S a; intro a S
                      refine s_gF S (b := false) rfl rfl rfl rfl ?_; clear S a; intro a S
                      refine s_gF S (b := false) rfl rfl rfl rfl ?_; clear S a; intro a S
                      refine s_gF S (b := false) rfl rfl rfl rfl ?_; clear S a; intro a S
                      refine s_pick S (b := false) (hc_of rfl rfl) rfl rfl ?_; clear S a; intro a S
                      refine s_assign S rfl rfl ?_; clear S a; intro a S
                      refine c_end ?_
                      refine wp_ret ?_
                      obtain rfl := Option.some.inj h23
                      exact b_ret1 (d := (.v (.bool false))) S rfl rfl fun ok => S.retX (Hx := []) hb _ _ (() : Unit) .nil ok
                  · refine s_gF S (b := (t13 == 0)) rfl rfl c9 rfl ?_; clear S a; intro a S
                    refine s_gF S (b := (t13 == 0)) rfl rfl c9 rfl ?_; clear S a; intro a S
                    refine s_gF S (b := (t13 == 0)) rfl rfl c9 rfl ?_; clear S a; intro a S
                    refine s_gF S (b := (t13 == 0)) rfl rfl c9 rfl ?_; clear S a; intro a S
                    refine s_gF S (b := (t13 == 0)) rfl rfl c9 rfl ?_; clear S a; intro a S
                    refine s_pick S (b := false) (hc_of rfl c9) rfl rfl ?_; clear S a; intro a S
                    refine s_move S rfl rfl ?_; clear S a; intro a S
                    refine s_gF S (b := false) rfl rfl rfl rfl ?_; clear S a; intro a S
                    refine s_gF S (b := false) rfl rfl rfl rfl ?_; clear S a; intro a S
                    refine s_gF S (b := false) rfl rfl rfl rfl ?_; clear S a; intro a S
                    refine s_pick S (b := false) (hc_of rfl rfl) rfl rfl ?_; clear S a; intro a S
                    refine s_move S rfl rfl ?_; clear S a; intro a S
                    refine s_gF S (b := false) rfl rfl rfl rfl ?_; clear S a; intro a S
                    refine s_gF S (b := false) rfl rfl rfl rfl ?_; clear S a; intro a S
                    refine s_pick S (b := false) (hc_of rfl rfl) rfl rfl ?_; clear S a; intro a S
                    refine s_move S rfl rfl ?_; clear S a; intro a S
                    refine s_gF S (b := false) rfl rfl rfl rfl ?_; clear S a; intro a S
                    refine s_gF S (b := false) rfl rfl rfl rfl ?_; clear S a; intro a S
                    refine s_gF S (b := false) rfl rfl rfl rfl ?_; clear S a; intro a S
                    refine s_gF S (b := false) rfl rfl rfl rfl ?_; clear S a; intro a S
                    refine s_gF S (b := false) rfl rfl rfl rfl ?_; clear S a; intro a S
                    refine s_pick S (b := false) (hc_of rfl rfl) rfl rfl ?_; clear S a; intro a S
                    refine s_move S rfl rfl ?_; clear S a; intro a S
                    refine s_gF S (b := false) rfl rfl rfl rfl ?_; clear S a; intro a S
                    refine s_gF S (b := false) rfl rfl rfl rfl ?_; clear S a; intro a S
                    refine s_gF S (b := false) rfl rfl rfl rfl ?_; clear S a; intro a S
                    refine s_gF S (b := false) rfl rfl rfl rfl ?_; clear S a; intro a S
                    refine s_gF S (b := false) rfl rfl rfl rfl ?_; clear S a; intro a S
                    refine s_pick S (b := false) (hc_of rfl rfl) rfl rfl ?_; clear S a; intro a S
                    refine s_move S rfl rfl ?_; clear S a; intro a S
                    refine s_gF S (b := false) rfl rfl rfl rfl ?_; clear S a; intro a S
                    refine s_gF S (b := false) rfl rfl rfl rfl ?_; clear S a; intro a S
                    refine s_gF S (b := false) rfl rfl rfl rfl ?_; clear S a; intro a S
                    refine s_gF S (b := false) rfl rfl rfl rfl ?_; clear S a; intro a S
                    refine s_pick S (b := false) (hc_of rfl rfl) rfl rfl ?_; clear S a; intro a S
                    refine s_assign S rfl rfl ?_; clear S a; intro a S
                    refine c_end ?_
                    refine wp_ret ?_
                    obtain rfl := Option.some.inj h21
                    exact b_ret1 (d := (.v (.bool false))) S rfl rfl fun ok => S.retX (Hx := []) hb _ _ (() : Unit) .nil ok
                · refine s_gF S (b := (decide (t11 = t12))) rfl rfl c8 rfl ?_; clear S a; intro a S
                  refine s_gF S (b := (decide (t11 = t12))) rfl rfl c8 rfl ?_; clear S a; intro a S
                  refine s_gF S (b := (decide (t11 = t12))) rfl rfl c8 rfl ?_; clear S a; intro a S
                  refine s_pick S (b := false) (hc_of rfl c8) rfl rfl ?_; clear S a; intro a S
                  refine s_move S rfl rfl ?_; clear S a; intro a S
                  refine s_gF S (b := false) rfl rfl rfl rfl ?_; clear S a; intro a S
                  refine s_gF S (b := false) rfl rfl rfl rfl ?_; clear S a; intro a S
                  refine s_gF S (b := false) rfl rfl rfl rfl ?_; clear S a; intro a S
                  refine s_gF S (b := false) rfl rfl rfl rfl ?_; clear S a; intro a S
                  refine s_gF S (b := false) rfl rfl rfl rfl ?_; clear S a; intro a S
                  refine s_pick S (b := false) (hc_of rfl rfl) rfl rfl ?_; clear S a; intro a S
                  refine s_move S rfl rfl ?_; clear S a; intro a S
                  refine s_gF S (b := false) rfl rfl rfl rfl ?_; clear S a; intro a S
                  refine s_gF S (b := false) rfl rfl rfl rfl ?_; clear S a; intro a S
                  refine s_gF S (b := false) rfl rfl rfl rfl ?_; clear S a; intro a S
                  refine s_pick S (b := false) (hc_of rfl rfl) rfl rfl ?_; clear S a; intro a S
                  refine s_move S rfl rfl ?_; clear S a; intro a S
                  refine s_gF S (b := false) rfl rfl rfl rfl ?_; clear S a; intro a S
                  refine s_gF S (b := false) rfl rfl rfl rfl ?_; clear S a; intro a S
                  refine s_pick S (b := false) (hc_of rfl rfl) rfl rfl ?_; clear S a; intro a S
                  refine s_move S rfl rfl ?_; clear S a; intro a S
                  refine s_gF S (b := false) rfl rfl rfl rfl ?_; clear S a; intro a S
                  refine s_gF S (b := false) rfl rfl rfl rfl ?_; clear S a; intro a S
                  refine s_gF S (b := false) rfl rfl rfl rfl ?_; clear S a; intro a S
                  refine s_gF S (b := false) rfl rfl rfl rfl ?_; clear S a; intro a S
                  refine s_gF S (b := false) rfl rfl rfl rfl ?_; clear S a; intro a S
                  refine s_pick S (b := false) (hc_of rfl rfl) rfl rfl ?_; clear S a; intro a S
                  refine s_move S rfl rfl ?_; clear S a; intro a S
                  refine s_gF S (b := false) rfl rfl rfl rfl ?_; clear S a; intro a S
                  refine s_gF S (b := false) rfl rfl rfl rfl ?_; clear S a; intro a S
                  refine s_gF S (b := false) rfl rfl rfl rfl ?_; clear S a; intro a S
                  refine s_gF S (b := false) rfl rfl rfl rfl ?_; clear S a; intro a S
                  refine s_gF S (b := false) rfl rfl rfl rfl ?_; clear S a; intro a S
                  refine s_pick S (b := false) (hc_of rfl rfl) rfl rfl ?_; clear S a; intro a S
                  refine s_move S rfl rfl ?_; clear S a; intro a S
                  refine s_gF S (b := false) rfl rfl rfl rfl ?_; clear S a; intro a S
                  refine s_gF S (b := false) rfl rfl rfl rfl ?_; clear S a; intro a S
                  refine s_gF S (b := false) rfl rfl rfl rfl ?_; clear S a; intro a S
                  refine s_gF S (b := false) rfl rfl rfl rfl ?_; clear S a; intro a S
                  refine s_pick S (b := false) (hc_of rfl rfl) rfl rfl ?_; clear S a; intro a S
                  refine s_assign S rfl rfl ?_; clear S a; intro a S
                  refine c_end ?_
                  refine wp_ret ?_
                  obtain rfl := Option.some.inj h19
                  exact b_ret1 (d := (.v (.bool false))) S rfl rfl fun ok => S.retX (Hx := []) hb _ _ (() : Unit) .nil ok
              · refine s_gF S (b := (((t10).length : Int) == 0)) rfl rfl c7 rfl ?_; clear S a; intro a S
                refine s_gF S (b := (((t10).length : Int) == 0)) rfl rfl c7 rfl ?_; clear S a; intro a S
                refine s_gF S (b := (((t10).length : Int) == 0)) rfl rfl c7 rfl ?_; clear S a; intro a S
                refine s_gF S (b := (((t10).length : Int) == 0)) rfl rfl c7 rfl ?_; clear S a; intro a S
                refine s_gF S (b := (((t10).length : Int) == 0)) rfl rfl c7 rfl ?_; clear S a; intro a S
                refine s_gF S (b := (((t10).length : Int) == 0)) rfl rfl c7 rfl ?_; clear S a; intro a S
                refine s_gF S (b := (((t10).length : Int) == 0)) rfl rfl c7 rfl ?_; clear S a; intro a S
                refine s_pick S (b := false) (hc_of rfl c7) rfl rfl ?_; clear S a; intro a S
                refine s_move S rfl rfl ?_; clear S a; intro a S
                refine s_gF S (b := false) rfl rfl rfl rfl ?_; clear S a; intro a S
                refine s_gF S (b := false) rfl rfl rfl rfl ?_; clear S a; intro a S
                refine s_gF S (b := false) rfl rfl rfl rfl ?_; clear S a; intro a S
                refine s_pick S (b := false) (hc_of rfl rfl) rfl rfl ?_; clear S a; intro a S
                refine s_move S rfl rfl ?_; clear S a; intro a S
                refine s_gF S (b := false) rfl rfl rfl rfl ?_; clear S a; intro a S
                refine s_gF S (b := false) rfl rfl rfl rfl ?_; clear S a; intro a S
                refine s_gF S (b := false) rfl rfl rfl rfl ?_; clear S a; intro a S
                refine s_gF S (b := false) rfl rfl rfl rfl ?_; clear S a; intro a S
                refine s_gF S (b := false) rfl rfl rfl rfl ?_; clear S a; intro a S
                refine s_pick S (b := false) (hc_of rfl rfl) rfl rfl ?_; clear S a; intro a S
                refine s_move S rfl rfl ?_; clear S a; intro a S
                refine s_gF S (b := false) rfl rfl rfl rfl ?_; clear S a; intro a S
                refine s_gF S (b := false) rfl rfl rfl rfl ?_; clear S a; intro a S
                refine s_gF S (b := false) rfl rfl rfl rfl ?_; clear S a; intro a S
                refine s_pick S (b := false) (hc_of rfl rfl) rfl rfl ?_; clear S a; intro a S
                refine s_move S rfl rfl ?_; clear S a; intro a S
                refine s_gF S (b := false) rfl rfl rfl rfl ?_; clear S a; intro a S
                refine s_gF S (b := false) rfl rfl rfl rfl ?_; clear S a; intro a S
                refine s_pick S (b := false) (hc_of rfl rfl) rfl rfl ?_; clear S a; intro a S
                refine s_move S rfl rfl ?_; clear S a; intro a S
                refine s_gF S (b := false) rfl rfl rfl rfl ?_; clear S a; intro a S
                refine s_gF S (b := false) rfl rfl rfl rfl ?_; clear S a; intro a S
                refine s_gF S (b := false) rfl rfl rfl rfl ?_; clear S a; intro a S
                refine s_gF S (b := false) rfl rfl rfl rfl ?_; clear S a; intro a S
                refine s_gF S (b := false) rfl rfl rfl rfl ?_; clear S a; intro a S
                refine s_pick S (b := false) (hc_of rfl rfl) rfl rfl ?_; clear S a; intro a S
                refine s_move S rfl rfl ?_; clear S a; intro a S
                refine s_gF S (b := false) rfl rfl rfl rfl ?_; clear S a; intro a S
                refine s_gF S (b := false) rfl rfl rfl rfl ?_; clear S a; intro a S
                refine s_gF S (b := false) rfl rfl rfl rfl ?_; clear S a; intro a S
                refine s_gF S (b := false) rfl rfl rfl rfl ?_; clear S a; intro a S
                refine s_gF S (b := false) rfl rfl rfl rfl ?_; clear S a; intro a S
                refine s_pick S (b := false) (hc_of rfl rfl) rfl rfl ?_; clear S a; intro a S
                refine s_move S rfl rfl ?_; clear S a; intro a S
                refine s_gF S (b := false) rfl rfl rfl rfl ?_; clear S a; intro a S
                refine s_gF S (b := false) rfl rfl rfl rfl ?_; clear S a; intro a S
                refine s_gF S (b := false) rfl rfl rfl rfl ?_; clear S a; intro a S
                refine s_gF S (b := false) rfl rfl rfl rfl ?_; clear S a; intro a S
                refine s_pick S (b := false) (hc_of rfl rfl) rfl rfl ?_; clear S a; intro a S
                refine s_assign S rfl rfl ?_; clear S a; intro a S
                refine c_end ?_
                refine wp_ret ?_
                obtain rfl := Option.some.inj h16
                exact b_ret1 (d := (.v (.bool false))) S rfl rfl fun ok => S.retX (Hx := []) hb _ _ (() : Unit) .nil ok
            · refine s_gF S (b := (!t9)) rfl rfl c6 rfl ?_; clear S a; intro a S
              refine s_gF S (b := (!t9)) rfl rfl c6 rfl ?_; clear S a; intro a S
              refine s_gF S (b := (!t9)) rfl rfl c6 rfl ?_; clear S a; intro a S
              refine s_gF S (b := (!t9)) rfl rfl c6 rfl ?_; clear S a; intro a S
              refine s_gF S (b := (!t9)) rfl rfl c6 rfl ?_; clear S a; intro a S
              refine s_gF S (b := (!t9)) rfl rfl c6 rfl ?_; clear S a; intro a S
              refine s_gF S (b := (!t9)) rfl rfl c6 rfl ?_; clear S a; intro a S
              refine s_gF S (b := (!t9)) rfl rfl c6 rfl ?_; clear S a; intro a S
              refine s_pick S (b := false) (hc_of rfl c6) rfl rfl ?_; clear S a; intro a S
              refine s_move S rfl rfl ?_; clear S a; intro a S
              refine s_gF S (b := false) rfl rfl rfl rfl ?_; clear S a; intro a S
              refine s_gF S (b := false) rfl rfl rfl rfl ?_; clear S a; intro a S
              refine s_gF S (b := false) rfl rfl rfl rfl ?_; clear S a; intro a S
              refine s_gF S (b := false) rfl rfl rfl rfl ?_; clear S a; intro a S
              refine s_gF S (b := false) rfl rfl rfl rfl ?_; clear S a; intro a S
              refine s_gF S (b := false) rfl rfl rfl rfl ?_; clear S a; intro a S
              refine s_gF S (b := false) rfl rfl rfl rfl ?_; clear S a; intro a S
              refine s_pick S (b := false) (hc_of rfl rfl) rfl rfl ?_; clear S a; intro a S
              refine s_move S rfl rfl ?_; clear S a; intro a S
              refine s_gF S (b := false) rfl rfl rfl rfl ?_; clear S a; intro a S
              refine s_gF S (b := false) rfl rfl rfl rfl ?_; clear S a; intro a S
              refine s_gF S (b := false) rfl rfl rfl rfl ?_; clear S a; intro a S
              refine s_pick S (b := false) (hc_of rfl rfl) rfl rfl ?_; clear S a; intro a S
              refine s_move S rfl rfl ?_; clear S a; intro a S
              refine s_gF S (b := false) rfl rfl rfl rfl ?_; clear S a; intro a S
              refine s_gF S (b := false) rfl rfl rfl rfl ?_; clear S a; intro a S
              refine s_gF S (b := false) rfl rfl rfl rfl ?_; clear S a; intro a S
              refine s_gF S (b := false) rfl rfl rfl rfl ?_; clear S a; intro a S
              refine s_gF S (b := false) rfl rfl rfl rfl ?_; clear S a; intro a S
              refine s_pick S (b := false) (hc_of rfl rfl) rfl rfl ?_; clear S a; intro a S
              refine s_move S rfl rfl ?_; clear S a; intro a S
              refine s_gF S (b := false) rfl rfl rfl rfl ?_; clear S a; intro a S
              refine s_gF S (b := false) rfl rfl rfl rfl ?_; clear S a; intro a S
              refine s_gF S (b := false) rfl rfl rfl rfl ?_; clear S a; intro a S
              refine s_pick S (b := false) (hc_of rfl rfl) rfl rfl ?_; clear S a; intro a S
              refine s_move S rfl rfl ?_; clear S a; intro a S
              refine s_gF S (b := false) rfl rfl rfl rfl ?_; clear S a; intro a S
              refine s_gF S (b := false) rfl rfl rfl rfl ?_; clear S a; intro a S
              refine s_pick S (b := false) (hc_of rfl rfl) rfl rfl ?_; clear S a; intro a S
              refine s_move S rfl rfl ?_; clear S a; intro a S
              refine s_gF S (b := false) rfl rfl rfl rfl ?_; clear S a; intro a S
              refine s_gF S (b := false) rfl rfl rfl rfl ?_; clear S a; intro a S
              refine s_gF S (b := false) rfl rfl rfl rfl ?_; clear S a; intro a S
              refine s_gF S (b := false) rfl rfl rfl rfl ?_; clear S a; intro a S
              refine s_gF S (b := false) rfl rfl rfl rfl ?_; clear S a; intro a S
              refine s_pick S (b := false) (hc_of rfl rfl) rfl rfl ?_; clear S a; intro a S
              refine s_move S rfl rfl ?_; clear S a; intro a S
              refine s_gF S (b := false) rfl rfl rfl rfl ?_; clear S a; intro a S
              refine s_gF S (b := false) rfl rfl rfl rfl ?_; clear S a; intro a S
              refine s_gF S (b := false) rfl rfl rfl rfl ?_; clear S a; intro a S
              refine s_gF S (b := false) rfl rfl rfl rfl ?_; clear S a; intro a S
              refine s_gF S (b := false) rfl rfl rfl rfl ?_; clear S a; intro a S
              refine s_pick S (b := false) (hc_of rfl rfl) rfl rfl ?_; clear S a; intro a S
              refine s_move S rfl rfl ?_; clear S a; intro a S
              refine s_gF S (b := false) rfl rfl rfl rfl ?_; clear S a; intro a S
              refine s_gF S (b := false) rfl rfl rfl rfl ?_; clear S a; intro a S
              refine s_gF S (b := false) rfl rfl rfl rfl ?_; clear S a; intro a S
              refine s_gF S (b := false) rfl rfl rfl rfl ?_; clear S a; intro a S
              refine s_pick S (b := false) (hc_of rfl rfl) rfl rfl ?_; clear S a; intro a S
              refine s_assign S rfl rfl ?_; clear S a; intro a S
              refine c_end ?_
              refine wp_ret ?_
              obtain rfl := Option.some.inj h14
              exact b_ret1 (d := (.v (.bool false))) S rfl rfl fun ok => S.retX (Hx := []) hb _ _ (() : Unit) .nil ok
          · refine s_gF S (b := (!t2.2)) rfl rfl c5 rfl ?_; clear S a; intro a S
            refine s_gF S (b := (!t2.2)) rfl rfl c5 rfl ?_; clear S a; intro a S
            refine s_gF S (b := (!t2.2)) rfl rfl c5 rfl ?_; clear S a; intro a S
            refine s_gF S (b := (!t2.2)) rfl rfl c5 rfl ?_; clear S a; intro a S
            refine s_gF S (b := (!t2.2)) rfl rfl c5 rfl ?_; clear S a; intro a S
            refine s_gF S (b := (!t2.2)) rfl rfl c5 rfl ?_; clear S a; intro a S
            refine s_gF S (b := (!t2.2)) rfl rfl c5 rfl ?_; clear S a; intro a S
            refine s_pick S (b := false) (hc_of rfl c5) rfl rfl ?_; clear S a; intro a S
            refine s_move S rfl rfl ?_; clear S a; intro a S
            refine s_gF S (b := false) rfl rfl rfl rfl ?_; clear S a; intro a S
            refine s_gF S (b := false) rfl rfl rfl rfl ?_; clear S a; intro a S
            refine s_gF S (b := false) rfl rfl rfl rfl ?_; clear S a; intro a S
            refine s_gF S (b := false) rfl rfl rfl rfl ?_; clear S a; intro a S
            refine s_gF S (b := false) rfl rfl rfl rfl ?_; clear S a; intro a S
            refine s_gF S (b := false) rfl rfl rfl rfl ?_; clear S a; intro a S
            refine s_gF S (b := false) rfl rfl rfl rfl ?_; clear S a; intro a S
            refine s_gF S (b := false) rfl rfl rfl rfl ?_; clear S a; intro a S
            refine s_pick S (b := false) (hc_of rfl rfl) rfl rfl ?_; clear S a; intro a S
            refine s_move S rfl rfl ?_; clear S a; intro a S
            refine s_gF S (b := false) rfl rfl rfl rfl ?_; clear S a; intro a S
            refine s_gF S (b := false) rfl rfl rfl rfl ?_; clear S a; intro a S
            refine s_gF S (b := false) rfl rfl rfl rfl ?_; clear S a; intro a S
            refine s_gF S (b := false) rfl rfl rfl rfl ?_; clear S a; intro a S
            refine s_gF S (b := false) rfl rfl rfl rfl ?_; clear S a; intro a S
            refine s_gF S (b := false) rfl rfl rfl rfl ?_; clear S a; intro a S
            refine s_gF S (b := false) rfl rfl rfl rfl ?_; clear S a; intro a S
            refine s_pick S (b := false) (hc_of rfl rfl) rfl rfl ?_; clear S a; intro a S
            refine s_move S rfl rfl ?_; clear S a; intro a S
            refine s_gF S (b := false) rfl rfl rfl rfl ?_; clear S a; intro a S
            refine s_gF S (b := false) rfl rfl rfl rfl ?_; clear S a; intro a S
            refine s_gF S (b := false) rfl rfl rfl rfl ?_; clear S a; intro a S
            refine s_pick S (b := false) (hc_of rfl rfl) rfl rfl ?_; clear S a; intro a S
            refine s_move S rfl rfl ?_; clear S a; intro a S
            refine s_gF S (b := false) rfl rfl rfl rfl ?_; clear S a; intro a S
            refine s_gF S (b := false) rfl rfl rfl rfl ?_; clear S a; intro a S
            refine s_gF S (b := false) rfl rfl rfl rfl ?_; clear S a; intro a S
            refine s_gF S (b := false) rfl rfl rfl rfl ?_; clear S a; intro a S
            refine s_gF S (b := false) rfl rfl rfl rfl ?_; clear S a; intro a S
            refine s_pick S (b := false) (hc_of rfl rfl) rfl rfl ?_; clear S a; intro a S
            refine s_move S rfl rfl ?_; clear S a; intro a S
            refine s_gF S (b := false) rfl rfl rfl rfl ?_; clear S a; intro a S
            refine s_gF S (b := false) rfl rfl rfl rfl ?_; clear S a; intro a S
            refine s_gF S (b := false) rfl rfl rfl rfl ?_; clear S a; intro a S
            refine s_pick S (b := false) (hc_of rfl rfl) rfl rfl ?_; clear S a; intro a S
            refine s_move S rfl rfl ?_; clear S a; intro a S
            refine s_gF S (b := false) rfl rfl rfl rfl ?_; clear S a; intro a S
            refine s_gF S (b := false) rfl rfl rfl rfl ?_; clear S a; intro a S
            refine s_pick S (b := false) (hc_of rfl rfl) rfl rfl ?_; clear S a; intro a S
            refine s_move S rfl rfl ?_; clear S a; intro a S
            refine s_gF S (b := false) rfl rfl rfl rfl ?_; clear S a; intro a S
            refine s_gF S (b := false) rfl rfl rfl rfl ?_; clear S a; intro a S
            refine s_gF S (b := false) rfl rfl rfl rfl ?_; clear S a; intro a S
            refine s_gF S (b := false) rfl rfl rfl rfl ?_; clear S a; intro a S
            refine s_gF S (b := false) rfl rfl rfl rfl ?_; clear S a; intro a S
            refine s_pick S (b := false) (hc_of rfl rfl) rfl rfl ?_; clear S a; intro a S
            refine s_move S rfl rfl ?_; clear S a; intro a S
            refine s_gF S (b := false) rfl rfl rfl rfl ?_; clear S a; intro a S
            refine s_gF S (b := false) rfl rfl rfl rfl ?_; clear S a; intro a S
            refine s_gF S (b := false) rfl rfl rfl rfl ?_; clear S a; intro a S
            refine s_gF S (b := false) rfl rfl rfl rfl ?_; clear S a; intro a S
            refine s_gF S (b := false) rfl rfl rfl rfl ?_; clear S a; intro a S
            refine s_pick S (b := false) (hc_of rfl rfl) rfl rfl ?_; clear S a; intro a S
            refine s_move S rfl rfl ?_; clear S a; intro a S
            refine s_gF S (b := false) rfl rfl rfl rfl ?_; clear S a; intro a S
            refine s_gF S (b := false) rfl rfl rfl rfl ?_; clear S a; intro a S
            refine s_gF S (b := false) rfl rfl rfl rfl ?_; clear S a; intro a S
            refine s_gF S (b := false) rfl rfl rfl rfl ?_; clear S a; intro a S
            refine s_pick S (b := false) (hc_of rfl rfl) rfl rfl ?_; clear S a; intro a S
            refine s_assign S rfl rfl ?_; clear S a; intro a S
            refine c_end ?_
            refine wp_ret ?_
            obtain rfl := Option.some.inj h12
            exact b_ret1 (d := (.v (.bool false))) S rfl rfl fun ok => S.retX (Hx := []) hb _ _ (() : Unit) .nil ok
        · refine s_gF S (b := (t2.1 == 0)) rfl rfl c4 rfl ?_; clear S a; intro a S
          refine s_gF S (b := (t2.1 == 0)) rfl rfl c4 rfl ?_; clear S a; intro a S
          refine s_pick S (b := false) (hc_of rfl c4) rfl rfl ?_; clear S a; intro a S
          refine s_move S rfl rfl ?_; clear S a; intro a S
          refine s_gF S (b := false) rfl rfl rfl rfl ?_; clear S a; intro a S
          refine s_gF S (b := false) rfl rfl rfl rfl ?_; clear S a; intro a S
          refine s_gF S (b := false) rfl rfl rfl rfl ?_; clear S a; intro a S
          refine s_gF S (b := false) rfl rfl rfl rfl ?_; clear S a; intro a S
          refine s_gF S (b := false) rfl rfl rfl rfl ?_; clear S a; intro a S
          refine s_gF S (b := false) rfl rfl rfl rfl ?_; clear S a; intro a S
          refine s_gF S (b := false) rfl rfl rfl rfl ?_; clear S a; intro a S
          refine s_pick S (b := false) (hc_of rfl rfl) rfl rfl ?_; clear S a; intro a S
          refine s_move S rfl rfl ?_; clear S a; intro a S
          refine s_gF S (b := false) rfl rfl rfl rfl ?_; clear S a; intro a S
          refine s_gF S (b := false) rfl rfl rfl rfl ?_; clear S a; intro a S
          refine s_gF S (b := false) rfl rfl rfl rfl ?_; clear S a; intro a S
          refine s_gF S (b := false) rfl rfl rfl rfl ?_; clear S a; intro a S
          refine s_gF S (b := false) rfl rfl rfl rfl ?_; clear S a; intro a S
          refine s_gF S (b := false) rfl rfl rfl rfl ?_; clear S a; intro a S
          refine s_gF S (b := false) rfl rfl rfl rfl ?_; clear S a; intro a S
          refine s_gF S (b := false) rfl rfl rfl rfl ?_; clear S a; intro a S
          refine s_pick S (b := false) (hc_of rfl rfl) rfl rfl ?_; clear S a; intro a S
          refine s_move S rfl rfl ?_; clear S a; intro a S
          refine s_gF S (b := false) rfl rfl rfl rfl ?_; clear S a; intro a S
          refine s_gF S (b := false) rfl rfl rfl rfl ?_; clear S a; intro a S
          refine s_gF S (b := false) rfl rfl rfl rfl ?_; clear S a; intro a S
          refine s_gF S (b := false) rfl rfl rfl rfl ?_; clear S a; intro a S
          refine s_gF S (b := false) rfl rfl rfl rfl ?_; clear S a; intro a S
          refine s_gF S (b := false) rfl rfl rfl rfl ?_; clear S a; intro a S
          refine s_gF S (b := false) rfl rfl rfl rfl ?_; clear S a; intro a S
          refine s_pick S (b := false) (hc_of rfl rfl) rfl rfl ?_; clear S a; intro a S
          refine s_move S rfl rfl ?_; clear S a; intro a S
          refine s_gF S (b := false) rfl rfl rfl rfl ?_; clear S a; intro a S
          refine s_gF S (b := false) rfl rfl rfl rfl ?_; clear S a; intro a S
          refine s_gF S (b := false) rfl rfl rfl rfl ?_; clear S a; intro a S
          refine s_pick S (b := false) (hc_of rfl rfl) rfl rfl ?_; clear S a; intro a S
          refine s_move S rfl rfl ?_; clear S a; intro a S
          refine s_gF S (b := false) rfl rfl rfl rfl ?_; clear S a; intro a S
          refine s_gF S (b := false) rfl rfl rfl rfl ?_; clear S a; intro a S
          refine s_gF S (b := false) rfl rfl rfl rfl ?_; clear S a; intro a S
          refine s_gF S (b := false) rfl rfl rfl rfl ?_; clear S a; intro a S
          refine s_gF S (b := false) rfl rfl rfl rfl ?_; clear S a; intro a S
          refine s_pick S (b := false) (hc_of rfl rfl) rfl rfl ?_; clear S a; intro a S
          refine s_move S rfl rfl ?_; clear S a; intro a S
          refine s_gF S (b := false) rfl rfl rfl rfl ?_; clear S a; intro a S
          refine s_gF S (b := false) rfl rfl rfl rfl ?_; clear S a; intro a S
          refine s_gF S (b := false) rfl rfl rfl rfl ?_; clear S a; intro a S
          refine s_pick S (b := false) (hc_of rfl rfl) rfl rfl ?_; clear S a; intro a S
          refine s_move S rfl rfl ?_; clear S a; intro a S
          refine s_gF S (b := false) rfl rfl rfl rfl ?_; clear S a; intro a S
          refine s_gF S (b := false) rfl rfl rfl rfl ?_; clear S a; intro a S
          refine s_pick S (b := false) (hc_of rfl rfl) rfl rfl ?_; clear S a; intro a S
          refine s_move S rfl rfl ?_; clear S a; intro a S
          refine s_gF S (b := false) rfl rfl rfl rfl ?_; clear S a; intro a S
          refine s_gF S (b := false) rfl rfl rfl rfl ?_; clear S a; intro a S
          refine s_gF S (b := false) rfl rfl rfl rfl ?_; clear S a; intro a S
          refine s_gF S (b := false) rfl rfl rfl rfl ?_; clear S a; intro a S
          refine s_gF S (b := false) rfl rfl rfl rfl ?_; clear S a; intro a S
          refine s_pick S (b := false) (hc_of rfl rfl) rfl rfl ?_; clear S a; intro a S
          refine s_move S rfl rfl ?_; clear S a; intro a S
          refine s_gF S (b := false) rfl rfl rfl rfl ?_; clear S a; intro a S
          refine s_gF S (b := false) rfl rfl rfl rfl ?_; clear S a; intro a S
          refine s_gF S (b := false) rfl rfl rfl rfl ?_; clear S a; intro a S
          refine s_gF S (b := false) rfl rfl rfl rfl ?_; clear S a; intro a S
          refine s_gF S (b := false) rfl rfl rfl rfl ?_; clear S a; intro a S
          refine s_pick S (b := false) (hc_of rfl rfl) rfl rfl ?_; clear S a; intro a S
          refine s_move S rfl rfl ?_; clear S a; intro a S
          refine s_gF S (b := false) rfl rfl rfl rfl ?_; clear S a; intro a S
          refine s_gF S (b := false) rfl rfl rfl rfl ?_; clear S a; intro a S
          refine s_gF S (b := false) rfl rfl rfl rfl ?_; clear S a; intro a S
          refine s_gF S (b := false) rfl rfl rfl rfl ?_; clear S a; intro a S
          refine s_pick S (b := false) (hc_of rfl rfl) rfl rfl ?_; clear S a; intro a S
          refine s_assign S rfl rfl ?_; clear S a; intro a S
          refine c_end ?_
          refine wp_ret ?_
          obtain rfl := Option.some.inj h11
          exact b_ret1 (d := (.v (.bool false))) S rfl rfl fun ok => S.retX (Hx := []) hb _ _ (() : Unit) .nil ok
      · refine s_gF S (b := (t8 == 0)) rfl rfl c3 rfl ?_; clear S a; intro a S
        refine s_gF S (b := (t8 == 0)) rfl rfl c3 rfl ?_; clear S a; intro a S
        refine s_pick S (b := false) (hc_of rfl c3) rfl rfl ?_; clear S a; intro a S
        refine s_move S rfl rfl ?_; clear S a; intro a S
        refine s_gF S (b := false) rfl rfl rfl rfl ?_; clear S a; intro a S
        refine s_gF S (b := false) rfl rfl rfl rfl ?_; clear S a; intro a S
        refine s_pick S (b := false) (hc_of rfl rfl) rfl rfl ?_; clear S a; intro a S
        refine s_move S rfl rfl ?_; clear S a; intro a S
        refine s_gF S (b := false) rfl rfl rfl rfl ?_; clear S a; intro a S
        refine s_gF S (b := false) rfl rfl rfl rfl ?_; clear S a; intro a S
        refine s_gF S (b := false) rfl rfl rfl rfl ?_; clear S a; intro a S
        refine s_gF S (b := false) rfl rfl rfl rfl ?_; clear S a; intro a S
        refine s_gF S (b := false) rfl rfl rfl rfl ?_; clear S a; intro a S
        refine s_gF S (b := false) rfl rfl rfl rfl ?_; clear S a; intro a S
        refine s_gF S (b := false) rfl rfl rfl rfl ?_; clear S a; intro a S
        refine s_pick S (b := false) (hc_of rfl rfl) rfl rfl ?_; clear S a; intro a S
        refine s_move S rfl rfl ?_; clear S a; intro a S
        refine s_gF S (b := false) rfl rfl rfl rfl ?_; clear S a; intro a S
        refine s_gF S (b := false) rfl rfl rfl rfl ?_; clear S a; intro a S
        refine s_gF S (b := false) rfl rfl rfl rfl ?_; clear S a; intro a S
        refine s_gF S (b := false) rfl rfl rfl rfl ?_; clear S a; intro a S
        refine s_gF S (b := false) rfl rfl rfl rfl ?_; clear S a; intro a S
        refine s_gF S (b := false) rfl rfl rfl rfl ?_; clear S a; intro a S
        refine s_gF S (b := false) rfl rfl rfl rfl ?_; clear S a; intro a S
        refine s_gF S (b := false) rfl rfl rfl rfl ?_; clear S a; intro a S
        refine s_pick S (b := false) (hc_of rfl rfl) rfl rfl ?_; clear S a; intro a S
        refine s_move S rfl rfl ?_; clear S a; intro a S
        refine s_gF S (b := false) rfl rfl rfl rfl ?_; clear S a; intro a S
        refine s_gF S (b := false) rfl rfl rfl rfl ?_; clear S a; intro a S
        refine s_gF S (b := false) rfl rfl rfl rfl ?_; clear S a; intro a S
        refine s_gF S (b := false) rfl rfl rfl rfl ?_; clear S a; intro a S
        refine s_gF S (b := false) rfl rfl rfl rfl ?_; clear S a; intro a S
        refine s_gF S (b := false) rfl rfl rfl rfl ?_; clear S a; intro a S
        refine s_gF S (b := false) rfl rfl rfl rfl ?_; clear S a; intro a S
        refine s_pick S (b := false) (hc_of rfl rfl) rfl rfl ?_; clear S a; intro a S
        refine s_move S rfl rfl ?_; clear S a; intro a S
        refine s_gF S (b := false) rfl rfl rfl rfl ?_; clear S a; intro a S
        refine s_gF S (b := false) rfl rfl rfl rfl ?_; clear S a; intro a S
        refine s_gF S (b := false) rfl rfl rfl rfl ?_; clear S a; intro a S
        refine s_pick S (b := false) (hc_of rfl rfl) rfl rfl ?_; clear S a; intro a S
        refine s_move S rfl rfl ?_; clear S a; intro a S
        refine s_gF S (b := false) rfl rfl rfl rfl ?_; clear S a; intro a S
        refine s_gF S (b := false) rfl rfl rfl rfl ?_; clear S a; intro a S
        refine s_gF S (b := false) rfl rfl rfl rfl ?_; clear S a; intro a S
        refine s_gF S (b := false) rfl rfl rfl rfl ?_; clear S a; intro a S
        refine s_gF S (b := false) rfl rfl rfl rfl ?_; clear S a; intro a S
        refine s_pick S (b := false) (hc_of rfl rfl) rfl rfl ?_; clear S a; intro a S
        refine s_move S rfl rfl ?_; clear S a; intro a S
        refine s_gF S (b := false) rfl rfl rfl rfl ?_; clear S a; intro a S
        refine s_gF S (b := false) rfl rfl rfl rfl ?_; clear S a; intro a S
        refine s_gF S (b := false) rfl rfl rfl rfl ?_; clear S a; intro a S
        refine s_pick S (b := false) (hc_of rfl rfl) rfl rfl ?_; clear S a; intro a S
        refine s_move S rfl rfl ?_; clear S a; intro a S
        refine s_gF S (b := false) rfl rfl rfl rfl ?_; clear S a; intro a S
        refine s_gF S (b := false) rfl rfl rfl rfl ?_; clear S a; intro a S
        refine s_pick S (b := false) (hc_of rfl rfl) rfl rfl ?_; clear S a; intro a S
        refine s_move S rfl rfl ?_; clear S a; intro a S
        refine s_gF S (b := false) rfl rfl rfl rfl ?_; clear S a; intro a S
        refine s_gF S (b := false) rfl rfl rfl rfl ?_; clear S a; intro a S
        refine s_gF S (b := false) rfl rfl rfl rfl ?_; clear S a; intro a S
        refine s_gF S (b := false) rfl rfl rfl rfl ?_; clear S a; intro a S
        refine s_gF S (b := false) rfl rfl rfl rfl ?_; clear S a; intro a S
        refine s_pick S (b := false) (hc_of rfl rfl) rfl rfl ?_; clear S a; intro a S
        refine s_move S rfl rfl ?_; clear S a; intro a S
        refine s_gF S (b := false) rfl rfl rfl rfl ?_; clear S a; intro a S
        refine s_gF S (b := false) rfl rfl rfl rfl ?_; clear S a; intro a S
        refine s_gF S (b := false) rfl rfl rfl rfl ?_; clear S a; intro a S
        refine s_gF S (b := false) rfl rfl rfl rfl ?_; clear S a; intro a S
        refine s_gF S (b := false) rfl rfl rfl rfl ?_; clear S a; intro a S
        refine s_pick S (b := false) (hc_of rfl rfl) rfl rfl ?_; clear S a; intro a S
        refine s_move S rfl rfl ?_; clear S a; intro a S
        refine s_gF S (b := false) rfl rfl rfl rfl ?_; clear S a; intro a S
        refine s_gF S (b := false) rfl rfl rfl rfl ?_; clear S a; intro a S
        refine s_gF S (b := false) rfl rfl rfl rfl ?_; clear S a; intro a S
        refine s_gF S (b := false) rfl rfl rfl rfl ?_; clear S a; intro a S
        refine s_pick S (b := false) (hc_of rfl rfl) rfl rfl ?_; clear S a; intro a S
        refine s_assign S rfl rfl ?_; clear S a; intro a S
        refine c_end ?_
        refine wp_ret ?_
        obtain rfl := Option.some.inj h10
        exact b_ret1 (d := (.v (.bool false))) S rfl rfl fun ok => S.retX (Hx := []) hb _ _ (() : Unit) .nil ok
    · refine s_gF S (b := t7) rfl rfl c2 rfl ?_; clear S a; intro a S
      refine s_gF S (b := t7) rfl rfl c2 rfl ?_; clear S a; intro a S
      refine s_gF S (b := t7) rfl rfl c2 rfl ?_; clear S a; intro a S
      refine s_pick S (b := false) (hc_of rfl c2) rfl rfl ?_; clear S a; intro a S
      refine s_move S rfl rfl ?_; clear S a; intro a S
      refine s_gF S (b := false) rfl rfl rfl rfl ?_; clear S a; intro a S
      refine s_gF S (b := false) rfl rfl rfl rfl ?_; clear S a; intro a S
      refine s_pick S (b := false) (hc_of rfl rfl) rfl rfl ?_; clear S a; intro a S
      refine s_move S rfl rfl ?_; clear S a; intro a S
      refine s_gF S (b := false) rfl rfl rfl rfl ?_; clear S a; intro a S
      refine s_gF S (b := false) rfl rfl rfl rfl ?_; clear S a; intro a S
      refine s_pick S (b := false) (hc_of rfl rfl) rfl rfl ?_; clear S a; intro a S
      refine s_move S rfl rfl ?_; clear S a; intro a S
      refine s_gF S (b := false) rfl rfl rfl rfl ?_; clear S a; intro a S
      refine s_gF S (b := false) rfl rfl rfl rfl ?_; clear S a; intro a S
      refine s_gF S (b := false) rfl rfl rfl rfl ?_; clear S a; intro a S
      refine s_gF S (b := false) rfl rfl rfl rfl ?_; clear S a; intro a S
      refine s_gF S (b := false) rfl rfl rfl rfl ?_; clear S a; intro a S
      refine s_gF S (b := false) rfl rfl rfl rfl ?_; clear S a; intro a S
      refine s_gF S (b := false) rfl rfl rfl rfl ?_; clear S a; intro a S
      refine s_pick S (b := false) (hc_of rfl rfl) rfl rfl ?_; clear S a; intro a S
      refine s_move S rfl rfl ?_; clear S a; intro a S
      refine s_gF S (b := false) rfl rfl rfl rfl ?_; clear S a; intro a S
      refine s_gF S (b := false) rfl rfl rfl rfl ?_; clear S a; intro a S
      refine s_gF S (b := false) rfl rfl rfl rfl ?_; clear S a; intro a S
      refine s_gF S (b := false) rfl rfl rfl rfl ?_; clear S a; intro a S
      refine s_gF S (b := false) rfl rfl rfl rfl ?_; clear S a; intro a S
      refine s_gF S (b := false) rfl rfl rfl rfl ?_; clear S a; intro a S
      refine s_gF S (b := false) rfl rfl rfl rfl ?_; clear S a; intro a S
      refine s_gF S (b := false) rfl rfl rfl rfl ?_; clear S a; intro a S
      refine s_pick S (b := false) (hc_of rfl rfl) rfl rfl ?_; clear S a; intro a S
      refine s_move S rfl rfl ?_; clear S a; intro a S
      refine s_gF S (b := false) rfl rfl rfl rfl ?_; clear S a; intro a S
      refine s_gF S (b := false) rfl rfl rfl rfl ?_; clear S a; intro a S
      refine s_gF S (b := false) rfl rfl rfl rfl ?_; clear S a; intro a S
      refine s_gF S (b := false) rfl rfl rfl rfl ?_; clear S a; intro a S
      refine s_gF S (b := false) rfl rfl rfl rfl ?_; clear S a; intro a S
      refine s_gF S (b := false) rfl rfl rfl rfl ?_; clear S a; intro a S
      refine s_gF S (b := false) rfl rfl rfl rfl ?_; clear S a; intro a S
      refine s_pick S (b := false) (hc_of rfl rfl) rfl rfl ?_; clear S a; intro a S
      refine s_move S rfl rfl ?_; clear S a; intro a S
      refine s_gF S (b := false) rfl rfl rfl rfl ?_; clear S a; intro a S
      refine s_gF S (b := false) rfl rfl rfl rfl ?_; clear S a; intro a S
      refine s_gF S (b := false) rfl rfl rfl rfl ?_; clear S a; intro a S
      refine s_pick S (b := false) (hc_of rfl rfl) rfl rfl ?_; clear S a; intro a S
      refine s_move S rfl rfl ?_; clear S a; intro a S
      refine s_gF S (b := false) rfl rfl rfl rfl ?_; clear S a; intro a S
      refine s_gF S (b := false) rfl rfl rfl rfl ?_; clear S a; intro a S
      refine s_gF S (b := false) rfl rfl rfl rfl ?_; clear S a; intro a S
      refine s_gF S (b := false) rfl rfl rfl rfl ?_; clear S a; intro a S
      refine s_gF S (b := false) rfl rfl rfl rfl ?_; clear S a; intro a S
      refine s_pick S (b := false) (hc_of rfl rfl) rfl rfl ?_; clear S a; intro a S
      refine s_move S rfl rfl ?_; clear S a; intro a S
      refine s_gF S (b := false) rfl rfl rfl rfl ?_; clear S a; intro a S
      refine s_gF S (b := false) rfl rfl rfl rfl ?_; clear S a; intro a S
      refine s_gF S (b := false) rfl rfl rfl rfl ?_; clear S a; intro a S
      refine s_pick S (b := false) (hc_of rfl rfl) rfl rfl ?_; clear S a; intro a S
      refine s_move S rfl rfl ?_; clear S a; intro a S
      refine s_gF S (b := false) rfl rfl rfl rfl ?_; clear S a; intro a S
      refine s_gF S (b := false) rfl rfl rfl rfl ?_; clear S a; intro a S
      refine s_pick S (b := false) (hc_of rfl rfl) rfl rfl ?_; clear S a; intro a S
      refine s_move S rfl rfl ?_; clear S a; intro a S
      refine s_gF S (b := false) rfl rfl rfl rfl ?_; clear S a; intro a S
      refine s_gF S (b := false) rfl rfl rfl rfl ?_; clear S a; intro a S
      refine s_gF S (b := false) rfl rfl rfl rfl ?_; clear S a; intro a S
      refine s_gF S (b := false) rfl rfl rfl rfl ?_; clear S a; intro a S
      refine s_gF S (b := false) rfl rfl rfl rfl ?_; clear S a; intro a S
      refine s_pick S (b := false) (hc_of rfl rfl) rfl rfl ?_; clear S a; intro a S
      refine s_move S rfl rfl ?_; clear S a; intro a S
      refine s_gF S (b := false) rfl rfl rfl rfl ?_; clear S a; intro a S
      refine s_gF S (b := false) rfl rfl rfl rfl ?_; clear S a; intro a S
      refine s_gF S (b := false) rfl rfl rfl rfl ?_; clear S a; intro a S
      refine s_gF S (b := false) rfl rfl rfl rfl ?_; clear S a; intro a S
      refine s_gF S (b := false) rfl rfl rfl rfl ?_; clear S a; intro a S
      refine s_pick S (b := false) (hc_of rfl rfl) rfl rfl ?_; clear S a; intro a S
      refine s_move S rfl rfl ?_; clear S a; intro a S
      refine s_gF S (b := false) rfl rfl rfl rfl ?_; clear S a; intro a S
      refine s_gF S (b := false) rfl rfl rfl rfl ?_; clear S a; intro a S
      refine s_gF S (b := false) rfl rfl rfl rfl ?_; clear S a; intro a S
      refine s_gF S (b := false) rfl rfl rfl rfl ?_; clear S a; intro a S
      refine s_pick S (b := false) (hc_of rfl rfl) rfl rfl ?_; clear S a; intro a S
      refine s_assign S rfl rfl ?_; clear S a; intro a S
      refine c_end ?_
      refine wp_ret ?_
      obtain rfl := Option.some.inj h8
      exact b_ret1 (d := (.v (.bool false))) S rfl rfl fun ok => S.retX (Hx := []) hb _ _ (() : Unit) .nil ok
end GW
