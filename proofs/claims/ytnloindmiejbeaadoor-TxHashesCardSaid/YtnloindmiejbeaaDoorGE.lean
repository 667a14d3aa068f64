/-
  Printed by a program of these sessions (wip/gw/gx.py): for each Go function a Lean function with the same answers, and the walk that shows it.
-/
import Derived.Test.YtnloindmiejbeaaDoorProg
import Derived.Test.YtnloindmiejbeaaDoorGD
set_option linter.unusedVariables false
set_option maxRecDepth 10000
namespace GW
open Go Go.RowKit Go.Proofs
/-! smithy/smithyref19.Hash -/
abbrev smithyref19_Hash.Ty : Type := ((List Int) × (List Int) × Bool × Int × (List Int) × (List Int) × Int × (List Int) × (List Int) × (List ((List Int) × (List (List Int))))) → Option ((List Int))
def smithyref19_Hash.Ctr (s : smithyref19_Hash.Ty) : Prop := ∀ (x1 : (List Int) × (List Int) × Bool × Int × (List Int) × (List Int) × Int × (List Int) × (List Int) × (List ((List Int) × (List (List Int))))) (ch_0_0 : Option Addr) (ch_0_1 : Nat) (ch_0_2 : Option Addr) (ch_0_3 : Nat) (r : (List Int)) (h0 : s x1 = some r) (mi : Mem) (w0 : World), okL mi [(.agg [.ints .u8 x1.1 20, .ints .u8 x1.2.1 20, .one (.bool x1.2.2.1), .one (.int .u64 x1.2.2.2.1), .ints .u64 x1.2.2.2.2.1 4, .sl ch_0_0 (x1.2.2.2.2.2.1).length ch_0_1 (RdS (Ty.int .u8) ch_0_0 x1.2.2.2.2.2.1), .one (.int .u64 x1.2.2.2.2.2.2.1), .ints .u64 x1.2.2.2.2.2.2.2.1 4, .ints .u64 x1.2.2.2.2.2.2.2.2.1 4, .sl ch_0_2 (x1.2.2.2.2.2.2.2.2.2).length ch_0_3 (RdS (Ty.prod (Ty.arr .u8 20) (Ty.slice (Ty.arr .u64 4))) ch_0_2 x1.2.2.2.2.2.2.2.2.2)])] → Pre mi [] w0 → Calls Tryd.prog 7 (([(.agg [.ints .u8 x1.1 20, .ints .u8 x1.2.1 20, .one (.bool x1.2.2.1), .one (.int .u64 x1.2.2.2.1), .ints .u64 x1.2.2.2.2.1 4, .sl ch_0_0 (x1.2.2.2.2.2.1).length ch_0_1 (RdS (Ty.int .u8) ch_0_0 x1.2.2.2.2.2.1), .one (.int .u64 x1.2.2.2.2.2.2.1), .ints .u64 x1.2.2.2.2.2.2.2.1 4, .ints .u64 x1.2.2.2.2.2.2.2.2.1 4, .sl ch_0_2 (x1.2.2.2.2.2.2.2.2.2).length ch_0_3 (RdS (Ty.prod (Ty.arr .u8 20) (Ty.slice (Ty.arr .u64 4))) ch_0_2 x1.2.2.2.2.2.2.2.2.2)])] : List D).map D.val).toArray w0 (RetX mi [] (fun (ch : Unit) => ((.agg [.ints .u8 r 32]) : D)) (fun (ch : Unit) => []) w0)
def smithyref19_Hash.j3 (k : Nat) (y2 : List (Bool × (List Int) × Int)) (y19 : List (Bool × (List Int) × Int)) : Option ((List Int)) := if ((y2).length + ([(true, ([] : List Int), ((y19).length : Int))]).length) * 40 ≤ 140737488355328 then (if ((y2 ++ [(true, ([] : List Int), ((y19).length : Int))]).length + (y19).length) * 40 ≤ 140737488355328 then (if (0 : Int) ≤ 0 ∧ 0 < (((y2 ++ [(true, ([] : List Int), ((y19).length : Int))]) ++ y19).length : Int) then ((smithyref07_Encode.f k (((y2 ++ [(true, ([] : List Int), ((y19).length : Int))]) ++ y19).set (Int.toNat 0) ((gt ((y2 ++ [(true, ([] : List Int), ((y19).length : Int))]) ++ y19) 0).1, (gt ((y2 ++ [(true, ([] : List Int), ((y19).length : Int))]) ++ y19) 0).2.1, wr .i64 ((((y2 ++ [(true, ([] : List Int), ((y19).length : Int))]) ++ y19).length : Int) - 1)))).bind fun t15 => ((smithyref05_Sum.f k t15.1).bind fun t16 => (some t16))) else none) else none) else none
def smithyref19_Hash.j4 (y34 : Int) (rec1 : Int → (List (Bool × (List Int) × Int)) → Option ((List Int))) (y41 : List (Bool × (List Int) × Int)) : Option ((List Int)) := rec1 (wr .i64 (y34 + 1)) y41
def smithyref19_Hash.b2 (k : Nat) (x1 : (List Int) × (List Int) × Bool × Int × (List Int) × (List Int) × Int × (List Int) × (List Int) × (List ((List Int) × (List (List Int))))) (y34 : Int) (rec1 : Int → (List (Bool × (List Int) × Int)) → Option ((List Int))) (rec2 : Int → (List (Bool × (List Int) × Int)) → Option ((List Int))) (y45 : Int) (y46 : List (Bool × (List Int) × Int)) : Option ((List Int)) := if (decide (y45 < (((gt x1.2.2.2.2.2.2.2.2.2 y34).2).length : Int))) = true then (if (0 : Int) ≤ y45 ∧ y45 < (((gt x1.2.2.2.2.2.2.2.2.2 y34).2).length : Int) then ((smithyref01_Of.f k (gt ((gt x1.2.2.2.2.2.2.2.2.2 y34).2) y45)).bind fun t24 => ((smithyref01_D_Bytes.f k t24).bind fun t25 => (if ((([] : List Int)).length + (((t25).drop 0).take 32).length) * 1 ≤ 140737488355328 then ((smithyref19_item.f (([] : List Int) ++ (((t25).drop 0).take 32))).bind fun t26 => (if ((y46).length + ([(t26.1, t26.2.1, t26.2.2)]).length) * 40 ≤ 140737488355328 then (rec2 (wr .i64 (y45 + 1)) (y46 ++ [(t26.1, t26.2.1, t26.2.2)])) else none)) else none))) else none) else (smithyref19_Hash.j4 y34 rec1 y46)
def smithyref19_Hash.l2 (k : Nat) (x1 : (List Int) × (List Int) × Bool × Int × (List Int) × (List Int) × Int × (List Int) × (List Int) × (List ((List Int) × (List (List Int))))) (y34 : Int) (rec1 : Int → (List (Bool × (List Int) × Int)) → Option ((List Int))) : Nat → Int → (List (Bool × (List Int) × Int)) → Option ((List Int))
  | 0, _, _ => none
  | q + 1, y45, y46 => smithyref19_Hash.b2 k x1 y34 rec1 (smithyref19_Hash.l2 k x1 y34 rec1 q) y45 y46
def smithyref19_Hash.j5 (k : Nat) (x1 : (List Int) × (List Int) × Bool × Int × (List Int) × (List Int) × Int × (List Int) × (List Int) × (List ((List Int) × (List (List Int))))) (y34 : Int) (rec1 : Int → (List (Bool × (List Int) × Int)) → Option ((List Int))) (y42 : List (Bool × (List Int) × Int)) : Option ((List Int)) := smithyref19_Hash.l2 k x1 y34 rec1 k 0 y42
def smithyref19_Hash.b1 (k : Nat) (x1 : (List Int) × (List Int) × Bool × Int × (List Int) × (List Int) × Int × (List Int) × (List Int) × (List ((List Int) × (List (List Int))))) (y2 : List (Bool × (List Int) × Int)) (rec1 : Int → (List (Bool × (List Int) × Int)) → Option ((List Int))) (y34 : Int) (y35 : List (Bool × (List Int) × Int)) : Option ((List Int)) := if (decide (y34 < ((x1.2.2.2.2.2.2.2.2.2).length : Int))) = true then (if (0 : Int) ≤ y34 ∧ y34 < ((x1.2.2.2.2.2.2.2.2.2).length : Int) then (if ((([] : List Int)).length + ((((gt x1.2.2.2.2.2.2.2.2.2 y34).1).drop 0).take 20).length) * 1 ≤ 140737488355328 then ((smithyref19_item.f (([] : List Int) ++ ((((gt x1.2.2.2.2.2.2.2.2.2 y34).1).drop 0).take 20))).bind fun t27 => (if ((y35).length + ([(true, ([] : List Int), wr .i64 ((((gt x1.2.2.2.2.2.2.2.2.2 y34).2).length : Int) + 2)), (t27.1, t27.2.1, t27.2.2), (true, ([] : List Int), (((gt x1.2.2.2.2.2.2.2.2.2 y34).2).length : Int))]).length) * 40 ≤ 140737488355328 then (smithyref19_Hash.j5 k x1 y34 rec1 (y35 ++ [(true, ([] : List Int), wr .i64 ((((gt x1.2.2.2.2.2.2.2.2.2 y34).2).length : Int) + 2)), (t27.1, t27.2.1, t27.2.2), (true, ([] : List Int), (((gt x1.2.2.2.2.2.2.2.2.2 y34).2).length : Int))])) else none)) else none) else none) else (smithyref19_Hash.j3 k y2 y35)
def smithyref19_Hash.l1 (k : Nat) (x1 : (List Int) × (List Int) × Bool × Int × (List Int) × (List Int) × Int × (List Int) × (List Int) × (List ((List Int) × (List (List Int))))) (y2 : List (Bool × (List Int) × Int)) : Nat → Int → (List (Bool × (List Int) × Int)) → Option ((List Int))
  | 0, _, _ => none
  | q + 1, y34, y35 => smithyref19_Hash.b1 k x1 y2 (smithyref19_Hash.l1 k x1 y2 q) y34 y35
def smithyref19_Hash.j2 (k : Nat) (x1 : (List Int) × (List Int) × Bool × Int × (List Int) × (List Int) × Int × (List Int) × (List Int) × (List ((List Int) × (List (List Int))))) (y2 : List (Bool × (List Int) × Int)) : Option ((List Int)) := smithyref19_Hash.l1 k x1 y2 k 0 ([] : List (Bool × (List Int) × Int))
def smithyref19_Hash.j1 (k : Nat) (x1 : (List Int) × (List Int) × Bool × Int × (List Int) × (List Int) × Int × (List Int) × (List Int) × (List ((List Int) × (List (List Int))))) (y1 : List (Bool × (List Int) × Int)) : Option ((List Int)) := (smithyref07_Number.f k x1.2.2.2.2.1).bind fun t28 => ((smithyref19_item.f t28).bind fun t29 => ((smithyref19_item.f x1.2.2.2.2.2.1).bind fun t30 => ((smithyref07_Number.f k [x1.2.2.2.2.2.2.1, 0, 0, 0]).bind fun t31 => ((smithyref19_item.f t31).bind fun t32 => ((smithyref07_Number.f k x1.2.2.2.2.2.2.2.1).bind fun t33 => ((smithyref19_item.f t33).bind fun t34 => ((smithyref07_Number.f k x1.2.2.2.2.2.2.2.2.1).bind fun t35 => ((smithyref19_item.f t35).bind fun t36 => (if ((y1).length + ([(t29.1, t29.2.1, t29.2.2), (t30.1, t30.2.1, t30.2.2), (t32.1, t32.2.1, t32.2.2), (t34.1, t34.2.1, t34.2.2), (t36.1, t36.2.1, t36.2.2)]).length) * 40 ≤ 140737488355328 then (smithyref19_Hash.j2 k x1 (y1 ++ [(t29.1, t29.2.1, t29.2.2), (t30.1, t30.2.1, t30.2.2), (t32.1, t32.2.1, t32.2.2), (t34.1, t34.2.1, t34.2.2), (t36.1, t36.2.1, t36.2.2)])) else none)))))))))
def smithyref19_Hash.f (k : Nat) (x1 : (List Int) × (List Int) × Bool × Int × (List Int) × (List Int) × Int × (List Int) × (List Int) × (List ((List Int) × (List (List Int))))) : Option ((List Int)) := (smithyref19_item.f (((x1.1).drop 0).take 20)).bind fun t1 => ((smithyref07_Number.f k [x1.2.2.2.1, 0, 0, 0]).bind fun t2 => ((smithyref19_item.f t2).bind fun t3 => (if x1.2.2.1 = true then ((smithyref19_item.f ([] : List Int)).bind fun t37 => (if (([(true, ([] : List Int), 0), (t1.1, t1.2.1, t1.2.2), (t3.1, t3.2.1, t3.2.2)]).length + ([(t37.1, t37.2.1, t37.2.2)]).length) * 40 ≤ 140737488355328 then (smithyref19_Hash.j1 k x1 ([(true, ([] : List Int), 0), (t1.1, t1.2.1, t1.2.2), (t3.1, t3.2.1, t3.2.2)] ++ [(t37.1, t37.2.1, t37.2.2)])) else none)) else ((smithyref19_item.f (((x1.2.1).drop 0).take 20)).bind fun t38 => (if (([(true, ([] : List Int), 0), (t1.1, t1.2.1, t1.2.2), (t3.1, t3.2.1, t3.2.2)]).length + ([(t38.1, t38.2.1, t38.2.2)]).length) * 40 ≤ 140737488355328 then (smithyref19_Hash.j1 k x1 ([(true, ([] : List Int), 0), (t1.1, t1.2.1, t1.2.2), (t3.1, t3.2.1, t3.2.2)] ++ [(t38.1, t38.2.1, t38.2.2)])) else none)))))
theorem smithyref19_Hash.ok (k : Nat) : smithyref19_Hash.Ctr (smithyref19_Hash.f k) := by
  intro x1 ch_0_0 ch_0_1 ch_0_2 ch_0_3 r h0 mi w0 ok hm
  delta smithyref19_Hash.f at h0
  refine c_enterX (n := 136) [(.agg [.ints .u8 x1.1 20, .ints .u8 x1.2.1 20, .one (.bool x1.2.2.1), .one (.int .u64 x1.2.2.2.1), .ints .u64 x1.2.2.2.2.1 4, .sl ch_0_0 (x1.2.2.2.2.2.1).length ch_0_1 (RdS (Ty.int .u8) ch_0_0 x1.2.2.2.2.2.1), .one (.int .u64 x1.2.2.2.2.2.2.1), .ints .u64 x1.2.2.2.2.2.2.2.1 4, .ints .u64 x1.2.2.2.2.2.2.2.2.1 4, .sl ch_0_2 (x1.2.2.2.2.2.2.2.2.2).length ch_0_3 (RdS (Ty.prod (Ty.arr .u8 20) (Ty.slice (Ty.arr .u64 4))) ch_0_2 x1.2.2.2.2.2.2.2.2.2)])] (l := [(0, (.agg [.ints .u8 x1.1 20, .ints .u8 x1.2.1 20, .one (.bool x1.2.2.1), .one (.int .u64 x1.2.2.2.1), .ints .u64 x1.2.2.2.2.1 4, .sl ch_0_0 (x1.2.2.2.2.2.1).length ch_0_1 (RdS (Ty.int .u8) ch_0_0 x1.2.2.2.2.2.1), .one (.int .u64 x1.2.2.2.2.2.2.1), .ints .u64 x1.2.2.2.2.2.2.2.1 4, .ints .u64 x1.2.2.2.2.2.2.2.2.1 4, .sl ch_0_2 (x1.2.2.2.2.2.2.2.2.2).length ch_0_3 (RdS (Ty.prod (Ty.arr .u8 20) (Ty.slice (Ty.arr .u64 4))) ch_0_2 x1.2.2.2.2.2.2.2.2.2)]))]) Tryd.func7 rfl rfl rfl rfl ok hm ?_
  clear ok hm
  intro b0 hb a S
  refine c_region ?_
  refine s_box S rfl rfl rfl ?_; clear S a; intro g1 a w S
  refine s_alloc S Z37 rfl ⟨rfl, trivial⟩ rfl ?_; clear S a w; intro g2 a w S
  refine c_end ?_
  replace S := S.freeze (.there .here)
  obtain ⟨m, le1, S⟩ := S
  refine wp_seq (c_heldS S (.take 0 (.take 1 (.take 2 (.take 4 (.take 5 (.take 6 (.alts (.run 3 true (.alts (.run 7 true (.alts (.run 8 true (.alts (.run 9 true (.take 10 .done) .nil)) .nil)) .nil)) .nil)))))))) 11 [Res.cells g2 37 [.ints .u8 [0, 0, 0, 0, 0, 0, 0, 0, 0, 0, 0, 0, 0, 0, 0, 0, 0, 0, 0, 0, 0, 0, 0, 0, 0, 0, 0, 0, 0, 0, 0, 0] 32], Res.fro g1 30 [.ints .u8 x1.1 20, .ints .u8 x1.2.1 20, .one (.bool x1.2.2.1), .one (.int .u64 x1.2.2.2.1), .ints .u64 x1.2.2.2.2.1 4, .sl ch_0_0 (x1.2.2.2.2.2.1).length ch_0_1 (RdS (Ty.int .u8) ch_0_0 x1.2.2.2.2.2.1), .one (.int .u64 x1.2.2.2.2.2.2.1), .ints .u64 x1.2.2.2.2.2.2.2.1 4, .ints .u64 x1.2.2.2.2.2.2.2.2.1 4, .sl ch_0_2 (x1.2.2.2.2.2.2.2.2.2).length ch_0_3 (RdS (Ty.prod (Ty.arr .u8 20) (Ty.slice (Ty.arr .u64 4))) ch_0_2 x1.2.2.2.2.2.2.2.2.2)]] (.cons .here (.cons .here .nil)) ⟨Res.stay_cells, Res.stay_fro, trivial⟩ [(1, (.v (.pointer (some ⟨g1, 0, none⟩))))] ⟨rfl, trivial⟩ (by kernel_rfl) (by kernel_rfl) ?_); clear S; intro w S CL hw le
  refine h_bldS S CL hw le ⟨rfl, trivial⟩ (ds := [(0, (.v (.bool true)))]) (zs := [.one (.bool false), .one (.slice none 0 0), .one (.int .i64 0)]) (s' := [.one (.bool true), .one (.slice none 0 0), .one (.int .i64 0)]) rfl Tryd.underlying46 P46 Z46 ⟨rfl, rfl, rfl, trivial⟩ rfl rfl rfl trivial ?_; clear S CL a; intro a S CL
  refine h_fieldAddr S CL hw le ⟨rfl, rfl, trivial⟩ rfl I30_0 T23 (by decide) rfl rfl rfl trivial ?_; clear S CL a; intro a S CL
  refine h_sliceA S CL hw le ⟨rfl, rfl, rfl, trivial⟩ (i := 0) (j := 20) (o' := 0) (len := 20) (cap := 20) rfl Tryd.underlying23 T5 (.inl ⟨rfl, rfl⟩) (.inl ⟨rfl, rfl⟩) (by decide) rfl rfl rfl rfl rfl trivial ?_; clear S CL a; intro a S CL
  refine h_fieldAddr S CL hw le ⟨rfl, rfl, rfl, rfl, trivial⟩ rfl I30_3 T24 (by decide) rfl rfl rfl trivial ?_; clear S CL a; intro a S CL
  refine h_load1F S CL hw le ⟨rfl, rfl, rfl, rfl, rfl, trivial⟩ rfl (.there .here) T24 (v := (.int .u64 x1.2.2.2.1)) rfl rfl rfl trivial ?_; clear S CL a; intro a S CL
  refine h_build S CL hw le ⟨rfl, rfl, rfl, rfl, rfl, rfl, trivial⟩ (ds := [(0, (.v (.int .u64 x1.2.2.2.1)))]) (dv := (.agg [.ints .u64 [x1.2.2.2.1, 0, 0, 0] 4])) rfl (fun _ => by kernel_rfl) ⟨rfl, trivial⟩ rfl rfl trivial ?_; clear S CL a; intro a S CL
  refine h_run' S rfl trivial ?_
  replace S := (S.slup' (u := 15) (lo := 0) (c := 20) (ys := ((x1.1).drop 0).take 20) rfl (Pull.mem (.there .here)).1 .here (.inl rfl) (by decide) (by decide) rfl).2
  replace CL := CL.drop (lq' := [(19, (.agg [.ints .u64 [x1.2.2.2.1, 0, 0, 0] 4])), (18, (.v (.int .u64 x1.2.2.2.1))), (17, (.v (.pointer (some ⟨g1, 41, none⟩)))), (14, (.v (.pointer (some ⟨g1, 0, none⟩)))), (13, (.agg [.one (.bool true), .one (.slice none 0 0), .one (.int .i64 0)])), (1, (.v (.pointer (some ⟨g1, 0, none⟩))))]) ⟨rfl, rfl, rfl, rfl, rfl, rfl, trivial⟩
  obtain ⟨t1, et1, h1⟩ := bind_of h0; clear h0
  refine s_callP S (fun (ch : (Option Addr) × Nat) => ((.agg [.one (.bool t1.1), .sl ch.1 (t1.2.1).length ch.2 (RdS (Ty.int .u8) ch.1 t1.2.1), .one (.int .i64 t1.2.2)]) : D)) N18 rfl rfl (smithyref19_item.ok (((x1.1).drop 0).take 20) (some ⟨g1, 0, none⟩) 20 t1 et1 _ _) ?_; clear S a; intro ch1 m le1 a w S
  replace le := le.trans le1
  replace hw := CL.again hw S (.cons .here (.cons .here .nil)) le
  refine h_back ⟨fun _ => hw, ?_⟩
  refine h_run' S rfl trivial ?_
  obtain ⟨t2, et2, h2⟩ := bind_of h1; clear h1
  refine s_callR S (fun (ch : (Option Addr) × Nat × Nat) => ((.v (.slice ch.1 ch.2.1 ch.2.2)) : D)) (fun (ch : (Option Addr) × Nat × Nat) => Res.row (Ty.int .u8) 5 ch.1 ch.2.1 ch.2.2 t2) N19 rfl rfl (smithyref07_Number.ok k [x1.2.2.2.1, 0, 0, 0] t2 et2 _ _) ?_; clear S a; intro ch2 m le1 a w S
  replace le := le.trans le1
  replace hw := CL.again hw S (.cons (.there .here) (.cons (.there .here) .nil)) le
  refine h_back ⟨fun _ => hw, ?_⟩
  refine h_run' S rfl trivial ?_
  replace S := S.rowfro .here
  obtain ⟨m, le1, S, hro⟩ := S
  replace le := le.trans le1
  replace S := S.slotro (u := 20) rfl hro
  obtain ⟨t3, et3, h3⟩ := bind_of h2; clear h2
  refine s_callP S (fun (ch : (Option Addr) × Nat) => ((.agg [.one (.bool t3.1), .sl ch.1 (t3.2.1).length ch.2 (RdS (Ty.int .u8) ch.1 t3.2.1), .one (.int .i64 t3.2.2)]) : D)) N18 rfl rfl (smithyref19_item.ok t2 ch2.1 ch2.2.2 t3 et3 _ _) ?_; clear S a; intro ch3 m le1 a w S
  replace le := le.trans le1
  replace hw := CL.again hw S (.cons .here (.cons .here .nil)) le
  refine h_back ⟨fun _ => hw, ?_⟩
  refine h_run' S rfl trivial ?_
  replace S := S.slot (u := 13) (d' := (.agg [.one (.bool true), .sl none (([] : List Int)).length 0 (RdS (Ty.int .u8) none ([] : List Int)), .one (.int .i64 0)])) rfl rfl (by have h := (S.get 13 (.agg [.one (.bool true), .one (.slice none 0 0), .one (.int .i64 0)]) rfl).2; exact ⟨h.1, ok_nil, h.2.2.1, trivial⟩)
  replace CL := CL.drop (lq' := [(19, (.agg [.ints .u64 [x1.2.2.2.1, 0, 0, 0] 4])), (18, (.v (.int .u64 x1.2.2.2.1))), (17, (.v (.pointer (some ⟨g1, 41, none⟩)))), (14, (.v (.pointer (some ⟨g1, 0, none⟩)))), (1, (.v (.pointer (some ⟨g1, 0, none⟩))))]) ⟨rfl, rfl, rfl, rfl, rfl, trivial⟩
  refine s_bldSl S (ty' := (Ty.prod Ty.bool (Ty.prod (Ty.slice (Ty.int .u8)) (Ty.int .i64)))) (ds := [(0, (.agg [.one (.bool true), .sl none (([] : List Int)).length 0 (RdS (Ty.int .u8) none ([] : List Int)), .one (.int .i64 0)])), (1, (.agg [.one (.bool t1.1), .sl ch1.1 (t1.2.1).length ch1.2 (RdS (Ty.int .u8) ch1.1 t1.2.1), .one (.int .i64 t1.2.2)])), (2, (.agg [.one (.bool t3.1), .sl ch3.1 (t3.2.1).length ch3.2 (RdS (Ty.int .u8) ch3.1 t3.2.1), .one (.int .i64 t3.2.2)]))]) (z := (false, ([] : List Int), 0)) (c0 := ((), (none, 0), ())) (ys := [(true, ([] : List Int), 0), (t1.1, t1.2.1, t1.2.2), (t3.1, t3.2.1, t3.2.2)]) (cs := [((), (none, 0), ()), ((), (ch1.1, ch1.2), ()), ((), (ch3.1, ch3.2), ())]) rfl Tryd.underlying50 J46 Z46 rfl ⟨rfl, ⟨Nat.le_refl _, Nat.zero_le _, RdS.nil _ _ _, RdS.mono _ _ _⟩, rfl, trivial⟩ rfl rfl rfl rfl rfl rfl ?_; clear S a; intro g3 a w S
  replace hw := CL.again hw S (.cons (.there .here) (.cons (.there .here) .nil)) le
  refine h_back ⟨fun _ => hw, ?_⟩
  replace CL := CL.add (t := 22) (d := (.v (.slice (some ⟨g3, 0, none⟩) 3 3))) S rfl rfl
  refine h_assign S CL hw le ⟨rfl, rfl, rfl, rfl, rfl, rfl, trivial⟩ rfl rfl rfl trivial ?_; clear S CL a; intro a S CL
  refine h_done ?_; clear CL hw le
  refine x_thenN ?_
  refine wp_seq_k ?_
  intro K1 hK1
  have j1 : ∀ (m : Mem) (A1 : Option Addr) (cp1 : Nat) (y1 : List (Bool × (List Int) × Int)) (g7 : Nat) (a : Act) (w : World), St 136 m b0 [(3, (.v (.slice A1 (3 + 1) cp1))), (2, (.v (.pointer (some ⟨g7, 0, none⟩)))), (1, (.v (.pointer (some ⟨g1, 0, none⟩))))] [Res.row (Ty.prod Ty.bool (Ty.prod (Ty.slice (Ty.int .u8)) (Ty.int .i64))) 46 A1 (3 + 1) cp1 y1, Res.cells g7 37 [.ints .u8 [0, 0, 0, 0, 0, 0, 0, 0, 0, 0, 0, 0, 0, 0, 0, 0, 0, 0, 0, 0, 0, 0, 0, 0, 0, 0, 0, 0, 0, 0, 0, 0] 32], Res.fro g1 30 [.ints .u8 x1.1 20, .ints .u8 x1.2.1 20, .one (.bool x1.2.2.1), .one (.int .u64 x1.2.2.2.1), .ints .u64 x1.2.2.2.2.1 4, .sl ch_0_0 (x1.2.2.2.2.2.1).length ch_0_1 (RdS (Ty.int .u8) ch_0_0 x1.2.2.2.2.2.1), .one (.int .u64 x1.2.2.2.2.2.2.1), .ints .u64 x1.2.2.2.2.2.2.2.1 4, .ints .u64 x1.2.2.2.2.2.2.2.2.1 4, .sl ch_0_2 (x1.2.2.2.2.2.2.2.2.2).length ch_0_3 (RdS (Ty.prod (Ty.arr .u8 20) (Ty.slice (Ty.arr .u64 4))) ch_0_2 x1.2.2.2.2.2.2.2.2.2)]] a w → smithyref19_Hash.j1 k x1 y1 = some r → K1 a w := by
    intro m A1 cp1 y1 g7 a w S h0
    delta smithyref19_Hash.j1 at h0
    refine hK1 a w ?_
    refine wp_seq_k ?_
    intro K2 hK2
    have j2 : ∀ (m : Mem) (A2 : Option Addr) (cp3 : Nat) (y2 : List (Bool × (List Int) × Int)) (g9 : Nat) (g10 : Nat) (a : Act) (w : World), St 136 m b0 [(3, (.v (.slice A2 ((3 + 1) + 5) cp3))), (2, (.v (.pointer (some ⟨g9, 0, none⟩)))), (1, (.v (.pointer (some ⟨g10, 0, none⟩))))] [Res.row (Ty.prod Ty.bool (Ty.prod (Ty.slice (Ty.int .u8)) (Ty.int .i64))) 46 A2 ((3 + 1) + 5) cp3 y2, Res.cells g9 37 [.ints .u8 [0, 0, 0, 0, 0, 0, 0, 0, 0, 0, 0, 0, 0, 0, 0, 0, 0, 0, 0, 0, 0, 0, 0, 0, 0, 0, 0, 0, 0, 0, 0, 0] 32], Res.fro g10 30 [.ints .u8 x1.1 20, .ints .u8 x1.2.1 20, .one (.bool x1.2.2.1), .one (.int .u64 x1.2.2.2.1), .ints .u64 x1.2.2.2.2.1 4, .sl ch_0_0 (x1.2.2.2.2.2.1).length ch_0_1 (RdS (Ty.int .u8) ch_0_0 x1.2.2.2.2.2.1), .one (.int .u64 x1.2.2.2.2.2.2.1), .ints .u64 x1.2.2.2.2.2.2.2.1 4, .ints .u64 x1.2.2.2.2.2.2.2.2.1 4, .sl ch_0_2 (x1.2.2.2.2.2.2.2.2.2).length ch_0_3 (RdS (Ty.prod (Ty.arr .u8 20) (Ty.slice (Ty.arr .u64 4))) ch_0_2 x1.2.2.2.2.2.2.2.2.2)]] a w → smithyref19_Hash.j2 k x1 y2 = some r → K2 a w := by
      intro m A2 cp3 y2 g9 g10 a w S h0
      delta smithyref19_Hash.j2 at h0
      refine hK2 a w ?_
      refine c_region ?_
      refine s_bldSl S (ty' := (Ty.prod Ty.bool (Ty.prod (Ty.slice (Ty.int .u8)) (Ty.int .i64)))) (ds := []) (z := (false, ([] : List Int), 0)) (c0 := ((), (none, 0), ())) (ys := ([] : List (Bool × (List Int) × Int))) (cs := []) rfl Tryd.underlying50 J46 Z46 rfl ⟨rfl, ⟨Nat.le_refl _, Nat.zero_le _, RdS.nil _ _ _, RdS.mono _ _ _⟩, rfl, trivial⟩ rfl rfl rfl rfl rfl rfl ?_; clear S a w; intro g11 a w S
      refine s_assign S rfl rfl ?_; clear S a; intro a S
      refine c_end ?_
      refine wp_seq_k ?_
      intro K3 hK3
      have j3 : ∀ (m : Mem) (A3 : Option Addr) (nn1 : Nat) (cp28 : Nat) (y19 : List (Bool × (List Int) × Int)) (g62 : Nat) (a : Act) (w : World), St 136 m b0 [(4, (.v (.slice A3 nn1 cp28))), (3, (.v (.slice A2 ((3 + 1) + 5) cp3))), (2, (.v (.pointer (some ⟨g62, 0, none⟩))))] [Res.row (Ty.prod Ty.bool (Ty.prod (Ty.slice (Ty.int .u8)) (Ty.int .i64))) 46 A3 nn1 cp28 y19, Res.row (Ty.prod Ty.bool (Ty.prod (Ty.slice (Ty.int .u8)) (Ty.int .i64))) 46 A2 ((3 + 1) + 5) cp3 y2, Res.cells g62 37 [.ints .u8 [0, 0, 0, 0, 0, 0, 0, 0, 0, 0, 0, 0, 0, 0, 0, 0, 0, 0, 0, 0, 0, 0, 0, 0, 0, 0, 0, 0, 0, 0, 0, 0] 32]] a w → smithyref19_Hash.j3 k y2 y19 = some r → K3 a w := by
        intro m A3 nn1 cp28 y19 g62 a w S h0
        delta smithyref19_Hash.j3 at h0
        refine hK3 a w ?_
        refine c_region ?_
        refine s_move S rfl rfl ?_; clear S a; intro a S
        refine s_move S rfl rfl ?_; clear S a; intro a S
        refine s_lenO S rfl .here Tryd.underlying50 rfl ?_; clear S a; intro a S
        refine s_bldS S (ds := [(0, (.v (.bool true))), (2, (.v (.int .i64 ((y19).length : Int))))]) (zs := [.one (.bool false), .one (.slice none 0 0), .one (.int .i64 0)]) (s' := [.one (.bool true), .one (.slice none 0 0), .one (.int .i64 ((y19).length : Int))]) rfl Tryd.underlying46 P46 Z46 ⟨rfl, rfl, rfl, trivial⟩ rfl rfl ?_; clear S a; intro a S
        replace S := S.slot (u := 117) (d' := (.agg [.one (.bool true), .sl none (([] : List Int)).length 0 (RdS (Ty.int .u8) none ([] : List Int)), .one (.int .i64 ((y19).length : Int))])) rfl rfl (by have h := (S.get 117 (.agg [.one (.bool true), .one (.slice none 0 0), .one (.int .i64 ((y19).length : Int))]) rfl).2; exact ⟨h.1, ok_nil, h.2.2.1, trivial⟩)
        refine s_bldSl S (ty' := (Ty.prod Ty.bool (Ty.prod (Ty.slice (Ty.int .u8)) (Ty.int .i64)))) (ds := [(0, (.agg [.one (.bool true), .sl none (([] : List Int)).length 0 (RdS (Ty.int .u8) none ([] : List Int)), .one (.int .i64 ((y19).length : Int))]))]) (z := (false, ([] : List Int), 0)) (c0 := ((), (none, 0), ())) (ys := [(true, ([] : List Int), ((y19).length : Int))]) (cs := [((), (none, 0), ())]) rfl Tryd.underlying50 J46 Z46 rfl ⟨rfl, ⟨Nat.le_refl _, Nat.zero_le _, RdS.nil _ _ _, RdS.mono _ _ _⟩, rfl, trivial⟩ rfl rfl rfl rfl rfl rfl ?_; clear S a w; intro g63 a w S
        obtain ⟨c1, h1⟩ := chk_of h0; clear h0
        refine s_app S (k2 := 1) (ys := [(true, ([] : List Int), ((y19).length : Int))]) rfl (fun _ _ => (.there (.there .here))) rfl rfl (S.holds _ (Pull.mem .here).1).1 (Res.row.src (S.holds _ (Pull.mem .here).1)) Tryd.underlying50 J46 c1 rfl ?_; clear S a w; intro A4 cp29 a w S
        refine s_assign S rfl rfl ?_; clear S a; intro a S
        refine c_end ?_
        refine c_region ?_
        refine s_move S rfl rfl ?_; clear S a; intro a S
        refine s_move S rfl rfl ?_; clear S a; intro a S
        obtain ⟨c2, h2⟩ := chk_of h1; clear h1
        refine s_app S (k2 := nn1) (ys := y19) rfl (fun _ _ => (.there (.there .here))) rfl rfl (S.holds _ (Pull.mem (.there .here)).1).1 (Res.row.src (S.holds _ (Pull.mem (.there .here)).1)) Tryd.underlying50 J46 c2 rfl ?_; clear S a w; intro A5 cp30 a w S
        refine s_assign S rfl rfl ?_; clear S a; intro a S
        refine c_end ?_
        refine c_region ?_
        refine s_move S rfl rfl ?_; clear S a; intro a S
        refine s_move S rfl rfl ?_; clear S a; intro a S
        refine s_lenO S rfl (.there (.there .here)) Tryd.underlying50 rfl ?_; clear S a; intro a S
        refine s_bin S rfl rfl rfl rfl ?_; clear S a; intro a S
        obtain ⟨c3, h3⟩ := chk_of h2; clear h2
        refine s_iaddrO S (ty' := (Ty.prod Ty.bool (Ty.prod (Ty.slice (Ty.int .u8)) (Ty.int .i64)))) rfl (.there (.there .here)) rfl Tryd.underlying50 T46 c3.1 c3.2 rfl ?_; clear S a; intro g64 a hA1 S
        refine s_fieldAddr S rfl I46_2 T3 (by decide) rfl rfl ?_; clear S a; intro a S
        refine s_stR S (ty' := (Ty.prod Ty.bool (Ty.prod (Ty.slice (Ty.int .u8)) (Ty.int .i64)))) (i := 0) (off := 2) (u := ((gt ((y2 ++ [(true, ([] : List Int), ((y19).length : Int))]) ++ y19) 0).1, (gt ((y2 ++ [(true, ([] : List Int), ((y19).length : Int))]) ++ y19) 0).2.1, wr .i64 ((((y2 ++ [(true, ([] : List Int), ((y19).length : Int))]) ++ y19).length : Int) - 1))) (fun (c : Unit × (Option Addr × Nat) × Unit) => ((), (c.2.1.1, c.2.1.2), ())) rfl rfl rfl hA1 (.there (.there .here)) T3 c3.1 c3.2 rfl (by decide) rfl (fun _ => rfl) ?_; clear S w; intro w S
        refine c_end ?_
        refine c_region ?_
        refine s_move S rfl rfl ?_; clear S a; intro a S
        replace S := S.rowfro (.there (.there .here))
        obtain ⟨m, le1, S, hro⟩ := S
        replace S := S.slotro (u := 130) rfl hro
        replace S := S.slotro (u := 124) rfl hro
        replace S := S.slotro (u := 123) rfl hro
        replace S := S.slotro (u := 3) rfl hro
        replace S := S.slotro (u := 122) rfl hro
        obtain ⟨t15, et15, h4⟩ := bind_of h3; clear h3
        refine s_callR S (fun (ch : (Option Addr) × Nat × Nat) => ((.tup [(false, [.one (.slice ch.1 ch.2.1 ch.2.2)]), (false, [.one (.int .i64 t15.2)])]) : D)) (fun (ch : (Option Addr) × Nat × Nat) => Res.row (Ty.int .u8) 5 ch.1 ch.2.1 ch.2.2 t15.1) N22 rfl rfl (smithyref07_Encode.ok k (((y2 ++ [(true, ([] : List Int), ((y19).length : Int))]) ++ y19).set (Int.toNat 0) ((gt ((y2 ++ [(true, ([] : List Int), ((y19).length : Int))]) ++ y19) 0).1, (gt ((y2 ++ [(true, ([] : List Int), ((y19).length : Int))]) ++ y19) 0).2.1, wr .i64 ((((y2 ++ [(true, ([] : List Int), ((y19).length : Int))]) ++ y19).length : Int) - 1))) A5 cp30 t15 et15 _ _) ?_; clear S a w; intro ch15 m le1 a w S
        refine s_move S rfl rfl ?_; clear S a; intro a S
        refine s_extract S rfl rfl rfl rfl ?_; clear S a; intro a S
        refine s_extract S rfl rfl rfl rfl ?_; clear S a; intro a S
        refine s_assign S rfl rfl ?_; clear S a; intro a S
        refine s_assign S rfl rfl ?_; clear S a; intro a S
        refine c_end ?_
        refine c_region ?_
        refine s_move S rfl rfl ?_; clear S a; intro a S
        replace S := S.rowfro .here
        obtain ⟨m, le1, S, hro⟩ := S
        replace S := S.slotro (u := 134) rfl hro
        replace S := S.slotro (u := 11) rfl hro
        replace S := S.slotro (u := 132) rfl hro
        obtain ⟨t16, et16, h5⟩ := bind_of h4; clear h4
        refine s_callP S (fun (ch : Unit) => ((.agg [.ints .u8 t16 32]) : D)) N23 rfl rfl (smithyref05_Sum.ok k t15.1 ch15.1 ch15.2.2 t16 et16 _ _) ?_; clear S a w; intro ch16 m le1 a w S
        refine s_store S rfl rfl rfl (s' := [.ints .u8 t16 32]) (.there (.there .here)) T37 rfl rfl ?_; clear S w; intro w S
        refine c_end ?_
        refine wp_ret ?_
        obtain rfl := Option.some.inj h5
        exact b_ret1 (d := (.agg [.ints .u8 t16 32])) S rfl (resD_cell rfl (.there (.there .here)) T37 rfl rfl) fun ok => S.retX (Hx := []) hb _ _ (() : Unit) .nil ok
      refine c_region ?_
      refine s_fieldAddr S rfl I30_9 T28 (by decide) rfl rfl ?_; clear S a; intro a S
      refine s_loadSlF S rfl (.there (.there (.there .here))) T28 (A := ch_0_2) (len := (x1.2.2.2.2.2.2.2.2.2).length) (cap := ch_0_3) rfl rfl ?_; clear S a; intro a S
      refine s_lenS S rfl Tryd.underlying28 rfl ?_; clear S a; intro a S
      refine s_move S rfl rfl ?_; clear S a; intro a S
      refine c_end ?_
      refine wp_block ?_
      refine c_loop (fun q1 a w => ∃ (m : Mem) (y34 : Int) (A6 : Option Addr) (nn9 : Nat) (cp54 : Nat) (y35 : List (Bool × (List Int) × Int)) (g113 : Nat) (g114 : Nat), St 136 m b0 [(63, (.v (.int .i64 y34))), (62, (.v (.int .i64 ((x1.2.2.2.2.2.2.2.2.2).length : Int)))), (4, (.v (.slice A6 nn9 cp54))), (3, (.v (.slice A2 ((3 + 1) + 5) cp3))), (2, (.v (.pointer (some ⟨g113, 0, none⟩)))), (1, (.v (.pointer (some ⟨g114, 0, none⟩))))] [Res.row (Ty.prod Ty.bool (Ty.prod (Ty.slice (Ty.int .u8)) (Ty.int .i64))) 46 A6 nn9 cp54 y35, Res.row (Ty.prod Ty.bool (Ty.prod (Ty.slice (Ty.int .u8)) (Ty.int .i64))) 46 A2 ((3 + 1) + 5) cp3 y2, Res.cells g113 37 [.ints .u8 [0, 0, 0, 0, 0, 0, 0, 0, 0, 0, 0, 0, 0, 0, 0, 0, 0, 0, 0, 0, 0, 0, 0, 0, 0, 0, 0, 0, 0, 0, 0, 0] 32], Res.fro g114 30 [.ints .u8 x1.1 20, .ints .u8 x1.2.1 20, .one (.bool x1.2.2.1), .one (.int .u64 x1.2.2.2.1), .ints .u64 x1.2.2.2.2.1 4, .sl ch_0_0 (x1.2.2.2.2.2.1).length ch_0_1 (RdS (Ty.int .u8) ch_0_0 x1.2.2.2.2.2.1), .one (.int .u64 x1.2.2.2.2.2.2.1), .ints .u64 x1.2.2.2.2.2.2.2.1 4, .ints .u64 x1.2.2.2.2.2.2.2.2.1 4, .sl ch_0_2 (x1.2.2.2.2.2.2.2.2.2).length ch_0_3 (RdS (Ty.prod (Ty.arr .u8 20) (Ty.slice (Ty.arr .u64 4))) ch_0_2 x1.2.2.2.2.2.2.2.2.2)]] a w ∧ smithyref19_Hash.l1 k x1 y2 q1 y34 y35 = some r) ?_ ?_ (k := k) ⟨_, 0, (some ⟨g11, 0, none⟩), 0, 0, ([] : List (Bool × (List Int) × Int)), g9, g10, (S.sub ⟨rfl, rfl, rfl, rfl, rfl, rfl, trivial⟩ (.cons .here (.cons .here (.cons .here (.cons .here .nil))))), h0⟩
      · rintro a w ⟨m, y34, A6, nn9, cp54, y35, g113, g114, S, h0⟩
        exact (nomatch (show (none : Option ((List Int))) = some r from h0))
      · clear S h0
        rintro q1 a w ⟨m, y34, A6, nn9, cp54, y35, g113, g114, S, h0⟩
        replace h0 : smithyref19_Hash.b1 k x1 y2 (smithyref19_Hash.l1 k x1 y2 q1) y34 y35 = some r := h0
        delta smithyref19_Hash.b1 at h0
        refine c_region ?_
        refine s_bin S rfl rfl rfl rfl ?_; clear S a; intro a S
        refine c_end ?_
        refine wp_seq ?_
        rcases ite_of h0 with ⟨c4, h1⟩ | ⟨c4, h1⟩ <;> clear h0
        · refine c_condT S rfl c4 ?_
          refine wp_skip ?_
          refine x_thenN ?_
          refine wp_seq_k ?_
          intro K4 hK4
          have j4 : ∀ (m : Mem) (A7 : Option Addr) (nn12 : Nat) (cp65 : Nat) (y41 : List (Bool × (List Int) × Int)) (g135 : Nat) (g136 : Nat) (a : Act) (w : World), St 136 m b0 [(4, (.v (.slice A7 nn12 cp65))), (63, (.v (.int .i64 y34))), (62, (.v (.int .i64 ((x1.2.2.2.2.2.2.2.2.2).length : Int)))), (3, (.v (.slice A2 ((3 + 1) + 5) cp3))), (2, (.v (.pointer (some ⟨g135, 0, none⟩)))), (1, (.v (.pointer (some ⟨g136, 0, none⟩))))] [Res.row (Ty.prod Ty.bool (Ty.prod (Ty.slice (Ty.int .u8)) (Ty.int .i64))) 46 A7 nn12 cp65 y41, Res.row (Ty.prod Ty.bool (Ty.prod (Ty.slice (Ty.int .u8)) (Ty.int .i64))) 46 A2 ((3 + 1) + 5) cp3 y2, Res.cells g135 37 [.ints .u8 [0, 0, 0, 0, 0, 0, 0, 0, 0, 0, 0, 0, 0, 0, 0, 0, 0, 0, 0, 0, 0, 0, 0, 0, 0, 0, 0, 0, 0, 0, 0, 0] 32], Res.fro g136 30 [.ints .u8 x1.1 20, .ints .u8 x1.2.1 20, .one (.bool x1.2.2.1), .one (.int .u64 x1.2.2.2.1), .ints .u64 x1.2.2.2.2.1 4, .sl ch_0_0 (x1.2.2.2.2.2.1).length ch_0_1 (RdS (Ty.int .u8) ch_0_0 x1.2.2.2.2.2.1), .one (.int .u64 x1.2.2.2.2.2.2.1), .ints .u64 x1.2.2.2.2.2.2.2.1 4, .ints .u64 x1.2.2.2.2.2.2.2.2.1 4, .sl ch_0_2 (x1.2.2.2.2.2.2.2.2.2).length ch_0_3 (RdS (Ty.prod (Ty.arr .u8 20) (Ty.slice (Ty.arr .u64 4))) ch_0_2 x1.2.2.2.2.2.2.2.2.2)]] a w → smithyref19_Hash.j4 y34 (smithyref19_Hash.l1 k x1 y2 q1) y41 = some r → K4 a w := by
            intro m A7 nn12 cp65 y41 g135 g136 a w S h0
            delta smithyref19_Hash.j4 at h0
            refine hK4 a w ?_
            refine c_region' ?_
            refine s_bin S rfl rfl rfl rfl ?_; clear S a; intro a S
            refine s_move S rfl rfl ?_; clear S a; intro a S
            refine c_end' ?_
            refine x_thenN ?_
            exact ⟨_, (wr .i64 (y34 + 1)), A7, nn12, cp65, y41, g135, g136, (S.sub ⟨rfl, rfl, rfl, rfl, rfl, rfl, trivial⟩ (.cons .here (.cons .here (.cons .here (.cons .here .nil))))), h0⟩
          refine wp_block ?_
          refine c_region ?_
          refine s_move S rfl rfl ?_; clear S a; intro a S
          refine s_assign S rfl rfl ?_; clear S a; intro a S
          refine c_end ?_
          refine c_region ?_
          refine s_fieldAddr S rfl I30_9 T28 (by decide) rfl rfl ?_; clear S a; intro a S
          refine s_loadSlF S rfl (.there (.there (.there .here))) T28 (A := ch_0_2) (len := (x1.2.2.2.2.2.2.2.2.2).length) (cap := ch_0_3) rfl rfl ?_; clear S a; intro a S
          refine s_move S rfl rfl ?_; clear S a; intro a S
          obtain ⟨c5, h2⟩ := chk_of h1; clear h1
          refine s_iaddrS S rfl rfl rfl Tryd.underlying28 T35 c5.1 c5.2 rfl ?_; clear S a; intro p1 a S
          refine s_ldA S (fun (c : Unit × (Option Addr × Nat)) => [.ints .u8 ((gt x1.2.2.2.2.2.2.2.2.2 y34).1) 20, .sl c.2.1 ((gt x1.2.2.2.2.2.2.2.2.2 y34).2).length c.2.2 (RdS (Ty.arr .u64 4) c.2.1 ((gt x1.2.2.2.2.2.2.2.2.2 y34).2))]) rfl T35 (fun _ => rfl) rfl ?_; clear S a; intro ch17 a S
          refine s_alloc S Z35 rfl ⟨rfl, rfl, trivial⟩ rfl ?_; clear S a w; intro g137 a w S
          refine s_store S rfl rfl rfl (s' := [.ints .u8 ((gt x1.2.2.2.2.2.2.2.2.2 y34).1) 20, .sl ch17.2.1 ((gt x1.2.2.2.2.2.2.2.2.2 y34).2).length ch17.2.2 (RdS (Ty.arr .u64 4) ch17.2.1 ((gt x1.2.2.2.2.2.2.2.2.2 y34).2))]) .here T35 rfl rfl ?_; clear S w; intro w S
          refine c_end ?_
          refine c_region ?_
          refine s_bldSl S (ty' := (Ty.int .u8)) (ds := []) (z := 0) (c0 := ()) (ys := ([] : List Int)) (cs := []) rfl Tryd.underlying27 J5 Z5 rfl ⟨rfl, trivial⟩ rfl rfl rfl rfl rfl rfl ?_; clear S a w; intro g138 a w S
          refine s_assign S rfl rfl ?_; clear S a; intro a S
          refine c_end ?_
          refine c_region ?_
          refine s_move S rfl rfl ?_; clear S a; intro a S
          refine s_fieldAddr S rfl I35_0 T23 (by decide) rfl rfl ?_; clear S a; intro a S
          refine s_sliceA S (i := 0) (j := 20) (o' := 0) (len := 20) (cap := 20) rfl Tryd.underlying23 T5 (.inl ⟨rfl, rfl⟩) (.inl ⟨rfl, rfl⟩) (by decide) rfl rfl rfl rfl ?_; clear S a; intro a S
          replace S := S.freeze (.there .here)
          obtain ⟨m, le1, S⟩ := S
          replace S := (S.slup' (u := 74) (lo := 0) (c := 20) (ys := (((gt x1.2.2.2.2.2.2.2.2.2 y34).1).drop 0).take 20) rfl (Pull.mem (.there .here)).1 .here (.inl rfl) (by decide) (by decide) rfl).2
          obtain ⟨c6, h3⟩ := chk_of h2; clear h2
          refine s_app S (k2 := (((((gt x1.2.2.2.2.2.2.2.2.2 y34).1).drop 0).take 20).length)) (ys := ((((gt x1.2.2.2.2.2.2.2.2.2 y34).1).drop 0).take 20)) rfl (fun _ _ => .here) rfl rfl rfl (RdS.src (S.get 74 (.sl (some ⟨g137, 0, none⟩) ((((gt x1.2.2.2.2.2.2.2.2.2 y34).1).drop 0).take 20).length 20 (RdS (Ty.int .u8) (some ⟨g137, 0, none⟩) ((((gt x1.2.2.2.2.2.2.2.2.2 y34).1).drop 0).take 20))) rfl).2.2.2.1 (by decide) S.frz) Tryd.underlying27 J5 c6 rfl ?_; clear S a w; intro A8 cp66 a w S
          refine s_assign S rfl rfl ?_; clear S a; intro a S
          refine c_end ?_
          refine wp_seq_k ?_
          intro K5 hK5
          have j5 : ∀ (m : Mem) (A9 : Option Addr) (cp68 : Nat) (y42 : List (Bool × (List Int) × Int)) (g140 : Nat) (g141 : Nat) (A10 : Option Addr) (cp69 : Nat) (a : Act) (w : World), St 136 m b0 [(4, (.v (.slice A9 (nn9 + 3) cp68))), (6, (.v (.pointer (some ⟨g137, 0, none⟩)))), (63, (.v (.int .i64 y34))), (62, (.v (.int .i64 ((x1.2.2.2.2.2.2.2.2.2).length : Int)))), (3, (.v (.slice A2 ((3 + 1) + 5) cp3))), (2, (.v (.pointer (some ⟨g140, 0, none⟩)))), (1, (.v (.pointer (some ⟨g141, 0, none⟩))))] [Res.fro g137 35 [.ints .u8 ((gt x1.2.2.2.2.2.2.2.2.2 y34).1) 20, .sl A10 ((gt x1.2.2.2.2.2.2.2.2.2 y34).2).length cp69 (RdS (Ty.arr .u64 4) A10 ((gt x1.2.2.2.2.2.2.2.2.2 y34).2))], Res.row (Ty.prod Ty.bool (Ty.prod (Ty.slice (Ty.int .u8)) (Ty.int .i64))) 46 A9 (nn9 + 3) cp68 y42, Res.row (Ty.prod Ty.bool (Ty.prod (Ty.slice (Ty.int .u8)) (Ty.int .i64))) 46 A2 ((3 + 1) + 5) cp3 y2, Res.cells g140 37 [.ints .u8 [0, 0, 0, 0, 0, 0, 0, 0, 0, 0, 0, 0, 0, 0, 0, 0, 0, 0, 0, 0, 0, 0, 0, 0, 0, 0, 0, 0, 0, 0, 0, 0] 32], Res.fro g141 30 [.ints .u8 x1.1 20, .ints .u8 x1.2.1 20, .one (.bool x1.2.2.1), .one (.int .u64 x1.2.2.2.1), .ints .u64 x1.2.2.2.2.1 4, .sl ch_0_0 (x1.2.2.2.2.2.1).length ch_0_1 (RdS (Ty.int .u8) ch_0_0 x1.2.2.2.2.2.1), .one (.int .u64 x1.2.2.2.2.2.2.1), .ints .u64 x1.2.2.2.2.2.2.2.1 4, .ints .u64 x1.2.2.2.2.2.2.2.2.1 4, .sl ch_0_2 (x1.2.2.2.2.2.2.2.2.2).length ch_0_3 (RdS (Ty.prod (Ty.arr .u8 20) (Ty.slice (Ty.arr .u64 4))) ch_0_2 x1.2.2.2.2.2.2.2.2.2)]] a w → smithyref19_Hash.j5 k x1 y34 (smithyref19_Hash.l1 k x1 y2 q1) y42 = some r → K5 a w := by
            intro m A9 cp68 y42 g140 g141 A10 cp69 a w S h0
            delta smithyref19_Hash.j5 at h0
            refine hK5 a w ?_
            refine c_region ?_
            refine s_fieldAddr S rfl I35_1 T33 (by decide) rfl rfl ?_; clear S a; intro a S
            refine s_loadSlF S rfl .here T33 (A := A10) (len := ((gt x1.2.2.2.2.2.2.2.2.2 y34).2).length) (cap := cp69) rfl rfl ?_; clear S a; intro a S
            refine s_lenS S rfl Tryd.underlying33 rfl ?_; clear S a; intro a S
            refine s_move S rfl rfl ?_; clear S a; intro a S
            refine c_end ?_
            refine wp_block ?_
            refine c_loop (fun q2 a w => ∃ (m : Mem) (y45 : Int) (A11 : Option Addr) (nn14 : Nat) (cp75 : Nat) (y46 : List (Bool × (List Int) × Int)) (g154 : Nat) (g155 : Nat) (g156 : Nat), St 136 m b0 [(93, (.v (.int .i64 y45))), (92, (.v (.int .i64 (((gt x1.2.2.2.2.2.2.2.2.2 y34).2).length : Int)))), (4, (.v (.slice A11 nn14 cp75))), (6, (.v (.pointer (some ⟨g154, 0, none⟩)))), (63, (.v (.int .i64 y34))), (62, (.v (.int .i64 ((x1.2.2.2.2.2.2.2.2.2).length : Int)))), (3, (.v (.slice A2 ((3 + 1) + 5) cp3))), (2, (.v (.pointer (some ⟨g155, 0, none⟩)))), (1, (.v (.pointer (some ⟨g156, 0, none⟩))))] [Res.fro g154 35 [.ints .u8 ((gt x1.2.2.2.2.2.2.2.2.2 y34).1) 20, .sl A10 ((gt x1.2.2.2.2.2.2.2.2.2 y34).2).length cp69 (RdS (Ty.arr .u64 4) A10 ((gt x1.2.2.2.2.2.2.2.2.2 y34).2))], Res.row (Ty.prod Ty.bool (Ty.prod (Ty.slice (Ty.int .u8)) (Ty.int .i64))) 46 A11 nn14 cp75 y46, Res.row (Ty.prod Ty.bool (Ty.prod (Ty.slice (Ty.int .u8)) (Ty.int .i64))) 46 A2 ((3 + 1) + 5) cp3 y2, Res.cells g155 37 [.ints .u8 [0, 0, 0, 0, 0, 0, 0, 0, 0, 0, 0, 0, 0, 0, 0, 0, 0, 0, 0, 0, 0, 0, 0, 0, 0, 0, 0, 0, 0, 0, 0, 0] 32], Res.fro g156 30 [.ints .u8 x1.1 20, .ints .u8 x1.2.1 20, .one (.bool x1.2.2.1), .one (.int .u64 x1.2.2.2.1), .ints .u64 x1.2.2.2.2.1 4, .sl ch_0_0 (x1.2.2.2.2.2.1).length ch_0_1 (RdS (Ty.int .u8) ch_0_0 x1.2.2.2.2.2.1), .one (.int .u64 x1.2.2.2.2.2.2.1), .ints .u64 x1.2.2.2.2.2.2.2.1 4, .ints .u64 x1.2.2.2.2.2.2.2.2.1 4, .sl ch_0_2 (x1.2.2.2.2.2.2.2.2.2).length ch_0_3 (RdS (Ty.prod (Ty.arr .u8 20) (Ty.slice (Ty.arr .u64 4))) ch_0_2 x1.2.2.2.2.2.2.2.2.2)]] a w ∧ smithyref19_Hash.l2 k x1 y34 (smithyref19_Hash.l1 k x1 y2 q1) q2 y45 y46 = some r) ?_ ?_ (k := k) ⟨_, 0, A9, (nn9 + 3), cp68, y42, g137, g140, g141, (S.sub ⟨rfl, rfl, rfl, rfl, rfl, rfl, rfl, rfl, rfl, trivial⟩ (.cons .here (.cons .here (.cons .here (.cons .here (.cons .here .nil)))))), h0⟩
            · rintro a w ⟨m, y45, A11, nn14, cp75, y46, g154, g155, g156, S, h0⟩
              exact (nomatch (show (none : Option ((List Int))) = some r from h0))
            · clear S h0
              rintro q2 a w ⟨m, y45, A11, nn14, cp75, y46, g154, g155, g156, S, h0⟩
              replace h0 : smithyref19_Hash.b2 k x1 y34 (smithyref19_Hash.l1 k x1 y2 q1) (smithyref19_Hash.l2 k x1 y34 (smithyref19_Hash.l1 k x1 y2 q1) q2) y45 y46 = some r := h0
              delta smithyref19_Hash.b2 at h0
              refine c_region ?_
              refine s_bin S rfl rfl rfl rfl ?_; clear S a; intro a S
              refine c_end ?_
              refine wp_seq ?_
              rcases ite_of h0 with ⟨c7, h1⟩ | ⟨c7, h1⟩ <;> clear h0
              · refine c_condT S rfl c7 ?_
                refine wp_skip ?_
                refine x_thenN ?_
                refine wp_seq ?_
                refine wp_block ?_
                refine c_region ?_
                refine s_move S rfl rfl ?_; clear S a; intro a S
                refine s_assign S rfl rfl ?_; clear S a; intro a S
                refine c_end ?_
                refine c_region ?_
                refine s_fieldAddr S rfl I35_1 T33 (by decide) rfl rfl ?_; clear S a; intro a S
                refine s_loadSlF S rfl .here T33 (A := A10) (len := ((gt x1.2.2.2.2.2.2.2.2.2 y34).2).length) (cap := cp69) rfl rfl ?_; clear S a; intro a S
                refine s_move S rfl rfl ?_; clear S a; intro a S
                obtain ⟨c8, h2⟩ := chk_of h1; clear h1
                refine s_iaddrS S rfl rfl rfl Tryd.underlying33 T26 c8.1 c8.2 rfl ?_; clear S a; intro p4 a S
                refine s_ldA S (fun (c : Unit) => [.ints .u64 (gt ((gt x1.2.2.2.2.2.2.2.2.2 y34).2) y45) 4]) rfl T26 (fun _ => rfl) rfl ?_; clear S a; intro ch27 a S
                obtain ⟨t24, et24, h3⟩ := bind_of h2; clear h2
                refine s_callP S (fun (ch : Unit) => ((.agg [.ints .i64 t24 32]) : D)) N20 rfl rfl (smithyref01_Of.ok k (gt ((gt x1.2.2.2.2.2.2.2.2.2 y34).2) y45) t24 et24 _ _) ?_; clear S a w; intro ch28 m le1 a w S
                obtain ⟨t25, et25, h4⟩ := bind_of h3; clear h3
                refine s_callP S (fun (ch : Unit) => ((.agg [.ints .u8 t25 32]) : D)) N21 rfl rfl (smithyref01_D_Bytes.ok k t24 t25 et25 _ _) ?_; clear S a w; intro ch29 m le1 a w S
                refine s_alloc S Z36 rfl ⟨rfl, trivial⟩ rfl ?_; clear S a w; intro g157 a w S
                refine s_store S rfl rfl rfl (s' := [.ints .u8 t25 32]) .here T36 rfl rfl ?_; clear S w; intro w S
                refine c_end ?_
                refine c_region ?_
                refine s_bldSl S (ty' := (Ty.int .u8)) (ds := []) (z := 0) (c0 := ()) (ys := ([] : List Int)) (cs := []) rfl Tryd.underlying27 J5 Z5 rfl ⟨rfl, trivial⟩ rfl rfl rfl rfl rfl rfl ?_; clear S a w; intro g158 a w S
                refine s_assign S rfl rfl ?_; clear S a; intro a S
                refine c_end ?_
                refine c_region ?_
                refine s_move S rfl rfl ?_; clear S a; intro a S
                refine s_sliceA S (i := 0) (j := 32) (o' := 0) (len := 32) (cap := 32) rfl Tryd.underlying36 T5 (.inl ⟨rfl, rfl⟩) (.inl ⟨rfl, rfl⟩) (by decide) rfl rfl rfl rfl ?_; clear S a; intro a S
                replace S := S.freeze (.there .here)
                obtain ⟨m, le1, S⟩ := S
                replace S := (S.slup' (u := 105) (lo := 0) (c := 32) (ys := ((t25).drop 0).take 32) rfl (Pull.mem (.there .here)).1 .here (.inl rfl) (by decide) (by decide) rfl).2
                obtain ⟨c9, h5⟩ := chk_of h4; clear h4
                refine s_app S (k2 := ((((t25).drop 0).take 32).length)) (ys := (((t25).drop 0).take 32)) rfl (fun _ _ => .here) rfl rfl rfl (RdS.src (S.get 105 (.sl (some ⟨g157, 0, none⟩) (((t25).drop 0).take 32).length 32 (RdS (Ty.int .u8) (some ⟨g157, 0, none⟩) (((t25).drop 0).take 32))) rfl).2.2.2.1 (by decide) S.frz) Tryd.underlying27 J5 c9 rfl ?_; clear S a w; intro A12 cp76 a w S
                refine s_assign S rfl rfl ?_; clear S a; intro a S
                refine c_end ?_
                refine c_region' ?_
                refine s_move S rfl rfl ?_; clear S a; intro a S
                refine s_move S rfl rfl ?_; clear S a; intro a S
                replace S := S.rowfro .here
                obtain ⟨m, le1, S, hro⟩ := S
                replace S := S.slotro (u := 108) rfl hro
                replace S := S.slotro (u := 10) rfl hro
                replace S := S.slotro (u := 106) rfl hro
                obtain ⟨t26, et26, h6⟩ := bind_of h5; clear h5
                refine s_callP S (fun (ch : (Option Addr) × Nat) => ((.agg [.one (.bool t26.1), .sl ch.1 (t26.2.1).length ch.2 (RdS (Ty.int .u8) ch.1 t26.2.1), .one (.int .i64 t26.2.2)]) : D)) N18 rfl rfl (smithyref19_item.ok (([] : List Int) ++ (((t25).drop 0).take 32)) A12 cp76 t26 et26 _ _) ?_; clear S a w; intro ch30 m le1 a w S
                refine s_bldSl S (ty' := (Ty.prod Ty.bool (Ty.prod (Ty.slice (Ty.int .u8)) (Ty.int .i64)))) (ds := [(0, (.agg [.one (.bool t26.1), .sl ch30.1 (t26.2.1).length ch30.2 (RdS (Ty.int .u8) ch30.1 t26.2.1), .one (.int .i64 t26.2.2)]))]) (z := (false, ([] : List Int), 0)) (c0 := ((), (none, 0), ())) (ys := [(t26.1, t26.2.1, t26.2.2)]) (cs := [((), (ch30.1, ch30.2), ())]) rfl Tryd.underlying50 J46 Z46 rfl ⟨rfl, ⟨Nat.le_refl _, Nat.zero_le _, RdS.nil _ _ _, RdS.mono _ _ _⟩, rfl, trivial⟩ rfl rfl rfl rfl rfl rfl ?_; clear S a w; intro g159 a w S
                obtain ⟨c10, h7⟩ := chk_of h6; clear h6
                refine s_app S (k2 := 1) (ys := [(t26.1, t26.2.1, t26.2.2)]) rfl (fun _ _ => (.there (.there (.there .here)))) rfl rfl (S.holds _ (Pull.mem .here).1).1 (Res.row.src (S.holds _ (Pull.mem .here).1)) Tryd.underlying50 J46 c10 rfl ?_; clear S a w; intro A13 cp77 a w S
                refine s_assign S rfl rfl ?_; clear S a; intro a S
                refine c_end' ?_
                refine x_blockN ?_
                refine x_thenN ?_
                refine c_region' ?_
                refine s_bin S rfl rfl rfl rfl ?_; clear S a; intro a S
                refine s_move S rfl rfl ?_; clear S a; intro a S
                refine c_end' ?_
                refine x_thenN ?_
                exact ⟨_, (wr .i64 (y45 + 1)), A13, (nn14 + 1), cp77, (y46 ++ [(t26.1, t26.2.1, t26.2.2)]), g154, g155, g156, (S.sub ⟨rfl, rfl, rfl, rfl, rfl, rfl, rfl, rfl, rfl, trivial⟩ (.cons (.there (.there .here)) (.cons (.there (.there .here)) (.cons (.there (.there .here)) (.cons (.there (.there .here)) (.cons (.there (.there .here)) .nil)))))), h7⟩
              · refine c_condF S rfl c7 ?_
                refine wp_exit ?_
                refine x_thenX ?_
                refine x_thenX ?_
                refine x_blockX ?_
                refine x_blockN ?_
                refine x_thenN ?_
                exact j4 _ A11 nn14 cp75 y46 g155 g156 a w (S.sub ⟨rfl, rfl, rfl, rfl, rfl, rfl, trivial⟩ (.cons (.there .here) (.cons (.there .here) (.cons (.there .here) (.cons (.there .here) .nil))))) h1
          refine c_heldS S (.take 1 (.take 2 (.take 3 (.take 4 (.take 5 (.take 6 (.take 8 (.take 9 (.take 10 (.take 11 (.alts (.run 0 true (.alts (.run 7 true (.alts (.run 12 true (.alts (.run 13 true (.take 14 .done) .nil)) .nil)) .nil)) (.run 7 true (.alts (.run 0 true (.alts (.run 12 true (.alts (.run 13 true (.take 14 .done) .nil)) .nil)) (.run 12 true (.alts (.run 0 true (.alts (.run 13 true (.take 14 .done) .nil)) .nil)) .nil))) .nil))))))))))))) 15 [Res.fro g137 35 [.ints .u8 ((gt x1.2.2.2.2.2.2.2.2.2 y34).1) 20, .sl ch17.2.1 ((gt x1.2.2.2.2.2.2.2.2.2 y34).2).length ch17.2.2 (RdS (Ty.arr .u64 4) ch17.2.1 ((gt x1.2.2.2.2.2.2.2.2.2 y34).2))], Res.cells g113 37 [.ints .u8 [0, 0, 0, 0, 0, 0, 0, 0, 0, 0, 0, 0, 0, 0, 0, 0, 0, 0, 0, 0, 0, 0, 0, 0, 0, 0, 0, 0, 0, 0, 0, 0] 32], Res.fro g114 30 [.ints .u8 x1.1 20, .ints .u8 x1.2.1 20, .one (.bool x1.2.2.1), .one (.int .u64 x1.2.2.2.1), .ints .u64 x1.2.2.2.2.1 4, .sl ch_0_0 (x1.2.2.2.2.2.1).length ch_0_1 (RdS (Ty.int .u8) ch_0_0 x1.2.2.2.2.2.1), .one (.int .u64 x1.2.2.2.2.2.2.1), .ints .u64 x1.2.2.2.2.2.2.2.1 4, .ints .u64 x1.2.2.2.2.2.2.2.2.1 4, .sl ch_0_2 (x1.2.2.2.2.2.2.2.2.2).length ch_0_3 (RdS (Ty.prod (Ty.arr .u8 20) (Ty.slice (Ty.arr .u64 4))) ch_0_2 x1.2.2.2.2.2.2.2.2.2)]] (.cons (.there .here) (.cons (.there (.there (.there .here))) (.cons (.there (.there (.there .here))) .nil))) ⟨Res.stay_fro, Res.stay_cells, Res.stay_fro, trivial⟩ [(7, (.v (.slice A8 (0 + (((((gt x1.2.2.2.2.2.2.2.2.2 y34).1).drop 0).take 20).length)) cp66))), (6, (.v (.pointer (some ⟨g137, 0, none⟩))))] ⟨rfl, rfl, trivial⟩ (by kernel_rfl) (by kernel_rfl) ?_; clear S; intro w S CL hw le
          refine h_fieldAddr S CL hw le ⟨rfl, rfl, trivial⟩ rfl I35_1 T33 (by decide) rfl rfl rfl trivial ?_; clear S CL a; intro a S CL
          refine h_loadSlF S CL hw le ⟨rfl, rfl, rfl, trivial⟩ rfl .here T33 (A := ch17.2.1) (len := ((gt x1.2.2.2.2.2.2.2.2.2 y34).2).length) (cap := ch17.2.2) rfl rfl rfl trivial ?_; clear S CL a; intro a S CL
          refine h_lenS S CL hw le ⟨rfl, rfl, rfl, rfl, trivial⟩ rfl Tryd.underlying33 rfl rfl trivial ?_; clear S CL a; intro a S CL
          refine h_bin S CL hw le ⟨rfl, rfl, rfl, rfl, rfl, trivial⟩ rfl rfl rfl rfl rfl trivial ?_; clear S CL a; intro a S CL
          refine h_bldS S CL hw le ⟨rfl, rfl, rfl, rfl, rfl, rfl, trivial⟩ (ds := [(0, (.v (.bool true))), (2, (.v (.int .i64 (wr .i64 ((((gt x1.2.2.2.2.2.2.2.2.2 y34).2).length : Int) + 2)))))]) (zs := [.one (.bool false), .one (.slice none 0 0), .one (.int .i64 0)]) (s' := [.one (.bool true), .one (.slice none 0 0), .one (.int .i64 (wr .i64 ((((gt x1.2.2.2.2.2.2.2.2.2 y34).2).length : Int) + 2)))]) rfl Tryd.underlying46 P46 Z46 ⟨rfl, rfl, rfl, trivial⟩ rfl rfl rfl trivial ?_; clear S CL a; intro a S CL
          refine h_move S CL hw le ⟨rfl, rfl, rfl, rfl, rfl, rfl, rfl, trivial⟩ rfl rfl rfl trivial ?_; clear S CL a; intro a S CL
          refine h_fieldAddr S CL hw le ⟨rfl, rfl, rfl, rfl, rfl, rfl, rfl, rfl, trivial⟩ rfl I35_1 T33 (by decide) rfl rfl rfl trivial ?_; clear S CL a; intro a S CL
          refine h_loadSlF S CL hw le ⟨rfl, rfl, rfl, rfl, rfl, rfl, rfl, rfl, rfl, trivial⟩ rfl .here T33 (A := ch17.2.1) (len := ((gt x1.2.2.2.2.2.2.2.2.2 y34).2).length) (cap := ch17.2.2) rfl rfl rfl trivial ?_; clear S CL a; intro a S CL
          refine h_lenS S CL hw le ⟨rfl, rfl, rfl, rfl, rfl, rfl, rfl, rfl, rfl, rfl, trivial⟩ rfl Tryd.underlying33 rfl rfl trivial ?_; clear S CL a; intro a S CL
          refine h_bldS S CL hw le ⟨rfl, rfl, rfl, rfl, rfl, rfl, rfl, rfl, rfl, rfl, rfl, trivial⟩ (ds := [(0, (.v (.bool true))), (2, (.v (.int .i64 (((gt x1.2.2.2.2.2.2.2.2.2 y34).2).length : Int))))]) (zs := [.one (.bool false), .one (.slice none 0 0), .one (.int .i64 0)]) (s' := [.one (.bool true), .one (.slice none 0 0), .one (.int .i64 (((gt x1.2.2.2.2.2.2.2.2.2 y34).2).length : Int))]) rfl Tryd.underlying46 P46 Z46 ⟨rfl, rfl, rfl, trivial⟩ rfl rfl rfl trivial ?_; clear S CL a; intro a S CL
          obtain ⟨t27, et27, h4⟩ := bind_of h3; clear h3
          obtain ⟨c11, h5⟩ := chk_of h4; clear h4
          refine h_alts ?_
          refine h_runO S rfl trivial ?_ ?_
          · refine s_move S rfl rfl ?_; clear S a; intro a S
            replace hw := CL.again hw S (.cons (.there .here) (.cons (.there (.there (.there .here))) (.cons (.there (.there (.there .here))) .nil))) le
            refine h_back ⟨fun _ => hw, ?_⟩
            refine h_run' S rfl trivial ?_
            replace S := S.rowfro .here
            obtain ⟨m, le1, S, hro⟩ := S
            replace le := le.trans le1
            replace S := S.slotro (u := 82) rfl hro
            replace S := S.slotro (u := 7) rfl hro
            replace S := S.slotro (u := 75) rfl hro
            replace CL := CL.drop (lq' := [(87, (.agg [.one (.bool true), .one (.slice none 0 0), .one (.int .i64 (((gt x1.2.2.2.2.2.2.2.2.2 y34).2).length : Int))])), (86, (.v (.int .i64 (((gt x1.2.2.2.2.2.2.2.2.2 y34).2).length : Int)))), (85, (.sl ch17.2.1 ((gt x1.2.2.2.2.2.2.2.2.2 y34).2).length ch17.2.2 (RdS (Ty.arr .u64 4) ch17.2.1 ((gt x1.2.2.2.2.2.2.2.2.2 y34).2)))), (84, (.v (.pointer (some ⟨g137, 20, none⟩)))), (81, (.agg [.one (.bool true), .one (.slice none 0 0), .one (.int .i64 (wr .i64 ((((gt x1.2.2.2.2.2.2.2.2.2 y34).2).length : Int) + 2)))])), (80, (.v (.int .i64 (wr .i64 ((((gt x1.2.2.2.2.2.2.2.2.2 y34).2).length : Int) + 2))))), (79, (.v (.int .i64 (((gt x1.2.2.2.2.2.2.2.2.2 y34).2).length : Int)))), (78, (.sl ch17.2.1 ((gt x1.2.2.2.2.2.2.2.2.2 y34).2).length ch17.2.2 (RdS (Ty.arr .u64 4) ch17.2.1 ((gt x1.2.2.2.2.2.2.2.2.2 y34).2)))), (77, (.v (.pointer (some ⟨g137, 20, none⟩)))), (6, (.v (.pointer (some ⟨g137, 0, none⟩))))]) ⟨rfl, rfl, rfl, rfl, rfl, rfl, rfl, rfl, rfl, rfl, trivial⟩
            refine s_callP S (fun (ch : (Option Addr) × Nat) => ((.agg [.one (.bool t27.1), .sl ch.1 (t27.2.1).length ch.2 (RdS (Ty.int .u8) ch.1 t27.2.1), .one (.int .i64 t27.2.2)]) : D)) N18 rfl rfl (smithyref19_item.ok (([] : List Int) ++ ((((gt x1.2.2.2.2.2.2.2.2.2 y34).1).drop 0).take 20)) A8 cp66 t27 et27 _ _) ?_; clear S a; intro ch31 m le1 a w S
            replace le := le.trans le1
            replace hw := CL.again hw S (.cons .here (.cons (.there (.there .here)) (.cons (.there (.there .here)) .nil))) le
            refine h_back ⟨fun _ => hw, ?_⟩
            refine h_run' S rfl trivial ?_
            replace S := S.slot (u := 81) (d' := (.agg [.one (.bool true), .sl none (([] : List Int)).length 0 (RdS (Ty.int .u8) none ([] : List Int)), .one (.int .i64 (wr .i64 ((((gt x1.2.2.2.2.2.2.2.2.2 y34).2).length : Int) + 2)))])) rfl rfl (by have h := (S.get 81 (.agg [.one (.bool true), .one (.slice none 0 0), .one (.int .i64 (wr .i64 ((((gt x1.2.2.2.2.2.2.2.2.2 y34).2).length : Int) + 2)))]) rfl).2; exact ⟨h.1, ok_nil, h.2.2.1, trivial⟩)
            replace CL := CL.drop (lq' := [(87, (.agg [.one (.bool true), .one (.slice none 0 0), .one (.int .i64 (((gt x1.2.2.2.2.2.2.2.2.2 y34).2).length : Int))])), (86, (.v (.int .i64 (((gt x1.2.2.2.2.2.2.2.2.2 y34).2).length : Int)))), (85, (.sl ch17.2.1 ((gt x1.2.2.2.2.2.2.2.2.2 y34).2).length ch17.2.2 (RdS (Ty.arr .u64 4) ch17.2.1 ((gt x1.2.2.2.2.2.2.2.2.2 y34).2)))), (84, (.v (.pointer (some ⟨g137, 20, none⟩)))), (80, (.v (.int .i64 (wr .i64 ((((gt x1.2.2.2.2.2.2.2.2.2 y34).2).length : Int) + 2))))), (79, (.v (.int .i64 (((gt x1.2.2.2.2.2.2.2.2.2 y34).2).length : Int)))), (78, (.sl ch17.2.1 ((gt x1.2.2.2.2.2.2.2.2.2 y34).2).length ch17.2.2 (RdS (Ty.arr .u64 4) ch17.2.1 ((gt x1.2.2.2.2.2.2.2.2.2 y34).2)))), (77, (.v (.pointer (some ⟨g137, 20, none⟩)))), (6, (.v (.pointer (some ⟨g137, 0, none⟩))))]) ⟨rfl, rfl, rfl, rfl, rfl, rfl, rfl, rfl, rfl, trivial⟩
            replace S := S.slot (u := 87) (d' := (.agg [.one (.bool true), .sl none (([] : List Int)).length 0 (RdS (Ty.int .u8) none ([] : List Int)), .one (.int .i64 (((gt x1.2.2.2.2.2.2.2.2.2 y34).2).length : Int))])) rfl rfl (by have h := (S.get 87 (.agg [.one (.bool true), .one (.slice none 0 0), .one (.int .i64 (((gt x1.2.2.2.2.2.2.2.2.2 y34).2).length : Int))]) rfl).2; exact ⟨h.1, ok_nil, h.2.2.1, trivial⟩)
            replace CL := CL.drop (lq' := [(86, (.v (.int .i64 (((gt x1.2.2.2.2.2.2.2.2.2 y34).2).length : Int)))), (85, (.sl ch17.2.1 ((gt x1.2.2.2.2.2.2.2.2.2 y34).2).length ch17.2.2 (RdS (Ty.arr .u64 4) ch17.2.1 ((gt x1.2.2.2.2.2.2.2.2.2 y34).2)))), (84, (.v (.pointer (some ⟨g137, 20, none⟩)))), (80, (.v (.int .i64 (wr .i64 ((((gt x1.2.2.2.2.2.2.2.2.2 y34).2).length : Int) + 2))))), (79, (.v (.int .i64 (((gt x1.2.2.2.2.2.2.2.2.2 y34).2).length : Int)))), (78, (.sl ch17.2.1 ((gt x1.2.2.2.2.2.2.2.2.2 y34).2).length ch17.2.2 (RdS (Ty.arr .u64 4) ch17.2.1 ((gt x1.2.2.2.2.2.2.2.2.2 y34).2)))), (77, (.v (.pointer (some ⟨g137, 20, none⟩)))), (6, (.v (.pointer (some ⟨g137, 0, none⟩))))]) ⟨rfl, rfl, rfl, rfl, rfl, rfl, rfl, rfl, trivial⟩
            refine s_bldSl S (ty' := (Ty.prod Ty.bool (Ty.prod (Ty.slice (Ty.int .u8)) (Ty.int .i64)))) (ds := [(0, (.agg [.one (.bool true), .sl none (([] : List Int)).length 0 (RdS (Ty.int .u8) none ([] : List Int)), .one (.int .i64 (wr .i64 ((((gt x1.2.2.2.2.2.2.2.2.2 y34).2).length : Int) + 2)))])), (1, (.agg [.one (.bool t27.1), .sl ch31.1 (t27.2.1).length ch31.2 (RdS (Ty.int .u8) ch31.1 t27.2.1), .one (.int .i64 t27.2.2)])), (2, (.agg [.one (.bool true), .sl none (([] : List Int)).length 0 (RdS (Ty.int .u8) none ([] : List Int)), .one (.int .i64 (((gt x1.2.2.2.2.2.2.2.2.2 y34).2).length : Int))]))]) (z := (false, ([] : List Int), 0)) (c0 := ((), (none, 0), ())) (ys := [(true, ([] : List Int), wr .i64 ((((gt x1.2.2.2.2.2.2.2.2.2 y34).2).length : Int) + 2)), (t27.1, t27.2.1, t27.2.2), (true, ([] : List Int), (((gt x1.2.2.2.2.2.2.2.2.2 y34).2).length : Int))]) (cs := [((), (none, 0), ()), ((), (ch31.1, ch31.2), ()), ((), (none, 0), ())]) rfl Tryd.underlying50 J46 Z46 rfl ⟨rfl, ⟨Nat.le_refl _, Nat.zero_le _, RdS.nil _ _ _, RdS.mono _ _ _⟩, rfl, trivial⟩ rfl rfl rfl rfl rfl rfl ?_; clear S a; intro g160 a w S
            replace hw := CL.again hw S (.cons (.there .here) (.cons (.there (.there (.there .here))) (.cons (.there (.there (.there .here))) .nil))) le
            refine h_back ⟨fun _ => hw, ?_⟩
            refine h_run' S rfl trivial ?_
            refine s_app S (k2 := 3) (ys := [(true, ([] : List Int), wr .i64 ((((gt x1.2.2.2.2.2.2.2.2.2 y34).2).length : Int) + 2)), (t27.1, t27.2.1, t27.2.2), (true, ([] : List Int), (((gt x1.2.2.2.2.2.2.2.2.2 y34).2).length : Int))]) rfl (fun _ _ => (.there (.there .here))) rfl rfl (S.holds _ (Pull.mem .here).1).1 (Res.row.src (S.holds _ (Pull.mem .here).1)) Tryd.underlying50 J46 c11 rfl ?_; clear S a; intro A14 cp78 a w S
            replace hw := CL.again hw S (.cons (.there .here) (.cons (.there (.there (.there .here))) (.cons (.there (.there (.there .here))) .nil))) le
            refine h_back ⟨fun _ => hw, ?_⟩
            replace CL := CL.add (t := 89) (d := (.v (.slice A14 (nn9 + 3) cp78))) S rfl rfl
            refine h_assign S CL hw le ⟨rfl, rfl, rfl, rfl, rfl, rfl, rfl, rfl, rfl, trivial⟩ rfl rfl rfl trivial ?_; clear S CL a; intro a S CL
            refine h_done ?_; clear CL hw le
            refine x_thenN ?_
            exact j5 _ A14 cp78 (y35 ++ [(true, ([] : List Int), wr .i64 ((((gt x1.2.2.2.2.2.2.2.2.2 y34).2).length : Int) + 2)), (t27.1, t27.2.1, t27.2.2), (true, ([] : List Int), (((gt x1.2.2.2.2.2.2.2.2.2 y34).2).length : Int))]) g113 g114 ch17.2.1 ch17.2.2 a w (S.sub ⟨rfl, rfl, rfl, rfl, rfl, rfl, rfl, trivial⟩ (.cons (.there .here) (.cons (.there .here) (.cons (.there .here) (.cons (.there .here) (.cons (.there .here) .nil)))))) h5
          refine h_runO S rfl trivial ?_ ?_
          · replace S := S.rowfro .here
            obtain ⟨m, le1, S, hro⟩ := S
            replace le := le.trans le1
            replace S := S.slotro (u := 82) rfl hro
            replace S := S.slotro (u := 7) rfl hro
            replace S := S.slotro (u := 75) rfl hro
            replace CL := CL.drop (lq' := [(87, (.agg [.one (.bool true), .one (.slice none 0 0), .one (.int .i64 (((gt x1.2.2.2.2.2.2.2.2.2 y34).2).length : Int))])), (86, (.v (.int .i64 (((gt x1.2.2.2.2.2.2.2.2.2 y34).2).length : Int)))), (85, (.sl ch17.2.1 ((gt x1.2.2.2.2.2.2.2.2.2 y34).2).length ch17.2.2 (RdS (Ty.arr .u64 4) ch17.2.1 ((gt x1.2.2.2.2.2.2.2.2.2 y34).2)))), (84, (.v (.pointer (some ⟨g137, 20, none⟩)))), (81, (.agg [.one (.bool true), .one (.slice none 0 0), .one (.int .i64 (wr .i64 ((((gt x1.2.2.2.2.2.2.2.2.2 y34).2).length : Int) + 2)))])), (80, (.v (.int .i64 (wr .i64 ((((gt x1.2.2.2.2.2.2.2.2.2 y34).2).length : Int) + 2))))), (79, (.v (.int .i64 (((gt x1.2.2.2.2.2.2.2.2.2 y34).2).length : Int)))), (78, (.sl ch17.2.1 ((gt x1.2.2.2.2.2.2.2.2.2 y34).2).length ch17.2.2 (RdS (Ty.arr .u64 4) ch17.2.1 ((gt x1.2.2.2.2.2.2.2.2.2 y34).2)))), (77, (.v (.pointer (some ⟨g137, 20, none⟩)))), (6, (.v (.pointer (some ⟨g137, 0, none⟩))))]) ⟨rfl, rfl, rfl, rfl, rfl, rfl, rfl, rfl, rfl, rfl, trivial⟩
            refine s_callP S (fun (ch : (Option Addr) × Nat) => ((.agg [.one (.bool t27.1), .sl ch.1 (t27.2.1).length ch.2 (RdS (Ty.int .u8) ch.1 t27.2.1), .one (.int .i64 t27.2.2)]) : D)) N18 rfl rfl (smithyref19_item.ok (([] : List Int) ++ ((((gt x1.2.2.2.2.2.2.2.2.2 y34).1).drop 0).take 20)) A8 cp66 t27 et27 _ _) ?_; clear S a; intro ch31 m le1 a w S
            replace le := le.trans le1
            replace hw := CL.again hw S (.cons .here (.cons (.there (.there .here)) (.cons (.there (.there .here)) .nil))) le
            refine h_back ⟨fun _ => hw, ?_⟩
            refine h_alts ?_
            refine h_runO S rfl trivial ?_ ?_
            · refine s_move S rfl rfl ?_; clear S a; intro a S
              replace hw := CL.again hw S (.cons .here (.cons (.there (.there .here)) (.cons (.there (.there .here)) .nil))) le
              refine h_back ⟨fun _ => hw, ?_⟩
              refine h_run' S rfl trivial ?_
              replace S := S.slot (u := 81) (d' := (.agg [.one (.bool true), .sl none (([] : List Int)).length 0 (RdS (Ty.int .u8) none ([] : List Int)), .one (.int .i64 (wr .i64 ((((gt x1.2.2.2.2.2.2.2.2.2 y34).2).length : Int) + 2)))])) rfl rfl (by have h := (S.get 81 (.agg [.one (.bool true), .one (.slice none 0 0), .one (.int .i64 (wr .i64 ((((gt x1.2.2.2.2.2.2.2.2.2 y34).2).length : Int) + 2)))]) rfl).2; exact ⟨h.1, ok_nil, h.2.2.1, trivial⟩)
              replace CL := CL.drop (lq' := [(87, (.agg [.one (.bool true), .one (.slice none 0 0), .one (.int .i64 (((gt x1.2.2.2.2.2.2.2.2.2 y34).2).length : Int))])), (86, (.v (.int .i64 (((gt x1.2.2.2.2.2.2.2.2.2 y34).2).length : Int)))), (85, (.sl ch17.2.1 ((gt x1.2.2.2.2.2.2.2.2.2 y34).2).length ch17.2.2 (RdS (Ty.arr .u64 4) ch17.2.1 ((gt x1.2.2.2.2.2.2.2.2.2 y34).2)))), (84, (.v (.pointer (some ⟨g137, 20, none⟩)))), (80, (.v (.int .i64 (wr .i64 ((((gt x1.2.2.2.2.2.2.2.2.2 y34).2).length : Int) + 2))))), (79, (.v (.int .i64 (((gt x1.2.2.2.2.2.2.2.2.2 y34).2).length : Int)))), (78, (.sl ch17.2.1 ((gt x1.2.2.2.2.2.2.2.2.2 y34).2).length ch17.2.2 (RdS (Ty.arr .u64 4) ch17.2.1 ((gt x1.2.2.2.2.2.2.2.2.2 y34).2)))), (77, (.v (.pointer (some ⟨g137, 20, none⟩)))), (6, (.v (.pointer (some ⟨g137, 0, none⟩))))]) ⟨rfl, rfl, rfl, rfl, rfl, rfl, rfl, rfl, rfl, trivial⟩
              replace S := S.slot (u := 87) (d' := (.agg [.one (.bool true), .sl none (([] : List Int)).length 0 (RdS (Ty.int .u8) none ([] : List Int)), .one (.int .i64 (((gt x1.2.2.2.2.2.2.2.2.2 y34).2).length : Int))])) rfl rfl (by have h := (S.get 87 (.agg [.one (.bool true), .one (.slice none 0 0), .one (.int .i64 (((gt x1.2.2.2.2.2.2.2.2.2 y34).2).length : Int))]) rfl).2; exact ⟨h.1, ok_nil, h.2.2.1, trivial⟩)
              replace CL := CL.drop (lq' := [(86, (.v (.int .i64 (((gt x1.2.2.2.2.2.2.2.2.2 y34).2).length : Int)))), (85, (.sl ch17.2.1 ((gt x1.2.2.2.2.2.2.2.2.2 y34).2).length ch17.2.2 (RdS (Ty.arr .u64 4) ch17.2.1 ((gt x1.2.2.2.2.2.2.2.2.2 y34).2)))), (84, (.v (.pointer (some ⟨g137, 20, none⟩)))), (80, (.v (.int .i64 (wr .i64 ((((gt x1.2.2.2.2.2.2.2.2.2 y34).2).length : Int) + 2))))), (79, (.v (.int .i64 (((gt x1.2.2.2.2.2.2.2.2.2 y34).2).length : Int)))), (78, (.sl ch17.2.1 ((gt x1.2.2.2.2.2.2.2.2.2 y34).2).length ch17.2.2 (RdS (Ty.arr .u64 4) ch17.2.1 ((gt x1.2.2.2.2.2.2.2.2.2 y34).2)))), (77, (.v (.pointer (some ⟨g137, 20, none⟩)))), (6, (.v (.pointer (some ⟨g137, 0, none⟩))))]) ⟨rfl, rfl, rfl, rfl, rfl, rfl, rfl, rfl, trivial⟩
              refine s_bldSl S (ty' := (Ty.prod Ty.bool (Ty.prod (Ty.slice (Ty.int .u8)) (Ty.int .i64)))) (ds := [(0, (.agg [.one (.bool true), .sl none (([] : List Int)).length 0 (RdS (Ty.int .u8) none ([] : List Int)), .one (.int .i64 (wr .i64 ((((gt x1.2.2.2.2.2.2.2.2.2 y34).2).length : Int) + 2)))])), (1, (.agg [.one (.bool t27.1), .sl ch31.1 (t27.2.1).length ch31.2 (RdS (Ty.int .u8) ch31.1 t27.2.1), .one (.int .i64 t27.2.2)])), (2, (.agg [.one (.bool true), .sl none (([] : List Int)).length 0 (RdS (Ty.int .u8) none ([] : List Int)), .one (.int .i64 (((gt x1.2.2.2.2.2.2.2.2.2 y34).2).length : Int))]))]) (z := (false, ([] : List Int), 0)) (c0 := ((), (none, 0), ())) (ys := [(true, ([] : List Int), wr .i64 ((((gt x1.2.2.2.2.2.2.2.2.2 y34).2).length : Int) + 2)), (t27.1, t27.2.1, t27.2.2), (true, ([] : List Int), (((gt x1.2.2.2.2.2.2.2.2.2 y34).2).length : Int))]) (cs := [((), (none, 0), ()), ((), (ch31.1, ch31.2), ()), ((), (none, 0), ())]) rfl Tryd.underlying50 J46 Z46 rfl ⟨rfl, ⟨Nat.le_refl _, Nat.zero_le _, RdS.nil _ _ _, RdS.mono _ _ _⟩, rfl, trivial⟩ rfl rfl rfl rfl rfl rfl ?_; clear S a; intro g160 a w S
              replace hw := CL.again hw S (.cons (.there .here) (.cons (.there (.there (.there .here))) (.cons (.there (.there (.there .here))) .nil))) le
              refine h_back ⟨fun _ => hw, ?_⟩
              refine h_run' S rfl trivial ?_
              refine s_app S (k2 := 3) (ys := [(true, ([] : List Int), wr .i64 ((((gt x1.2.2.2.2.2.2.2.2.2 y34).2).length : Int) + 2)), (t27.1, t27.2.1, t27.2.2), (true, ([] : List Int), (((gt x1.2.2.2.2.2.2.2.2.2 y34).2).length : Int))]) rfl (fun _ _ => (.there (.there .here))) rfl rfl (S.holds _ (Pull.mem .here).1).1 (Res.row.src (S.holds _ (Pull.mem .here).1)) Tryd.underlying50 J46 c11 rfl ?_; clear S a; intro A14 cp78 a w S
              replace hw := CL.again hw S (.cons (.there .here) (.cons (.there (.there (.there .here))) (.cons (.there (.there (.there .here))) .nil))) le
              refine h_back ⟨fun _ => hw, ?_⟩
              replace CL := CL.add (t := 89) (d := (.v (.slice A14 (nn9 + 3) cp78))) S rfl rfl
              refine h_assign S CL hw le ⟨rfl, rfl, rfl, rfl, rfl, rfl, rfl, rfl, rfl, trivial⟩ rfl rfl rfl trivial ?_; clear S CL a; intro a S CL
              refine h_done ?_; clear CL hw le
              refine x_thenN ?_
              exact j5 _ A14 cp78 (y35 ++ [(true, ([] : List Int), wr .i64 ((((gt x1.2.2.2.2.2.2.2.2.2 y34).2).length : Int) + 2)), (t27.1, t27.2.1, t27.2.2), (true, ([] : List Int), (((gt x1.2.2.2.2.2.2.2.2.2 y34).2).length : Int))]) g113 g114 ch17.2.1 ch17.2.2 a w (S.sub ⟨rfl, rfl, rfl, rfl, rfl, rfl, rfl, trivial⟩ (.cons (.there .here) (.cons (.there .here) (.cons (.there .here) (.cons (.there .here) (.cons (.there .here) .nil)))))) h5
            refine h_runO S rfl trivial ?_ ?_
            · replace S := S.slot (u := 81) (d' := (.agg [.one (.bool true), .sl none (([] : List Int)).length 0 (RdS (Ty.int .u8) none ([] : List Int)), .one (.int .i64 (wr .i64 ((((gt x1.2.2.2.2.2.2.2.2.2 y34).2).length : Int) + 2)))])) rfl rfl (by have h := (S.get 81 (.agg [.one (.bool true), .one (.slice none 0 0), .one (.int .i64 (wr .i64 ((((gt x1.2.2.2.2.2.2.2.2.2 y34).2).length : Int) + 2)))]) rfl).2; exact ⟨h.1, ok_nil, h.2.2.1, trivial⟩)
              replace CL := CL.drop (lq' := [(87, (.agg [.one (.bool true), .one (.slice none 0 0), .one (.int .i64 (((gt x1.2.2.2.2.2.2.2.2.2 y34).2).length : Int))])), (86, (.v (.int .i64 (((gt x1.2.2.2.2.2.2.2.2.2 y34).2).length : Int)))), (85, (.sl ch17.2.1 ((gt x1.2.2.2.2.2.2.2.2.2 y34).2).length ch17.2.2 (RdS (Ty.arr .u64 4) ch17.2.1 ((gt x1.2.2.2.2.2.2.2.2.2 y34).2)))), (84, (.v (.pointer (some ⟨g137, 20, none⟩)))), (80, (.v (.int .i64 (wr .i64 ((((gt x1.2.2.2.2.2.2.2.2.2 y34).2).length : Int) + 2))))), (79, (.v (.int .i64 (((gt x1.2.2.2.2.2.2.2.2.2 y34).2).length : Int)))), (78, (.sl ch17.2.1 ((gt x1.2.2.2.2.2.2.2.2.2 y34).2).length ch17.2.2 (RdS (Ty.arr .u64 4) ch17.2.1 ((gt x1.2.2.2.2.2.2.2.2.2 y34).2)))), (77, (.v (.pointer (some ⟨g137, 20, none⟩)))), (6, (.v (.pointer (some ⟨g137, 0, none⟩))))]) ⟨rfl, rfl, rfl, rfl, rfl, rfl, rfl, rfl, rfl, trivial⟩
              replace S := S.slot (u := 87) (d' := (.agg [.one (.bool true), .sl none (([] : List Int)).length 0 (RdS (Ty.int .u8) none ([] : List Int)), .one (.int .i64 (((gt x1.2.2.2.2.2.2.2.2.2 y34).2).length : Int))])) rfl rfl (by have h := (S.get 87 (.agg [.one (.bool true), .one (.slice none 0 0), .one (.int .i64 (((gt x1.2.2.2.2.2.2.2.2.2 y34).2).length : Int))]) rfl).2; exact ⟨h.1, ok_nil, h.2.2.1, trivial⟩)
              replace CL := CL.drop (lq' := [(86, (.v (.int .i64 (((gt x1.2.2.2.2.2.2.2.2.2 y34).2).length : Int)))), (85, (.sl ch17.2.1 ((gt x1.2.2.2.2.2.2.2.2.2 y34).2).length ch17.2.2 (RdS (Ty.arr .u64 4) ch17.2.1 ((gt x1.2.2.2.2.2.2.2.2.2 y34).2)))), (84, (.v (.pointer (some ⟨g137, 20, none⟩)))), (80, (.v (.int .i64 (wr .i64 ((((gt x1.2.2.2.2.2.2.2.2.2 y34).2).length : Int) + 2))))), (79, (.v (.int .i64 (((gt x1.2.2.2.2.2.2.2.2.2 y34).2).length : Int)))), (78, (.sl ch17.2.1 ((gt x1.2.2.2.2.2.2.2.2.2 y34).2).length ch17.2.2 (RdS (Ty.arr .u64 4) ch17.2.1 ((gt x1.2.2.2.2.2.2.2.2.2 y34).2)))), (77, (.v (.pointer (some ⟨g137, 20, none⟩)))), (6, (.v (.pointer (some ⟨g137, 0, none⟩))))]) ⟨rfl, rfl, rfl, rfl, rfl, rfl, rfl, rfl, trivial⟩
              refine s_bldSl S (ty' := (Ty.prod Ty.bool (Ty.prod (Ty.slice (Ty.int .u8)) (Ty.int .i64)))) (ds := [(0, (.agg [.one (.bool true), .sl none (([] : List Int)).length 0 (RdS (Ty.int .u8) none ([] : List Int)), .one (.int .i64 (wr .i64 ((((gt x1.2.2.2.2.2.2.2.2.2 y34).2).length : Int) + 2)))])), (1, (.agg [.one (.bool t27.1), .sl ch31.1 (t27.2.1).length ch31.2 (RdS (Ty.int .u8) ch31.1 t27.2.1), .one (.int .i64 t27.2.2)])), (2, (.agg [.one (.bool true), .sl none (([] : List Int)).length 0 (RdS (Ty.int .u8) none ([] : List Int)), .one (.int .i64 (((gt x1.2.2.2.2.2.2.2.2.2 y34).2).length : Int))]))]) (z := (false, ([] : List Int), 0)) (c0 := ((), (none, 0), ())) (ys := [(true, ([] : List Int), wr .i64 ((((gt x1.2.2.2.2.2.2.2.2.2 y34).2).length : Int) + 2)), (t27.1, t27.2.1, t27.2.2), (true, ([] : List Int), (((gt x1.2.2.2.2.2.2.2.2.2 y34).2).length : Int))]) (cs := [((), (none, 0), ()), ((), (ch31.1, ch31.2), ()), ((), (none, 0), ())]) rfl Tryd.underlying50 J46 Z46 rfl ⟨rfl, ⟨Nat.le_refl _, Nat.zero_le _, RdS.nil _ _ _, RdS.mono _ _ _⟩, rfl, trivial⟩ rfl rfl rfl rfl rfl rfl ?_; clear S a; intro g160 a w S
              replace hw := CL.again hw S (.cons (.there .here) (.cons (.there (.there (.there .here))) (.cons (.there (.there (.there .here))) .nil))) le
              refine h_back ⟨fun _ => hw, ?_⟩
              refine h_run' S rfl trivial ?_
              refine s_move S rfl rfl ?_; clear S a; intro a S
              replace hw := CL.again hw S (.cons (.there .here) (.cons (.there (.there (.there .here))) (.cons (.there (.there (.there .here))) .nil))) le
              refine h_back ⟨fun _ => hw, ?_⟩
              refine h_run' S rfl trivial ?_
              refine s_app S (k2 := 3) (ys := [(true, ([] : List Int), wr .i64 ((((gt x1.2.2.2.2.2.2.2.2.2 y34).2).length : Int) + 2)), (t27.1, t27.2.1, t27.2.2), (true, ([] : List Int), (((gt x1.2.2.2.2.2.2.2.2.2 y34).2).length : Int))]) rfl (fun _ _ => (.there (.there .here))) rfl rfl (S.holds _ (Pull.mem .here).1).1 (Res.row.src (S.holds _ (Pull.mem .here).1)) Tryd.underlying50 J46 c11 rfl ?_; clear S a; intro A14 cp78 a w S
              replace hw := CL.again hw S (.cons (.there .here) (.cons (.there (.there (.there .here))) (.cons (.there (.there (.there .here))) .nil))) le
              refine h_back ⟨fun _ => hw, ?_⟩
              replace CL := CL.add (t := 89) (d := (.v (.slice A14 (nn9 + 3) cp78))) S rfl rfl
              refine h_assign S CL hw le ⟨rfl, rfl, rfl, rfl, rfl, rfl, rfl, rfl, rfl, trivial⟩ rfl rfl rfl trivial ?_; clear S CL a; intro a S CL
              refine h_done ?_; clear CL hw le
              refine x_thenN ?_
              exact j5 _ A14 cp78 (y35 ++ [(true, ([] : List Int), wr .i64 ((((gt x1.2.2.2.2.2.2.2.2.2 y34).2).length : Int) + 2)), (t27.1, t27.2.1, t27.2.2), (true, ([] : List Int), (((gt x1.2.2.2.2.2.2.2.2.2 y34).2).length : Int))]) g113 g114 ch17.2.1 ch17.2.2 a w (S.sub ⟨rfl, rfl, rfl, rfl, rfl, rfl, rfl, trivial⟩ (.cons (.there .here) (.cons (.there .here) (.cons (.there .here) (.cons (.there .here) (.cons (.there .here) .nil)))))) h5
            exact h_nil
          exact h_nil
        · refine c_condF S rfl c4 ?_
          refine wp_exit ?_
          refine x_thenX ?_
          refine x_thenX ?_
          refine x_blockX ?_
          refine x_thenN ?_
          exact j3 _ A6 nn9 cp54 y35 g113 a w (S.sub ⟨rfl, rfl, rfl, trivial⟩ (.cons .here (.cons .here (.cons .here .nil)))) h1
    refine c_heldS S (.take 1 (.take 2 (.take 5 (.take 6 (.take 8 (.take 9 (.take 10 (.take 13 (.take 14 (.take 17 (.take 18 (.alts (.run 0 true (.alts (.run 3 true (.alts (.run 4 true (.alts (.run 7 true (.alts (.run 11 true (.alts (.run 12 true (.alts (.run 15 true (.alts (.run 16 true (.alts (.run 19 true (.alts (.run 20 true (.alts (.run 21 true (.alts (.run 22 true (.take 23 .done) .nil)) .nil)) .nil)) .nil)) .nil)) .nil)) .nil)) .nil)) .nil)) .nil)) .nil)) (.run 3 true (.alts (.run 0 true (.alts (.run 4 true (.alts (.run 7 true (.alts (.run 11 true (.alts (.run 12 true (.alts (.run 15 true (.alts (.run 16 true (.alts (.run 19 true (.alts (.run 20 true (.alts (.run 21 true (.alts (.run 22 true (.take 23 .done) .nil)) .nil)) .nil)) .nil)) .nil)) .nil)) .nil)) .nil)) .nil)) .nil)) (.run 4 true (.alts (.run 0 true (.alts (.run 7 true (.alts (.run 11 true (.alts (.run 12 true (.alts (.run 15 true (.alts (.run 16 true (.alts (.run 19 true (.alts (.run 20 true (.alts (.run 21 true (.alts (.run 22 true (.take 23 .done) .nil)) .nil)) .nil)) .nil)) .nil)) .nil)) .nil)) .nil)) .nil)) (.run 7 true (.alts (.run 0 true (.alts (.run 11 true (.alts (.run 12 true (.alts (.run 15 true (.alts (.run 16 true (.alts (.run 19 true (.alts (.run 20 true (.alts (.run 21 true (.alts (.run 22 true (.take 23 .done) .nil)) .nil)) .nil)) .nil)) .nil)) .nil)) .nil)) .nil)) (.run 11 true (.alts (.run 0 true (.alts (.run 12 true (.alts (.run 15 true (.alts (.run 16 true (.alts (.run 19 true (.alts (.run 20 true (.alts (.run 21 true (.alts (.run 22 true (.take 23 .done) .nil)) .nil)) .nil)) .nil)) .nil)) .nil)) .nil)) (.run 12 true (.alts (.run 0 true (.alts (.run 15 true (.alts (.run 16 true (.alts (.run 19 true (.alts (.run 20 true (.alts (.run 21 true (.alts (.run 22 true (.take 23 .done) .nil)) .nil)) .nil)) .nil)) .nil)) .nil)) (.run 15 true (.alts (.run 0 true (.alts (.run 16 true (.alts (.run 19 true (.alts (.run 20 true (.alts (.run 21 true (.alts (.run 22 true (.take 23 .done) .nil)) .nil)) .nil)) .nil)) .nil)) (.run 16 true (.alts (.run 0 true (.alts (.run 19 true (.alts (.run 20 true (.alts (.run 21 true (.alts (.run 22 true (.take 23 .done) .nil)) .nil)) .nil)) .nil)) (.run 19 true (.alts (.run 0 true (.alts (.run 20 true (.alts (.run 21 true (.alts (.run 22 true (.take 23 .done) .nil)) .nil)) .nil)) (.run 20 true (.alts (.run 0 true (.alts (.run 21 true (.alts (.run 22 true (.take 23 .done) .nil)) .nil)) (.run 21 true (.alts (.run 0 true (.alts (.run 22 true (.take 23 .done) .nil)) .nil)) .nil))) .nil))) .nil))) .nil))) .nil))) .nil))) .nil))) .nil))) .nil))) .nil)))))))))))))) 24 [Res.cells g7 37 [.ints .u8 [0, 0, 0, 0, 0, 0, 0, 0, 0, 0, 0, 0, 0, 0, 0, 0, 0, 0, 0, 0, 0, 0, 0, 0, 0, 0, 0, 0, 0, 0, 0, 0] 32], Res.fro g1 30 [.ints .u8 x1.1 20, .ints .u8 x1.2.1 20, .one (.bool x1.2.2.1), .one (.int .u64 x1.2.2.2.1), .ints .u64 x1.2.2.2.2.1 4, .sl ch_0_0 (x1.2.2.2.2.2.1).length ch_0_1 (RdS (Ty.int .u8) ch_0_0 x1.2.2.2.2.2.1), .one (.int .u64 x1.2.2.2.2.2.2.1), .ints .u64 x1.2.2.2.2.2.2.2.1 4, .ints .u64 x1.2.2.2.2.2.2.2.2.1 4, .sl ch_0_2 (x1.2.2.2.2.2.2.2.2.2).length ch_0_3 (RdS (Ty.prod (Ty.arr .u8 20) (Ty.slice (Ty.arr .u64 4))) ch_0_2 x1.2.2.2.2.2.2.2.2.2)]] (.cons (.there .here) (.cons (.there .here) .nil)) ⟨Res.stay_cells, Res.stay_fro, trivial⟩ [(1, (.v (.pointer (some ⟨g1, 0, none⟩))))] ⟨rfl, trivial⟩ (by kernel_rfl) (by kernel_rfl) ?_; clear S; intro w S CL hw le
    refine h_fieldAddr S CL hw le ⟨rfl, trivial⟩ rfl I30_4 T26 (by decide) rfl rfl rfl trivial ?_; clear S CL a; intro a S CL
    refine h_loadaF S CL hw le ⟨rfl, rfl, trivial⟩ rfl (.there .here) T26 (s' := [.ints .u64 x1.2.2.2.2.1 4]) rfl rfl rfl trivial ?_; clear S CL a; intro a S CL
    refine h_fieldAddr S CL hw le ⟨rfl, rfl, rfl, trivial⟩ rfl I30_5 T27 (by decide) rfl rfl rfl trivial ?_; clear S CL a; intro a S CL
    refine h_loadSlF S CL hw le ⟨rfl, rfl, rfl, rfl, trivial⟩ rfl (.there .here) T27 (A := ch_0_0) (len := (x1.2.2.2.2.2.1).length) (cap := ch_0_1) rfl rfl rfl trivial ?_; clear S CL a; intro a S CL
    refine h_fieldAddr S CL hw le ⟨rfl, rfl, rfl, rfl, rfl, trivial⟩ rfl I30_6 T24 (by decide) rfl rfl rfl trivial ?_; clear S CL a; intro a S CL
    refine h_load1F S CL hw le ⟨rfl, rfl, rfl, rfl, rfl, rfl, trivial⟩ rfl (.there .here) T24 (v := (.int .u64 x1.2.2.2.2.2.2.1)) rfl rfl rfl trivial ?_; clear S CL a; intro a S CL
    refine h_build S CL hw le ⟨rfl, rfl, rfl, rfl, rfl, rfl, rfl, trivial⟩ (ds := [(0, (.v (.int .u64 x1.2.2.2.2.2.2.1)))]) (dv := (.agg [.ints .u64 [x1.2.2.2.2.2.2.1, 0, 0, 0] 4])) rfl (fun _ => by kernel_rfl) ⟨rfl, trivial⟩ rfl rfl trivial ?_; clear S CL a; intro a S CL
    refine h_fieldAddr S CL hw le ⟨rfl, rfl, rfl, rfl, rfl, rfl, rfl, rfl, trivial⟩ rfl I30_7 T26 (by decide) rfl rfl rfl trivial ?_; clear S CL a; intro a S CL
    refine h_loadaF S CL hw le ⟨rfl, rfl, rfl, rfl, rfl, rfl, rfl, rfl, rfl, trivial⟩ rfl (.there .here) T26 (s' := [.ints .u64 x1.2.2.2.2.2.2.2.1 4]) rfl rfl rfl trivial ?_; clear S CL a; intro a S CL
    refine h_fieldAddr S CL hw le ⟨rfl, rfl, rfl, rfl, rfl, rfl, rfl, rfl, rfl, rfl, trivial⟩ rfl I30_8 T26 (by decide) rfl rfl rfl trivial ?_; clear S CL a; intro a S CL
    refine h_loadaF S CL hw le ⟨rfl, rfl, rfl, rfl, rfl, rfl, rfl, rfl, rfl, rfl, rfl, trivial⟩ rfl (.there .here) T26 (s' := [.ints .u64 x1.2.2.2.2.2.2.2.2.1 4]) rfl rfl rfl trivial ?_; clear S CL a; intro a S CL
    obtain ⟨t28, et28, h1⟩ := bind_of h0; clear h0
    obtain ⟨t29, et29, h2⟩ := bind_of h1; clear h1
    obtain ⟨t30, et30, h3⟩ := bind_of h2; clear h2
    obtain ⟨t31, et31, h4⟩ := bind_of h3; clear h3
    obtain ⟨t32, et32, h5⟩ := bind_of h4; clear h4
    obtain ⟨t33, et33, h6⟩ := bind_of h5; clear h5
    obtain ⟨t34, et34, h7⟩ := bind_of h6; clear h6
    obtain ⟨t35, et35, h8⟩ := bind_of h7; clear h7
    obtain ⟨t36, et36, h9⟩ := bind_of h8; clear h8
    obtain ⟨c12, h10⟩ := chk_of h9; clear h9
    refine h_alts ?_
    refine h_runO S rfl trivial ?_ ?_
    · refine s_move S rfl rfl ?_; clear S a; intro a S
      replace hw := CL.again hw S (.cons (.there .here) (.cons (.there .here) .nil)) le
      refine h_back ⟨fun _ => hw, ?_⟩
      refine h_run' S rfl trivial ?_
      refine s_callR S (fun (ch : (Option Addr) × Nat × Nat) => ((.v (.slice ch.1 ch.2.1 ch.2.2)) : D)) (fun (ch : (Option Addr) × Nat × Nat) => Res.row (Ty.int .u8) 5 ch.1 ch.2.1 ch.2.2 t28) N19 rfl rfl (smithyref07_Number.ok k x1.2.2.2.2.1 t28 et28 _ _) ?_; clear S a; intro ch32 m le1 a w S
      replace le := le.trans le1
      replace hw := CL.again hw S (.cons (.there (.there .here)) (.cons (.there (.there .here)) .nil)) le
      refine h_back ⟨fun _ => hw, ?_⟩
      refine h_run' S rfl trivial ?_
      replace S := S.rowfro .here
      obtain ⟨m, le1, S, hro⟩ := S
      replace le := le.trans le1
      replace S := S.slotro (u := 39) rfl hro
      refine s_callP S (fun (ch : (Option Addr) × Nat) => ((.agg [.one (.bool t29.1), .sl ch.1 (t29.2.1).length ch.2 (RdS (Ty.int .u8) ch.1 t29.2.1), .one (.int .i64 t29.2.2)]) : D)) N18 rfl rfl (smithyref19_item.ok t28 ch32.1 ch32.2.2 t29 et29 _ _) ?_; clear S a; intro ch33 m le1 a w S
      replace le := le.trans le1
      replace hw := CL.again hw S (.cons (.there .here) (.cons (.there .here) .nil)) le
      refine h_back ⟨fun _ => hw, ?_⟩
      refine h_run' S rfl trivial ?_
      refine s_callP S (fun (ch : (Option Addr) × Nat) => ((.agg [.one (.bool t30.1), .sl ch.1 (t30.2.1).length ch.2 (RdS (Ty.int .u8) ch.1 t30.2.1), .one (.int .i64 t30.2.2)]) : D)) N18 rfl rfl (smithyref19_item.ok x1.2.2.2.2.2.1 ch_0_0 ch_0_1 t30 et30 _ _) ?_; clear S a; intro ch34 m le1 a w S
      replace le := le.trans le1
      replace hw := CL.again hw S (.cons (.there .here) (.cons (.there .here) .nil)) le
      refine h_back ⟨fun _ => hw, ?_⟩
      refine h_run' S rfl trivial ?_
      refine s_callR S (fun (ch : (Option Addr) × Nat × Nat) => ((.v (.slice ch.1 ch.2.1 ch.2.2)) : D)) (fun (ch : (Option Addr) × Nat × Nat) => Res.row (Ty.int .u8) 5 ch.1 ch.2.1 ch.2.2 t31) N19 rfl rfl (smithyref07_Number.ok k [x1.2.2.2.2.2.2.1, 0, 0, 0] t31 et31 _ _) ?_; clear S a; intro ch35 m le1 a w S
      replace le := le.trans le1
      replace hw := CL.again hw S (.cons (.there (.there .here)) (.cons (.there (.there .here)) .nil)) le
      refine h_back ⟨fun _ => hw, ?_⟩
      refine h_run' S rfl trivial ?_
      replace S := S.rowfro .here
      obtain ⟨m, le1, S, hro⟩ := S
      replace le := le.trans le1
      replace S := S.slotro (u := 47) rfl hro
      refine s_callP S (fun (ch : (Option Addr) × Nat) => ((.agg [.one (.bool t32.1), .sl ch.1 (t32.2.1).length ch.2 (RdS (Ty.int .u8) ch.1 t32.2.1), .one (.int .i64 t32.2.2)]) : D)) N18 rfl rfl (smithyref19_item.ok t31 ch35.1 ch35.2.2 t32 et32 _ _) ?_; clear S a; intro ch36 m le1 a w S
      replace le := le.trans le1
      replace hw := CL.again hw S (.cons (.there .here) (.cons (.there .here) .nil)) le
      refine h_back ⟨fun _ => hw, ?_⟩
      refine h_run' S rfl trivial ?_
      refine s_callR S (fun (ch : (Option Addr) × Nat × Nat) => ((.v (.slice ch.1 ch.2.1 ch.2.2)) : D)) (fun (ch : (Option Addr) × Nat × Nat) => Res.row (Ty.int .u8) 5 ch.1 ch.2.1 ch.2.2 t33) N19 rfl rfl (smithyref07_Number.ok k x1.2.2.2.2.2.2.2.1 t33 et33 _ _) ?_; clear S a; intro ch37 m le1 a w S
      replace le := le.trans le1
      replace hw := CL.again hw S (.cons (.there (.there .here)) (.cons (.there (.there .here)) .nil)) le
      refine h_back ⟨fun _ => hw, ?_⟩
      refine h_run' S rfl trivial ?_
      replace S := S.rowfro .here
      obtain ⟨m, le1, S, hro⟩ := S
      replace le := le.trans le1
      replace S := S.slotro (u := 51) rfl hro
      refine s_callP S (fun (ch : (Option Addr) × Nat) => ((.agg [.one (.bool t34.1), .sl ch.1 (t34.2.1).length ch.2 (RdS (Ty.int .u8) ch.1 t34.2.1), .one (.int .i64 t34.2.2)]) : D)) N18 rfl rfl (smithyref19_item.ok t33 ch37.1 ch37.2.2 t34 et34 _ _) ?_; clear S a; intro ch38 m le1 a w S
      replace le := le.trans le1
      replace hw := CL.again hw S (.cons (.there .here) (.cons (.there .here) .nil)) le
      refine h_back ⟨fun _ => hw, ?_⟩
      refine h_run' S rfl trivial ?_
      refine s_callR S (fun (ch : (Option Addr) × Nat × Nat) => ((.v (.slice ch.1 ch.2.1 ch.2.2)) : D)) (fun (ch : (Option Addr) × Nat × Nat) => Res.row (Ty.int .u8) 5 ch.1 ch.2.1 ch.2.2 t35) N19 rfl rfl (smithyref07_Number.ok k x1.2.2.2.2.2.2.2.2.1 t35 et35 _ _) ?_; clear S a; intro ch39 m le1 a w S
      replace le := le.trans le1
      replace hw := CL.again hw S (.cons (.there (.there .here)) (.cons (.there (.there .here)) .nil)) le
      refine h_back ⟨fun _ => hw, ?_⟩
      refine h_run' S rfl trivial ?_
      replace S := S.rowfro .here
      obtain ⟨m, le1, S, hro⟩ := S
      replace le := le.trans le1
      replace S := S.slotro (u := 55) rfl hro
      refine s_callP S (fun (ch : (Option Addr) × Nat) => ((.agg [.one (.bool t36.1), .sl ch.1 (t36.2.1).length ch.2 (RdS (Ty.int .u8) ch.1 t36.2.1), .one (.int .i64 t36.2.2)]) : D)) N18 rfl rfl (smithyref19_item.ok t35 ch39.1 ch39.2.2 t36 et36 _ _) ?_; clear S a; intro ch40 m le1 a w S
      replace le := le.trans le1
      replace hw := CL.again hw S (.cons (.there .here) (.cons (.there .here) .nil)) le
      refine h_back ⟨fun _ => hw, ?_⟩
      refine h_run' S rfl trivial ?_
      refine s_bldSl S (ty' := (Ty.prod Ty.bool (Ty.prod (Ty.slice (Ty.int .u8)) (Ty.int .i64)))) (ds := [(0, (.agg [.one (.bool t29.1), .sl ch33.1 (t29.2.1).length ch33.2 (RdS (Ty.int .u8) ch33.1 t29.2.1), .one (.int .i64 t29.2.2)])), (1, (.agg [.one (.bool t30.1), .sl ch34.1 (t30.2.1).length ch34.2 (RdS (Ty.int .u8) ch34.1 t30.2.1), .one (.int .i64 t30.2.2)])), (2, (.agg [.one (.bool t32.1), .sl ch36.1 (t32.2.1).length ch36.2 (RdS (Ty.int .u8) ch36.1 t32.2.1), .one (.int .i64 t32.2.2)])), (3, (.agg [.one (.bool t34.1), .sl ch38.1 (t34.2.1).length ch38.2 (RdS (Ty.int .u8) ch38.1 t34.2.1), .one (.int .i64 t34.2.2)])), (4, (.agg [.one (.bool t36.1), .sl ch40.1 (t36.2.1).length ch40.2 (RdS (Ty.int .u8) ch40.1 t36.2.1), .one (.int .i64 t36.2.2)]))]) (z := (false, ([] : List Int), 0)) (c0 := ((), (none, 0), ())) (ys := [(t29.1, t29.2.1, t29.2.2), (t30.1, t30.2.1, t30.2.2), (t32.1, t32.2.1, t32.2.2), (t34.1, t34.2.1, t34.2.2), (t36.1, t36.2.1, t36.2.2)]) (cs := [((), (ch33.1, ch33.2), ()), ((), (ch34.1, ch34.2), ()), ((), (ch36.1, ch36.2), ()), ((), (ch38.1, ch38.2), ()), ((), (ch40.1, ch40.2), ())]) rfl Tryd.underlying50 J46 Z46 rfl ⟨rfl, ⟨Nat.le_refl _, Nat.zero_le _, RdS.nil _ _ _, RdS.mono _ _ _⟩, rfl, trivial⟩ rfl rfl rfl rfl rfl rfl ?_; clear S a; intro g161 a w S
      replace hw := CL.again hw S (.cons (.there (.there .here)) (.cons (.there (.there .here)) .nil)) le
      refine h_back ⟨fun _ => hw, ?_⟩
      refine h_run' S rfl trivial ?_
      refine s_app S (k2 := 5) (ys := [(t29.1, t29.2.1, t29.2.2), (t30.1, t30.2.1, t30.2.2), (t32.1, t32.2.1, t32.2.2), (t34.1, t34.2.1, t34.2.2), (t36.1, t36.2.1, t36.2.2)]) rfl (fun _ _ => (.there .here)) rfl rfl (S.holds _ (Pull.mem .here).1).1 (Res.row.src (S.holds _ (Pull.mem .here).1)) Tryd.underlying50 J46 c12 rfl ?_; clear S a; intro A15 cp79 a w S
      replace hw := CL.again hw S (.cons (.there (.there .here)) (.cons (.there (.there .here)) .nil)) le
      refine h_back ⟨fun _ => hw, ?_⟩
      replace CL := CL.add (t := 58) (d := (.v (.slice A15 ((3 + 1) + 5) cp79))) S rfl rfl
      refine h_assign S CL hw le ⟨rfl, rfl, rfl, rfl, rfl, rfl, rfl, rfl, rfl, rfl, rfl, rfl, rfl, trivial⟩ rfl rfl rfl trivial ?_; clear S CL a; intro a S CL
      refine h_done ?_; clear CL hw le
      refine x_thenN ?_
      exact j2 _ A15 cp79 (y1 ++ [(t29.1, t29.2.1, t29.2.2), (t30.1, t30.2.1, t30.2.2), (t32.1, t32.2.1, t32.2.2), (t34.1, t34.2.1, t34.2.2), (t36.1, t36.2.1, t36.2.2)]) g7 g1 a w (S.sub ⟨rfl, rfl, rfl, trivial⟩ (.cons (.there .here) (.cons (.there .here) (.cons (.there .here) .nil)))) h10
    refine h_runO S rfl trivial ?_ ?_
    · refine s_callR S (fun (ch : (Option Addr) × Nat × Nat) => ((.v (.slice ch.1 ch.2.1 ch.2.2)) : D)) (fun (ch : (Option Addr) × Nat × Nat) => Res.row (Ty.int .u8) 5 ch.1 ch.2.1 ch.2.2 t28) N19 rfl rfl (smithyref07_Number.ok k x1.2.2.2.2.1 t28 et28 _ _) ?_; clear S a; intro ch32 m le1 a w S
      replace le := le.trans le1
      replace hw := CL.again hw S (.cons (.there (.there .here)) (.cons (.there (.there .here)) .nil)) le
      refine h_back ⟨fun _ => hw, ?_⟩
      refine h_alts ?_
      refine h_runO S rfl trivial ?_ ?_
      · refine s_move S rfl rfl ?_; clear S a; intro a S
        replace hw := CL.again hw S (.cons (.there (.there .here)) (.cons (.there (.there .here)) .nil)) le
        refine h_back ⟨fun _ => hw, ?_⟩
        refine h_run' S rfl trivial ?_
        replace S := S.rowfro .here
        obtain ⟨m, le1, S, hro⟩ := S
        replace le := le.trans le1
        replace S := S.slotro (u := 39) rfl hro
        refine s_callP S (fun (ch : (Option Addr) × Nat) => ((.agg [.one (.bool t29.1), .sl ch.1 (t29.2.1).length ch.2 (RdS (Ty.int .u8) ch.1 t29.2.1), .one (.int .i64 t29.2.2)]) : D)) N18 rfl rfl (smithyref19_item.ok t28 ch32.1 ch32.2.2 t29 et29 _ _) ?_; clear S a; intro ch33 m le1 a w S
        replace le := le.trans le1
        replace hw := CL.again hw S (.cons (.there .here) (.cons (.there .here) .nil)) le
        refine h_back ⟨fun _ => hw, ?_⟩
        refine h_run' S rfl trivial ?_
        refine s_callP S (fun (ch : (Option Addr) × Nat) => ((.agg [.one (.bool t30.1), .sl ch.1 (t30.2.1).length ch.2 (RdS (Ty.int .u8) ch.1 t30.2.1), .one (.int .i64 t30.2.2)]) : D)) N18 rfl rfl (smithyref19_item.ok x1.2.2.2.2.2.1 ch_0_0 ch_0_1 t30 et30 _ _) ?_; clear S a; intro ch34 m le1 a w S
        replace le := le.trans le1
        replace hw := CL.again hw S (.cons (.there .here) (.cons (.there .here) .nil)) le
        refine h_back ⟨fun _ => hw, ?_⟩
        refine h_run' S rfl trivial ?_
        refine s_callR S (fun (ch : (Option Addr) × Nat × Nat) => ((.v (.slice ch.1 ch.2.1 ch.2.2)) : D)) (fun (ch : (Option Addr) × Nat × Nat) => Res.row (Ty.int .u8) 5 ch.1 ch.2.1 ch.2.2 t31) N19 rfl rfl (smithyref07_Number.ok k [x1.2.2.2.2.2.2.1, 0, 0, 0] t31 et31 _ _) ?_; clear S a; intro ch35 m le1 a w S
        replace le := le.trans le1
        replace hw := CL.again hw S (.cons (.there (.there .here)) (.cons (.there (.there .here)) .nil)) le
        refine h_back ⟨fun _ => hw, ?_⟩
        refine h_run' S rfl trivial ?_
        replace S := S.rowfro .here
        obtain ⟨m, le1, S, hro⟩ := S
        replace le := le.trans le1
        replace S := S.slotro (u := 47) rfl hro
        refine s_callP S (fun (ch : (Option Addr) × Nat) => ((.agg [.one (.bool t32.1), .sl ch.1 (t32.2.1).length ch.2 (RdS (Ty.int .u8) ch.1 t32.2.1), .one (.int .i64 t32.2.2)]) : D)) N18 rfl rfl (smithyref19_item.ok t31 ch35.1 ch35.2.2 t32 et32 _ _) ?_; clear S a; intro ch36 m le1 a w S
        replace le := le.trans le1
        replace hw := CL.again hw S (.cons (.there .here) (.cons (.there .here) .nil)) le
        refine h_back ⟨fun _ => hw, ?_⟩
        refine h_run' S rfl trivial ?_
        refine s_callR S (fun (ch : (Option Addr) × Nat × Nat) => ((.v (.slice ch.1 ch.2.1 ch.2.2)) : D)) (fun (ch : (Option Addr) × Nat × Nat) => Res.row (Ty.int .u8) 5 ch.1 ch.2.1 ch.2.2 t33) N19 rfl rfl (smithyref07_Number.ok k x1.2.2.2.2.2.2.2.1 t33 et33 _ _) ?_; clear S a; intro ch37 m le1 a w S
        replace le := le.trans le1
        replace hw := CL.again hw S (.cons (.there (.there .here)) (.cons (.there (.there .here)) .nil)) le
        refine h_back ⟨fun _ => hw, ?_⟩
        refine h_run' S rfl trivial ?_
        replace S := S.rowfro .here
        obtain ⟨m, le1, S, hro⟩ := S
        replace le := le.trans le1
        replace S := S.slotro (u := 51) rfl hro
        refine s_callP S (fun (ch : (Option Addr) × Nat) => ((.agg [.one (.bool t34.1), .sl ch.1 (t34.2.1).length ch.2 (RdS (Ty.int .u8) ch.1 t34.2.1), .one (.int .i64 t34.2.2)]) : D)) N18 rfl rfl (smithyref19_item.ok t33 ch37.1 ch37.2.2 t34 et34 _ _) ?_; clear S a; intro ch38 m le1 a w S
        replace le := le.trans le1
        replace hw := CL.again hw S (.cons (.there .here) (.cons (.there .here) .nil)) le
        refine h_back ⟨fun _ => hw, ?_⟩
        refine h_run' S rfl trivial ?_
        refine s_callR S (fun (ch : (Option Addr) × Nat × Nat) => ((.v (.slice ch.1 ch.2.1 ch.2.2)) : D)) (fun (ch : (Option Addr) × Nat × Nat) => Res.row (Ty.int .u8) 5 ch.1 ch.2.1 ch.2.2 t35) N19 rfl rfl (smithyref07_Number.ok k x1.2.2.2.2.2.2.2.2.1 t35 et35 _ _) ?_; clear S a; intro ch39 m le1 a w S
        replace le := le.trans le1
        replace hw := CL.again hw S (.cons (.there (.there .here)) (.cons (.there (.there .here)) .nil)) le
        refine h_back ⟨fun _ => hw, ?_⟩
        refine h_run' S rfl trivial ?_
        replace S := S.rowfro .here
        obtain ⟨m, le1, S, hro⟩ := S
        replace le := le.trans le1
        replace S := S.slotro (u := 55) rfl hro
        refine s_callP S (fun (ch : (Option Addr) × Nat) => ((.agg [.one (.bool t36.1), .sl ch.1 (t36.2.1).length ch.2 (RdS (Ty.int .u8) ch.1 t36.2.1), .one (.int .i64 t36.2.2)]) : D)) N18 rfl rfl (smithyref19_item.ok t35 ch39.1 ch39.2.2 t36 et36 _ _) ?_; clear S a; intro ch40 m le1 a w S
        replace le := le.trans le1
        replace hw := CL.again hw S (.cons (.there .here) (.cons (.there .here) .nil)) le
        refine h_back ⟨fun _ => hw, ?_⟩
        refine h_run' S rfl trivial ?_
        refine s_bldSl S (ty' := (Ty.prod Ty.bool (Ty.prod (Ty.slice (Ty.int .u8)) (Ty.int .i64)))) (ds := [(0, (.agg [.one (.bool t29.1), .sl ch33.1 (t29.2.1).length ch33.2 (RdS (Ty.int .u8) ch33.1 t29.2.1), .one (.int .i64 t29.2.2)])), (1, (.agg [.one (.bool t30.1), .sl ch34.1 (t30.2.1).length ch34.2 (RdS (Ty.int .u8) ch34.1 t30.2.1), .one (.int .i64 t30.2.2)])), (2, (.agg [.one (.bool t32.1), .sl ch36.1 (t32.2.1).length ch36.2 (RdS (Ty.int .u8) ch36.1 t32.2.1), .one (.int .i64 t32.2.2)])), (3, (.agg [.one (.bool t34.1), .sl ch38.1 (t34.2.1).length ch38.2 (RdS (Ty.int .u8) ch38.1 t34.2.1), .one (.int .i64 t34.2.2)])), (4, (.agg [.one (.bool t36.1), .sl ch40.1 (t36.2.1).length ch40.2 (RdS (Ty.int .u8) ch40.1 t36.2.1), .one (.int .i64 t36.2.2)]))]) (z := (false, ([] : List Int), 0)) (c0 := ((), (none, 0), ())) (ys := [(t29.1, t29.2.1, t29.2.2), (t30.1, t30.2.1, t30.2.2), (t32.1, t32.2.1, t32.2.2), (t34.1, t34.2.1, t34.2.2), (t36.1, t36.2.1, t36.2.2)]) (cs := [((), (ch33.1, ch33.2), ()), ((), (ch34.1, ch34.2), ()), ((), (ch36.1, ch36.2), ()), ((), (ch38.1, ch38.2), ()), ((), (ch40.1, ch40.2), ())]) rfl Tryd.underlying50 J46 Z46 rfl ⟨rfl, ⟨Nat.le_refl _, Nat.zero_le _, RdS.nil _ _ _, RdS.mono _ _ _⟩, rfl, trivial⟩ rfl rfl rfl rfl rfl rfl ?_; clear S a; intro g161 a w S
        replace hw := CL.again hw S (.cons (.there (.there .here)) (.cons (.there (.there .here)) .nil)) le
        refine h_back ⟨fun _ => hw, ?_⟩
        refine h_run' S rfl trivial ?_
        refine s_app S (k2 := 5) (ys := [(t29.1, t29.2.1, t29.2.2), (t30.1, t30.2.1, t30.2.2), (t32.1, t32.2.1, t32.2.2), (t34.1, t34.2.1, t34.2.2), (t36.1, t36.2.1, t36.2.2)]) rfl (fun _ _ => (.there .here)) rfl rfl (S.holds _ (Pull.mem .here).1).1 (Res.row.src (S.holds _ (Pull.mem .here).1)) Tryd.underlying50 J46 c12 rfl ?_; clear S a; intro A15 cp79 a w S
        replace hw := CL.again hw S (.cons (.there (.there .here)) (.cons (.there (.there .here)) .nil)) le
        refine h_back ⟨fun _ => hw, ?_⟩
        replace CL := CL.add (t := 58) (d := (.v (.slice A15 ((3 + 1) + 5) cp79))) S rfl rfl
        refine h_assign S CL hw le ⟨rfl, rfl, rfl, rfl, rfl, rfl, rfl, rfl, rfl, rfl, rfl, rfl, rfl, trivial⟩ rfl rfl rfl trivial ?_; clear S CL a; intro a S CL
        refine h_done ?_; clear CL hw le
        refine x_thenN ?_
        exact j2 _ A15 cp79 (y1 ++ [(t29.1, t29.2.1, t29.2.2), (t30.1, t30.2.1, t30.2.2), (t32.1, t32.2.1, t32.2.2), (t34.1, t34.2.1, t34.2.2), (t36.1, t36.2.1, t36.2.2)]) g7 g1 a w (S.sub ⟨rfl, rfl, rfl, trivial⟩ (.cons (.there .here) (.cons (.there .here) (.cons (.there .here) .nil)))) h10
      refine h_runO S rfl trivial ?_ ?_
      · replace S := S.rowfro .here
        obtain ⟨m, le1, S, hro⟩ := S
        replace le := le.trans le1
        replace S := S.slotro (u := 39) rfl hro
        refine s_callP S (fun (ch : (Option Addr) × Nat) => ((.agg [.one (.bool t29.1), .sl ch.1 (t29.2.1).length ch.2 (RdS (Ty.int .u8) ch.1 t29.2.1), .one (.int .i64 t29.2.2)]) : D)) N18 rfl rfl (smithyref19_item.ok t28 ch32.1 ch32.2.2 t29 et29 _ _) ?_; clear S a; intro ch33 m le1 a w S
        replace le := le.trans le1
        replace hw := CL.again hw S (.cons (.there .here) (.cons (.there .here) .nil)) le
        refine h_back ⟨fun _ => hw, ?_⟩
        refine h_alts ?_
        refine h_runO S rfl trivial ?_ ?_
        · refine s_move S rfl rfl ?_; clear S a; intro a S
          replace hw := CL.again hw S (.cons (.there .here) (.cons (.there .here) .nil)) le
          refine h_back ⟨fun _ => hw, ?_⟩
          refine h_run' S rfl trivial ?_
          refine s_callP S (fun (ch : (Option Addr) × Nat) => ((.agg [.one (.bool t30.1), .sl ch.1 (t30.2.1).length ch.2 (RdS (Ty.int .u8) ch.1 t30.2.1), .one (.int .i64 t30.2.2)]) : D)) N18 rfl rfl (smithyref19_item.ok x1.2.2.2.2.2.1 ch_0_0 ch_0_1 t30 et30 _ _) ?_; clear S a; intro ch34 m le1 a w S
          replace le := le.trans le1
          replace hw := CL.again hw S (.cons (.there .here) (.cons (.there .here) .nil)) le
          refine h_back ⟨fun _ => hw, ?_⟩
          refine h_run' S rfl trivial ?_
          refine s_callR S (fun (ch : (Option Addr) × Nat × Nat) => ((.v (.slice ch.1 ch.2.1 ch.2.2)) : D)) (fun (ch : (Option Addr) × Nat × Nat) => Res.row (Ty.int .u8) 5 ch.1 ch.2.1 ch.2.2 t31) N19 rfl rfl (smithyref07_Number.ok k [x1.2.2.2.2.2.2.1, 0, 0, 0] t31 et31 _ _) ?_; clear S a; intro ch35 m le1 a w S
          replace le := le.trans le1
          replace hw := CL.again hw S (.cons (.there (.there .here)) (.cons (.there (.there .here)) .nil)) le
          refine h_back ⟨fun _ => hw, ?_⟩
          refine h_run' S rfl trivial ?_
          replace S := S.rowfro .here
          obtain ⟨m, le1, S, hro⟩ := S
          replace le := le.trans le1
          replace S := S.slotro (u := 47) rfl hro
          refine s_callP S (fun (ch : (Option Addr) × Nat) => ((.agg [.one (.bool t32.1), .sl ch.1 (t32.2.1).length ch.2 (RdS (Ty.int .u8) ch.1 t32.2.1), .one (.int .i64 t32.2.2)]) : D)) N18 rfl rfl (smithyref19_item.ok t31 ch35.1 ch35.2.2 t32 et32 _ _) ?_; clear S a; intro ch36 m le1 a w S
          replace le := le.trans le1
          replace hw := CL.again hw S (.cons (.there .here) (.cons (.there .here) .nil)) le
          refine h_back ⟨fun _ => hw, ?_⟩
          refine h_run' S rfl trivial ?_
          refine s_callR S (fun (ch : (Option Addr) × Nat × Nat) => ((.v (.slice ch.1 ch.2.1 ch.2.2)) : D)) (fun (ch : (Option Addr) × Nat × Nat) => Res.row (Ty.int .u8) 5 ch.1 ch.2.1 ch.2.2 t33) N19 rfl rfl (smithyref07_Number.ok k x1.2.2.2.2.2.2.2.1 t33 et33 _ _) ?_; clear S a; intro ch37 m le1 a w S
          replace le := le.trans le1
          replace hw := CL.again hw S (.cons (.there (.there .here)) (.cons (.there (.there .here)) .nil)) le
          refine h_back ⟨fun _ => hw, ?_⟩
          refine h_run' S rfl trivial ?_
          replace S := S.rowfro .here
          obtain ⟨m, le1, S, hro⟩ := S
          replace le := le.trans le1
          replace S := S.slotro (u := 51) rfl hro
          refine s_callP S (fun (ch : (Option Addr) × Nat) => ((.agg [.one (.bool t34.1), .sl ch.1 (t34.2.1).length ch.2 (RdS (Ty.int .u8) ch.1 t34.2.1), .one (.int .i64 t34.2.2)]) : D)) N18 rfl rfl (smithyref19_item.ok t33 ch37.1 ch37.2.2 t34 et34 _ _) ?_; clear S a; intro ch38 m le1 a w S
          replace le := le.trans le1
          replace hw := CL.again hw S (.cons (.there .here) (.cons (.there .here) .nil)) le
          refine h_back ⟨fun _ => hw, ?_⟩
          refine h_run' S rfl trivial ?_
          refine s_callR S (fun (ch : (Option Addr) × Nat × Nat) => ((.v (.slice ch.1 ch.2.1 ch.2.2)) : D)) (fun (ch : (Option Addr) × Nat × Nat) => Res.row (Ty.int .u8) 5 ch.1 ch.2.1 ch.2.2 t35) N19 rfl rfl (smithyref07_Number.ok k x1.2.2.2.2.2.2.2.2.1 t35 et35 _ _) ?_; clear S a; intro ch39 m le1 a w S
          replace le := le.trans le1
          replace hw := CL.again hw S (.cons (.there (.there .here)) (.cons (.there (.there .here)) .nil)) le
          refine h_back ⟨fun _ => hw, ?_⟩
          refine h_run' S rfl trivial ?_
          replace S := S.rowfro .here
          obtain ⟨m, le1, S, hro⟩ := S
          replace le := le.trans le1
          replace S := S.slotro (u := 55) rfl hro
          refine s_callP S (fun (ch : (Option Addr) × Nat) => ((.agg [.one (.bool t36.1), .sl ch.1 (t36.2.1).length ch.2 (RdS (Ty.int .u8) ch.1 t36.2.1), .one (.int .i64 t36.2.2)]) : D)) N18 rfl rfl (smithyref19_item.ok t35 ch39.1 ch39.2.2 t36 et36 _ _) ?_; clear S a; intro ch40 m le1 a w S
          replace le := le.trans le1
          replace hw := CL.again hw S (.cons (.there .here) (.cons (.there .here) .nil)) le
          refine h_back ⟨fun _ => hw, ?_⟩
          refine h_run' S rfl trivial ?_
          refine s_bldSl S (ty' := (Ty.prod Ty.bool (Ty.prod (Ty.slice (Ty.int .u8)) (Ty.int .i64)))) (ds := [(0, (.agg [.one (.bool t29.1), .sl ch33.1 (t29.2.1).length ch33.2 (RdS (Ty.int .u8) ch33.1 t29.2.1), .one (.int .i64 t29.2.2)])), (1, (.agg [.one (.bool t30.1), .sl ch34.1 (t30.2.1).length ch34.2 (RdS (Ty.int .u8) ch34.1 t30.2.1), .one (.int .i64 t30.2.2)])), (2, (.agg [.one (.bool t32.1), .sl ch36.1 (t32.2.1).length ch36.2 (RdS (Ty.int .u8) ch36.1 t32.2.1), .one (.int .i64 t32.2.2)])), (3, (.agg [.one (.bool t34.1), .sl ch38.1 (t34.2.1).length ch38.2 (RdS (Ty.int .u8) ch38.1 t34.2.1), .one (.int .i64 t34.2.2)])), (4, (.agg [.one (.bool t36.1), .sl ch40.1 (t36.2.1).length ch40.2 (RdS (Ty.int .u8) ch40.1 t36.2.1), .one (.int .i64 t36.2.2)]))]) (z := (false, ([] : List Int), 0)) (c0 := ((), (none, 0), ())) (ys := [(t29.1, t29.2.1, t29.2.2), (t30.1, t30.2.1, t30.2.2), (t32.1, t32.2.1, t32.2.2), (t34.1, t34.2.1, t34.2.2), (t36.1, t36.2.1, t36.2.2)]) (cs := [((), (ch33.1, ch33.2), ()), ((), (ch34.1, ch34.2), ()), ((), (ch36.1, ch36.2), ()), ((), (ch38.1, ch38.2), ()), ((), (ch40.1, ch40.2), ())]) rfl Tryd.underlying50 J46 Z46 rfl ⟨rfl, ⟨Nat.le_refl _, Nat.zero_le _, RdS.nil _ _ _, RdS.mono _ _ _⟩, rfl, trivial⟩ rfl rfl rfl rfl rfl rfl ?_; clear S a; intro g161 a w S
          replace hw := CL.again hw S (.cons (.there (.there .here)) (.cons (.there (.there .here)) .nil)) le
          refine h_back ⟨fun _ => hw, ?_⟩
          refine h_run' S rfl trivial ?_
          refine s_app S (k2 := 5) (ys := [(t29.1, t29.2.1, t29.2.2), (t30.1, t30.2.1, t30.2.2), (t32.1, t32.2.1, t32.2.2), (t34.1, t34.2.1, t34.2.2), (t36.1, t36.2.1, t36.2.2)]) rfl (fun _ _ => (.there .here)) rfl rfl (S.holds _ (Pull.mem .here).1).1 (Res.row.src (S.holds _ (Pull.mem .here).1)) Tryd.underlying50 J46 c12 rfl ?_; clear S a; intro A15 cp79 a w S
          replace hw := CL.again hw S (.cons (.there (.there .here)) (.cons (.there (.there .here)) .nil)) le
          refine h_back ⟨fun _ => hw, ?_⟩
          replace CL := CL.add (t := 58) (d := (.v (.slice A15 ((3 + 1) + 5) cp79))) S rfl rfl
          refine h_assign S CL hw le ⟨rfl, rfl, rfl, rfl, rfl, rfl, rfl, rfl, rfl, rfl, rfl, rfl, rfl, trivial⟩ rfl rfl rfl trivial ?_; clear S CL a; intro a S CL
          refine h_done ?_; clear CL hw le
          refine x_thenN ?_
          exact j2 _ A15 cp79 (y1 ++ [(t29.1, t29.2.1, t29.2.2), (t30.1, t30.2.1, t30.2.2), (t32.1, t32.2.1, t32.2.2), (t34.1, t34.2.1, t34.2.2), (t36.1, t36.2.1, t36.2.2)]) g7 g1 a w (S.sub ⟨rfl, rfl, rfl, trivial⟩ (.cons (.there .here) (.cons (.there .here) (.cons (.there .here) .nil)))) h10
        refine h_runO S rfl trivial ?_ ?_
        · refine s_callP S (fun (ch : (Option Addr) × Nat) => ((.agg [.one (.bool t30.1), .sl ch.1 (t30.2.1).length ch.2 (RdS (Ty.int .u8) ch.1 t30.2.1), .one (.int .i64 t30.2.2)]) : D)) N18 rfl rfl (smithyref19_item.ok x1.2.2.2.2.2.1 ch_0_0 ch_0_1 t30 et30 _ _) ?_; clear S a; intro ch34 m le1 a w S
          replace le := le.trans le1
          replace hw := CL.again hw S (.cons (.there .here) (.cons (.there .here) .nil)) le
          refine h_back ⟨fun _ => hw, ?_⟩
          refine h_alts ?_
          refine h_runO S rfl trivial ?_ ?_
          · refine s_move S rfl rfl ?_; clear S a; intro a S
            replace hw := CL.again hw S (.cons (.there .here) (.cons (.there .here) .nil)) le
            refine h_back ⟨fun _ => hw, ?_⟩
            refine h_run' S rfl trivial ?_
            refine s_callR S (fun (ch : (Option Addr) × Nat × Nat) => ((.v (.slice ch.1 ch.2.1 ch.2.2)) : D)) (fun (ch : (Option Addr) × Nat × Nat) => Res.row (Ty.int .u8) 5 ch.1 ch.2.1 ch.2.2 t31) N19 rfl rfl (smithyref07_Number.ok k [x1.2.2.2.2.2.2.1, 0, 0, 0] t31 et31 _ _) ?_; clear S a; intro ch35 m le1 a w S
            replace le := le.trans le1
            replace hw := CL.again hw S (.cons (.there (.there .here)) (.cons (.there (.there .here)) .nil)) le
            refine h_back ⟨fun _ => hw, ?_⟩
            refine h_run' S rfl trivial ?_
            replace S := S.rowfro .here
            obtain ⟨m, le1, S, hro⟩ := S
            replace le := le.trans le1
            replace S := S.slotro (u := 47) rfl hro
            refine s_callP S (fun (ch : (Option Addr) × Nat) => ((.agg [.one (.bool t32.1), .sl ch.1 (t32.2.1).length ch.2 (RdS (Ty.int .u8) ch.1 t32.2.1), .one (.int .i64 t32.2.2)]) : D)) N18 rfl rfl (smithyref19_item.ok t31 ch35.1 ch35.2.2 t32 et32 _ _) ?_; clear S a; intro ch36 m le1 a w S
            replace le := le.trans le1
            replace hw := CL.again hw S (.cons (.there .here) (.cons (.there .here) .nil)) le
            refine h_back ⟨fun _ => hw, ?_⟩
            refine h_run' S rfl trivial ?_
            refine s_callR S (fun (ch : (Option Addr) × Nat × Nat) => ((.v (.slice ch.1 ch.2.1 ch.2.2)) : D)) (fun (ch : (Option Addr) × Nat × Nat) => Res.row (Ty.int .u8) 5 ch.1 ch.2.1 ch.2.2 t33) N19 rfl rfl (smithyref07_Number.ok k x1.2.2.2.2.2.2.2.1 t33 et33 _ _) ?_; clear S a; intro ch37 m le1 a w S
            replace le := le.trans le1
            replace hw := CL.again hw S (.cons (.there (.there .here)) (.cons (.there (.there .here)) .nil)) le
            refine h_back ⟨fun _ => hw, ?_⟩
            refine h_run' S rfl trivial ?_
            replace S := S.rowfro .here
            obtain ⟨m, le1, S, hro⟩ := S
            replace le := le.trans le1
            replace S := S.slotro (u := 51) rfl hro
            refine s_callP S (fun (ch : (Option Addr) × Nat) => ((.agg [.one (.bool t34.1), .sl ch.1 (t34.2.1).length ch.2 (RdS (Ty.int .u8) ch.1 t34.2.1), .one (.int .i64 t34.2.2)]) : D)) N18 rfl rfl (smithyref19_item.ok t33 ch37.1 ch37.2.2 t34 et34 _ _) ?_; clear S a; intro ch38 m le1 a w S
            replace le := le.trans le1
            replace hw := CL.again hw S (.cons (.there .here) (.cons (.there .here) .nil)) le
            refine h_back ⟨fun _ => hw, ?_⟩
            refine h_run' S rfl trivial ?_
            refine s_callR S (fun (ch : (Option Addr) × Nat × Nat) => ((.v (.slice ch.1 ch.2.1 ch.2.2)) : D)) (fun (ch : (Option Addr) × Nat × Nat) => Res.row (Ty.int .u8) 5 ch.1 ch.2.1 ch.2.2 t35) N19 rfl rfl (smithyref07_Number.ok k x1.2.2.2.2.2.2.2.2.1 t35 et35 _ _) ?_; clear S a; intro ch39 m le1 a w S
            replace le := le.trans le1
            replace hw := CL.again hw S (.cons (.there (.there .here)) (.cons (.there (.there .here)) .nil)) le
            refine h_back ⟨fun _ => hw, ?_⟩
            refine h_run' S rfl trivial ?_
            replace S := S.rowfro .here
            obtain ⟨m, le1, S, hro⟩ := S
            replace le := le.trans le1
            replace S := S.slotro (u := 55) rfl hro
            refine s_callP S (fun (ch : (Option Addr) × Nat) => ((.agg [.one (.bool t36.1), .sl ch.1 (t36.2.1).length ch.2 (RdS (Ty.int .u8) ch.1 t36.2.1), .one (.int .i64 t36.2.2)]) : D)) N18 rfl rfl (smithyref19_item.ok t35 ch39.1 ch39.2.2 t36 et36 _ _) ?_; clear S a; intro ch40 m le1 a w S
            replace le := le.trans le1
            replace hw := CL.again hw S (.cons (.there .here) (.cons (.there .here) .nil)) le
            refine h_back ⟨fun _ => hw, ?_⟩
            refine h_run' S rfl trivial ?_
            refine s_bldSl S (ty' := (Ty.prod Ty.bool (Ty.prod (Ty.slice (Ty.int .u8)) (Ty.int .i64)))) (ds := [(0, (.agg [.one (.bool t29.1), .sl ch33.1 (t29.2.1).length ch33.2 (RdS (Ty.int .u8) ch33.1 t29.2.1), .one (.int .i64 t29.2.2)])), (1, (.agg [.one (.bool t30.1), .sl ch34.1 (t30.2.1).length ch34.2 (RdS (Ty.int .u8) ch34.1 t30.2.1), .one (.int .i64 t30.2.2)])), (2, (.agg [.one (.bool t32.1), .sl ch36.1 (t32.2.1).length ch36.2 (RdS (Ty.int .u8) ch36.1 t32.2.1), .one (.int .i64 t32.2.2)])), (3, (.agg [.one (.bool t34.1), .sl ch38.1 (t34.2.1).length ch38.2 (RdS (Ty.int .u8) ch38.1 t34.2.1), .one (.int .i64 t34.2.2)])), (4, (.agg [.one (.bool t36.1), .sl ch40.1 (t36.2.1).length ch40.2 (RdS (Ty.int .u8) ch40.1 t36.2.1), .one (.int .i64 t36.2.2)]))]) (z := (false, ([] : List Int), 0)) (c0 := ((), (none, 0), ())) (ys := [(t29.1, t29.2.1, t29.2.2), (t30.1, t30.2.1, t30.2.2), (t32.1, t32.2.1, t32.2.2), (t34.1, t34.2.1, t34.2.2), (t36.1, t36.2.1, t36.2.2)]) (cs := [((), (ch33.1, ch33.2), ()), ((), (ch34.1, ch34.2), ()), ((), (ch36.1, ch36.2), ()), ((), (ch38.1, ch38.2), ()), ((), (ch40.1, ch40.2), ())]) rfl Tryd.underlying50 J46 Z46 rfl ⟨rfl, ⟨Nat.le_refl _, Nat.zero_le _, RdS.nil _ _ _, RdS.mono _ _ _⟩, rfl, trivial⟩ rfl rfl rfl rfl rfl rfl ?_; clear S a; intro g161 a w S
            replace hw := CL.again hw S (.cons (.there (.there .here)) (.cons (.there (.there .here)) .nil)) le
            refine h_back ⟨fun _ => hw, ?_⟩
            refine h_run' S rfl trivial ?_
            refine s_app S (k2 := 5) (ys := [(t29.1, t29.2.1, t29.2.2), (t30.1, t30.2.1, t30.2.2), (t32.1, t32.2.1, t32.2.2), (t34.1, t34.2.1, t34.2.2), (t36.1, t36.2.1, t36.2.2)]) rfl (fun _ _ => (.there .here)) rfl rfl (S.holds _ (Pull.mem .here).1).1 (Res.row.src (S.holds _ (Pull.mem .here).1)) Tryd.underlying50 J46 c12 rfl ?_; clear S a; intro A15 cp79 a w S
            replace hw := CL.again hw S (.cons (.there (.there .here)) (.cons (.there (.there .here)) .nil)) le
            refine h_back ⟨fun _ => hw, ?_⟩
            replace CL := CL.add (t := 58) (d := (.v (.slice A15 ((3 + 1) + 5) cp79))) S rfl rfl
            refine h_assign S CL hw le ⟨rfl, rfl, rfl, rfl, rfl, rfl, rfl, rfl, rfl, rfl, rfl, rfl, rfl, trivial⟩ rfl rfl rfl trivial ?_; clear S CL a; intro a S CL
            refine h_done ?_; clear CL hw le
            refine x_thenN ?_
            exact j2 _ A15 cp79 (y1 ++ [(t29.1, t29.2.1, t29.2.2), (t30.1, t30.2.1, t30.2.2), (t32.1, t32.2.1, t32.2.2), (t34.1, t34.2.1, t34.2.2), (t36.1, t36.2.1, t36.2.2)]) g7 g1 a w (S.sub ⟨rfl, rfl, rfl, trivial⟩ (.cons (.there .here) (.cons (.there .here) (.cons (.there .here) .nil)))) h10
          refine h_runO S rfl trivial ?_ ?_
          · refine s_callR S (fun (ch : (Option Addr) × Nat × Nat) => ((.v (.slice ch.1 ch.2.1 ch.2.2)) : D)) (fun (ch : (Option Addr) × Nat × Nat) => Res.row (Ty.int .u8) 5 ch.1 ch.2.1 ch.2.2 t31) N19 rfl rfl (smithyref07_Number.ok k [x1.2.2.2.2.2.2.1, 0, 0, 0] t31 et31 _ _) ?_; clear S a; intro ch35 m le1 a w S
            replace le := le.trans le1
            replace hw := CL.again hw S (.cons (.there (.there .here)) (.cons (.there (.there .here)) .nil)) le
            refine h_back ⟨fun _ => hw, ?_⟩
            refine h_alts ?_
            refine h_runO S rfl trivial ?_ ?_
            · refine s_move S rfl rfl ?_; clear S a; intro a S
              replace hw := CL.again hw S (.cons (.there (.there .here)) (.cons (.there (.there .here)) .nil)) le
              refine h_back ⟨fun _ => hw, ?_⟩
              refine h_run' S rfl trivial ?_
              replace S := S.rowfro .here
              obtain ⟨m, le1, S, hro⟩ := S
              replace le := le.trans le1
              replace S := S.slotro (u := 47) rfl hro
              refine s_callP S (fun (ch : (Option Addr) × Nat) => ((.agg [.one (.bool t32.1), .sl ch.1 (t32.2.1).length ch.2 (RdS (Ty.int .u8) ch.1 t32.2.1), .one (.int .i64 t32.2.2)]) : D)) N18 rfl rfl (smithyref19_item.ok t31 ch35.1 ch35.2.2 t32 et32 _ _) ?_; clear S a; intro ch36 m le1 a w S
              replace le := le.trans le1
              replace hw := CL.again hw S (.cons (.there .here) (.cons (.there .here) .nil)) le
              refine h_back ⟨fun _ => hw, ?_⟩
              refine h_run' S rfl trivial ?_
              refine s_callR S (fun (ch : (Option Addr) × Nat × Nat) => ((.v (.slice ch.1 ch.2.1 ch.2.2)) : D)) (fun (ch : (Option Addr) × Nat × Nat) => Res.row (Ty.int .u8) 5 ch.1 ch.2.1 ch.2.2 t33) N19 rfl rfl (smithyref07_Number.ok k x1.2.2.2.2.2.2.2.1 t33 et33 _ _) ?_; clear S a; intro ch37 m le1 a w S
              replace le := le.trans le1
              replace hw := CL.again hw S (.cons (.there (.there .here)) (.cons (.there (.there .here)) .nil)) le
              refine h_back ⟨fun _ => hw, ?_⟩
              refine h_run' S rfl trivial ?_
              replace S := S.rowfro .here
              obtain ⟨m, le1, S, hro⟩ := S
              replace le := le.trans le1
              replace S := S.slotro (u := 51) rfl hro
              refine s_callP S (fun (ch : (Option Addr) × Nat) => ((.agg [.one (.bool t34.1), .sl ch.1 (t34.2.1).length ch.2 (RdS (Ty.int .u8) ch.1 t34.2.1), .one (.int .i64 t34.2.2)]) : D)) N18 rfl rfl (smithyref19_item.ok t33 ch37.1 ch37.2.2 t34 et34 _ _) ?_; clear S a; intro ch38 m le1 a w S
              replace le := le.trans le1
              replace hw := CL.again hw S (.cons (.there .here) (.cons (.there .here) .nil)) le
              refine h_back ⟨fun _ => hw, ?_⟩
              refine h_run' S rfl trivial ?_
              refine s_callR S (fun (ch : (Option Addr) × Nat × Nat) => ((.v (.slice ch.1 ch.2.1 ch.2.2)) : D)) (fun (ch : (Option Addr) × Nat × Nat) => Res.row (Ty.int .u8) 5 ch.1 ch.2.1 ch.2.2 t35) N19 rfl rfl (smithyref07_Number.ok k x1.2.2.2.2.2.2.2.2.1 t35 et35 _ _) ?_; clear S a; intro ch39 m le1 a w S
              replace le := le.trans le1
              replace hw := CL.again hw S (.cons (.there (.there .here)) (.cons (.there (.there .here)) .nil)) le
              refine h_back ⟨fun _ => hw, ?_⟩
              refine h_run' S rfl trivial ?_
              replace S := S.rowfro .here
              obtain ⟨m, le1, S, hro⟩ := S
              replace le := le.trans le1
              replace S := S.slotro (u := 55) rfl hro
              refine s_callP S (fun (ch : (Option Addr) × Nat) => ((.agg [.one (.bool t36.1), .sl ch.1 (t36.2.1).length ch.2 (RdS (Ty.int .u8) ch.1 t36.2.1), .one (.int .i64 t36.2.2)]) : D)) N18 rfl rfl (smithyref19_item.ok t35 ch39.1 ch39.2.2 t36 et36 _ _) ?_; clear S a; intro ch40 m le1 a w S
              replace le := le.trans le1
              replace hw := CL.again hw S (.cons (.there .here) (.cons (.there .here) .nil)) le
              refine h_back ⟨fun _ => hw, ?_⟩
              refine h_run' S rfl trivial ?_
              refine s_bldSl S (ty' := (Ty.prod Ty.bool (Ty.prod (Ty.slice (Ty.int .u8)) (Ty.int .i64)))) (ds := [(0, (.agg [.one (.bool t29.1), .sl ch33.1 (t29.2.1).length ch33.2 (RdS (Ty.int .u8) ch33.1 t29.2.1), .one (.int .i64 t29.2.2)])), (1, (.agg [.one (.bool t30.1), .sl ch34.1 (t30.2.1).length ch34.2 (RdS (Ty.int .u8) ch34.1 t30.2.1), .one (.int .i64 t30.2.2)])), (2, (.agg [.one (.bool t32.1), .sl ch36.1 (t32.2.1).length ch36.2 (RdS (Ty.int .u8) ch36.1 t32.2.1), .one (.int .i64 t32.2.2)])), (3, (.agg [.one (.bool t34.1), .sl ch38.1 (t34.2.1).length ch38.2 (RdS (Ty.int .u8) ch38.1 t34.2.1), .one (.int .i64 t34.2.2)])), (4, (.agg [.one (.bool t36.1), .sl ch40.1 (t36.2.1).length ch40.2 (RdS (Ty.int .u8) ch40.1 t36.2.1), .one (.int .i64 t36.2.2)]))]) (z := (false, ([] : List Int), 0)) (c0 := ((), (none, 0), ())) (ys := [(t29.1, t29.2.1, t29.2.2), (t30.1, t30.2.1, t30.2.2), (t32.1, t32.2.1, t32.2.2), (t34.1, t34.2.1, t34.2.2), (t36.1, t36.2.1, t36.2.2)]) (cs := [((), (ch33.1, ch33.2), ()), ((), (ch34.1, ch34.2), ()), ((), (ch36.1, ch36.2), ()), ((), (ch38.1, ch38.2), ()), ((), (ch40.1, ch40.2), ())]) rfl Tryd.underlying50 J46 Z46 rfl ⟨rfl, ⟨Nat.le_refl _, Nat.zero_le _, RdS.nil _ _ _, RdS.mono _ _ _⟩, rfl, trivial⟩ rfl rfl rfl rfl rfl rfl ?_; clear S a; intro g161 a w S
              replace hw := CL.again hw S (.cons (.there (.there .here)) (.cons (.there (.there .here)) .nil)) le
              refine h_back ⟨fun _ => hw, ?_⟩
              refine h_run' S rfl trivial ?_
              refine s_app S (k2 := 5) (ys := [(t29.1, t29.2.1, t29.2.2), (t30.1, t30.2.1, t30.2.2), (t32.1, t32.2.1, t32.2.2), (t34.1, t34.2.1, t34.2.2), (t36.1, t36.2.1, t36.2.2)]) rfl (fun _ _ => (.there .here)) rfl rfl (S.holds _ (Pull.mem .here).1).1 (Res.row.src (S.holds _ (Pull.mem .here).1)) Tryd.underlying50 J46 c12 rfl ?_; clear S a; intro A15 cp79 a w S
              replace hw := CL.again hw S (.cons (.there (.there .here)) (.cons (.there (.there .here)) .nil)) le
              refine h_back ⟨fun _ => hw, ?_⟩
              replace CL := CL.add (t := 58) (d := (.v (.slice A15 ((3 + 1) + 5) cp79))) S rfl rfl
              refine h_assign S CL hw le ⟨rfl, rfl, rfl, rfl, rfl, rfl, rfl, rfl, rfl, rfl, rfl, rfl, rfl, trivial⟩ rfl rfl rfl trivial ?_; clear S CL a; intro a S CL
              refine h_done ?_; clear CL hw le
              refine x_thenN ?_
              exact j2 _ A15 cp79 (y1 ++ [(t29.1, t29.2.1, t29.2.2), (t30.1, t30.2.1, t30.2.2), (t32.1, t32.2.1, t32.2.2), (t34.1, t34.2.1, t34.2.2), (t36.1, t36.2.1, t36.2.2)]) g7 g1 a w (S.sub ⟨rfl, rfl, rfl, trivial⟩ (.cons (.there .here) (.cons (.there .here) (.cons (.there .here) .nil)))) h10
            refine h_runO S rfl trivial ?_ ?_
            · replace S := S.rowfro .here
              obtain ⟨m, le1, S, hro⟩ := S
              replace le := le.trans le1
              replace S := S.slotro (u := 47) rfl hro
              refine s_callP S (fun (ch : (Option Addr) × Nat) => ((.agg [.one (.bool t32.1), .sl ch.1 (t32.2.1).length ch.2 (RdS (Ty.int .u8) ch.1 t32.2.1), .one (.int .i64 t32.2.2)]) : D)) N18 rfl rfl (smithyref19_item.ok t31 ch35.1 ch35.2.2 t32 et32 _ _) ?_; clear S a; intro ch36 m le1 a w S
              replace le := le.trans le1
              replace hw := CL.again hw S (.cons (.there .here) (.cons (.there .here) .nil)) le
              refine h_back ⟨fun _ => hw, ?_⟩
              refine h_alts ?_
              refine h_runO S rfl trivial ?_ ?_
              · refine s_move S rfl rfl ?_; clear S a; intro a S
                replace hw := CL.again hw S (.cons (.there .here) (.cons (.there .here) .nil)) le
                refine h_back ⟨fun _ => hw, ?_⟩
                refine h_run' S rfl trivial ?_
                refine s_callR S (fun (ch : (Option Addr) × Nat × Nat) => ((.v (.slice ch.1 ch.2.1 ch.2.2)) : D)) (fun (ch : (Option Addr) × Nat × Nat) => Res.row (Ty.int .u8) 5 ch.1 ch.2.1 ch.2.2 t33) N19 rfl rfl (smithyref07_Number.ok k x1.2.2.2.2.2.2.2.1 t33 et33 _ _) ?_; clear S a; intro ch37 m le1 a w S
                replace le := le.trans le1
                replace hw := CL.again hw S (.cons (.there (.there .here)) (.cons (.there (.there .here)) .nil)) le
                refine h_back ⟨fun _ => hw, ?_⟩
                refine h_run' S rfl trivial ?_
                replace S := S.rowfro .here
                obtain ⟨m, le1, S, hro⟩ := S
                replace le := le.trans le1
                replace S := S.slotro (u := 51) rfl hro
                refine s_callP S (fun (ch : (Option Addr) × Nat) => ((.agg [.one (.bool t34.1), .sl ch.1 (t34.2.1).length ch.2 (RdS (Ty.int .u8) ch.1 t34.2.1), .one (.int .i64 t34.2.2)]) : D)) N18 rfl rfl (smithyref19_item.ok t33 ch37.1 ch37.2.2 t34 et34 _ _) ?_; clear S a; intro ch38 m le1 a w S
                replace le := le.trans le1
                replace hw := CL.again hw S (.cons (.there .here) (.cons (.there .here) .nil)) le
                refine h_back ⟨fun _ => hw, ?_⟩
                refine h_run' S rfl trivial ?_
                refine s_callR S (fun (ch : (Option Addr) × Nat × Nat) => ((.v (.slice ch.1 ch.2.1 ch.2.2)) : D)) (fun (ch : (Option Addr) × Nat × Nat) => Res.row (Ty.int .u8) 5 ch.1 ch.2.1 ch.2.2 t35) N19 rfl rfl (smithyref07_Number.ok k x1.2.2.2.2.2.2.2.2.1 t35 et35 _ _) ?_; clear S a; intro ch39 m le1 a w S
                replace le := le.trans le1
                replace hw := CL.again hw S (.cons (.there (.there .here)) (.cons (.there (.there .here)) .nil)) le
                refine h_back ⟨fun _ => hw, ?_⟩
                refine h_run' S rfl trivial ?_
                replace S := S.rowfro .here
                obtain ⟨m, le1, S, hro⟩ := S
                replace le := le.trans le1
                replace S := S.slotro (u := 55) rfl hro
                refine s_callP S (fun (ch : (Option Addr) × Nat) => ((.agg [.one (.bool t36.1), .sl ch.1 (t36.2.1).length ch.2 (RdS (Ty.int .u8) ch.1 t36.2.1), .one (.int .i64 t36.2.2)]) : D)) N18 rfl rfl (smithyref19_item.ok t35 ch39.1 ch39.2.2 t36 et36 _ _) ?_; clear S a; intro ch40 m le1 a w S
                replace le := le.trans le1
                replace hw := CL.again hw S (.cons (.there .here) (.cons (.there .here) .nil)) le
                refine h_back ⟨fun _ => hw, ?_⟩
                refine h_run' S rfl trivial ?_
                refine s_bldSl S (ty' := (Ty.prod Ty.bool (Ty.prod (Ty.slice (Ty.int .u8)) (Ty.int .i64)))) (ds := [(0, (.agg [.one (.bool t29.1), .sl ch33.1 (t29.2.1).length ch33.2 (RdS (Ty.int .u8) ch33.1 t29.2.1), .one (.int .i64 t29.2.2)])), (1, (.agg [.one (.bool t30.1), .sl ch34.1 (t30.2.1).length ch34.2 (RdS (Ty.int .u8) ch34.1 t30.2.1), .one (.int .i64 t30.2.2)])), (2, (.agg [.one (.bool t32.1), .sl ch36.1 (t32.2.1).length ch36.2 (RdS (Ty.int .u8) ch36.1 t32.2.1), .one (.int .i64 t32.2.2)])), (3, (.agg [.one (.bool t34.1), .sl ch38.1 (t34.2.1).length ch38.2 (RdS (Ty.int .u8) ch38.1 t34.2.1), .one (.int .i64 t34.2.2)])), (4, (.agg [.one (.bool t36.1), .sl ch40.1 (t36.2.1).length ch40.2 (RdS (Ty.int .u8) ch40.1 t36.2.1), .one (.int .i64 t36.2.2)]))]) (z := (false, ([] : List Int), 0)) (c0 := ((), (none, 0), ())) (ys := [(t29.1, t29.2.1, t29.2.2), (t30.1, t30.2.1, t30.2.2), (t32.1, t32.2.1, t32.2.2), (t34.1, t34.2.1, t34.2.2), (t36.1, t36.2.1, t36.2.2)]) (cs := [((), (ch33.1, ch33.2), ()), ((), (ch34.1, ch34.2), ()), ((), (ch36.1, ch36.2), ()), ((), (ch38.1, ch38.2), ()), ((), (ch40.1, ch40.2), ())]) rfl Tryd.underlying50 J46 Z46 rfl ⟨rfl, ⟨Nat.le_refl _, Nat.zero_le _, RdS.nil _ _ _, RdS.mono _ _ _⟩, rfl, trivial⟩ rfl rfl rfl rfl rfl rfl ?_; clear S a; intro g161 a w S
                replace hw := CL.again hw S (.cons (.there (.there .here)) (.cons (.there (.there .here)) .nil)) le
                refine h_back ⟨fun _ => hw, ?_⟩
                refine h_run' S rfl trivial ?_
                refine s_app S (k2 := 5) (ys := [(t29.1, t29.2.1, t29.2.2), (t30.1, t30.2.1, t30.2.2), (t32.1, t32.2.1, t32.2.2), (t34.1, t34.2.1, t34.2.2), (t36.1, t36.2.1, t36.2.2)]) rfl (fun _ _ => (.there .here)) rfl rfl (S.holds _ (Pull.mem .here).1).1 (Res.row.src (S.holds _ (Pull.mem .here).1)) Tryd.underlying50 J46 c12 rfl ?_; clear S a; intro A15 cp79 a w S
                replace hw := CL.again hw S (.cons (.there (.there .here)) (.cons (.there (.there .here)) .nil)) le
                refine h_back ⟨fun _ => hw, ?_⟩
                replace CL := CL.add (t := 58) (d := (.v (.slice A15 ((3 + 1) + 5) cp79))) S rfl rfl
                refine h_assign S CL hw le ⟨rfl, rfl, rfl, rfl, rfl, rfl, rfl, rfl, rfl, rfl, rfl, rfl, rfl, trivial⟩ rfl rfl rfl trivial ?_; clear S CL a; intro a S CL
                refine h_done ?_; clear CL hw le
                refine x_thenN ?_
                exact j2 _ A15 cp79 (y1 ++ [(t29.1, t29.2.1, t29.2.2), (t30.1, t30.2.1, t30.2.2), (t32.1, t32.2.1, t32.2.2), (t34.1, t34.2.1, t34.2.2), (t36.1, t36.2.1, t36.2.2)]) g7 g1 a w (S.sub ⟨rfl, rfl, rfl, trivial⟩ (.cons (.there .here) (.cons (.there .here) (.cons (.there .here) .nil)))) h10
              refine h_runO S rfl trivial ?_ ?_
              · refine s_callR S (fun (ch : (Option Addr) × Nat × Nat) => ((.v (.slice ch.1 ch.2.1 ch.2.2)) : D)) (fun (ch : (Option Addr) × Nat × Nat) => Res.row (Ty.int .u8) 5 ch.1 ch.2.1 ch.2.2 t33) N19 rfl rfl (smithyref07_Number.ok k x1.2.2.2.2.2.2.2.1 t33 et33 _ _) ?_; clear S a; intro ch37 m le1 a w S
                replace le := le.trans le1
                replace hw := CL.again hw S (.cons (.there (.there .here)) (.cons (.there (.there .here)) .nil)) le
                refine h_back ⟨fun _ => hw, ?_⟩
                refine h_alts ?_
                refine h_runO S rfl trivial ?_ ?_
                · refine s_move S rfl rfl ?_; clear S a; intro a S
                  replace hw := CL.again hw S (.cons (.there (.there .here)) (.cons (.there (.there .here)) .nil)) le
                  refine h_back ⟨fun _ => hw, ?_⟩
                  refine h_run' S rfl trivial ?_
                  replace S := S.rowfro .here
                  obtain ⟨m, le1, S, hro⟩ := S
                  replace le := le.trans le1
                  replace S := S.slotro (u := 51) rfl hro
                  refine s_callP S (fun (ch : (Option Addr) × Nat) => ((.agg [.one (.bool t34.1), .sl ch.1 (t34.2.1).length ch.2 (RdS (Ty.int .u8) ch.1 t34.2.1), .one (.int .i64 t34.2.2)]) : D)) N18 rfl rfl (smithyref19_item.ok t33 ch37.1 ch37.2.2 t34 et34 _ _) ?_; clear S a; intro ch38 m le1 a w S
                  replace le := le.trans le1
                  replace hw := CL.again hw S (.cons (.there .here) (.cons (.there .here) .nil)) le
                  refine h_back ⟨fun _ => hw, ?_⟩
                  refine h_run' S rfl trivial ?_
                  refine s_callR S (fun (ch : (Option Addr) × Nat × Nat) => ((.v (.slice ch.1 ch.2.1 ch.2.2)) : D)) (fun (ch : (Option Addr) × Nat × Nat) => Res.row (Ty.int .u8) 5 ch.1 ch.2.1 ch.2.2 t35) N19 rfl rfl (smithyref07_Number.ok k x1.2.2.2.2.2.2.2.2.1 t35 et35 _ _) ?_; clear S a; intro ch39 m le1 a w S
                  replace le := le.trans le1
                  replace hw := CL.again hw S (.cons (.there (.there .here)) (.cons (.there (.there .here)) .nil)) le
                  refine h_back ⟨fun _ => hw, ?_⟩
                  refine h_run' S rfl trivial ?_
                  replace S := S.rowfro .here
                  obtain ⟨m, le1, S, hro⟩ := S
                  replace le := le.trans le1
                  replace S := S.slotro (u := 55) rfl hro
                  refine s_callP S (fun (ch : (Option Addr) × Nat) => ((.agg [.one (.bool t36.1), .sl ch.1 (t36.2.1).length ch.2 (RdS (Ty.int .u8) ch.1 t36.2.1), .one (.int .i64 t36.2.2)]) : D)) N18 rfl rfl (smithyref19_item.ok t35 ch39.1 ch39.2.2 t36 et36 _ _) ?_; clear S a; intro ch40 m le1 a w S
                  replace le := le.trans le1
                  replace hw := CL.again hw S (.cons (.there .here) (.cons (.there .here) .nil)) le
                  refine h_back ⟨fun _ => hw, ?_⟩
                  refine h_run' S rfl trivial ?_
                  refine s_bldSl S (ty' := (Ty.prod Ty.bool (Ty.prod (Ty.slice (Ty.int .u8)) (Ty.int .i64)))) (ds := [(0, (.agg [.one (.bool t29.1), .sl ch33.1 (t29.2.1).length ch33.2 (RdS (Ty.int .u8) ch33.1 t29.2.1), .one (.int .i64 t29.2.2)])), (1, (.agg [.one (.bool t30.1), .sl ch34.1 (t30.2.1).length ch34.2 (RdS (Ty.int .u8) ch34.1 t30.2.1), .one (.int .i64 t30.2.2)])), (2, (.agg [.one (.bool t32.1), .sl ch36.1 (t32.2.1).length ch36.2 (RdS (Ty.int .u8) ch36.1 t32.2.1), .one (.int .i64 t32.2.2)])), (3, (.agg [.one (.bool t34.1), .sl ch38.1 (t34.2.1).length ch38.2 (RdS (Ty.int .u8) ch38.1 t34.2.1), .one (.int .i64 t34.2.2)])), (4, (.agg [.one (.bool t36.1), .sl ch40.1 (t36.2.1).length ch40.2 (RdS (Ty.int .u8) ch40.1 t36.2.1), .one (.int .i64 t36.2.2)]))]) (z := (false, ([] : List Int), 0)) (c0 := ((), (none, 0), ())) (ys := [(t29.1, t29.2.1, t29.2.2), (t30.1, t30.2.1, t30.2.2), (t32.1, t32.2.1, t32.2.2), (t34.1, t34.2.1, t34.2.2), (t36.1, t36.2.1, t36.2.2)]) (cs := [((), (ch33.1, ch33.2), ()), ((), (ch34.1, ch34.2), ()), ((), (ch36.1, ch36.2), ()), ((), (ch38.1, ch38.2), ()), ((), (ch40.1, ch40.2), ())]) rfl Tryd.underlying50 J46 Z46 rfl ⟨rfl, ⟨Nat.le_refl _, Nat.zero_le _, RdS.nil _ _ _, RdS.mono _ _ _⟩, rfl, trivial⟩ rfl rfl rfl rfl rfl rfl ?_; clear S a; intro g161 a w S
                  replace hw := CL.again hw S (.cons (.there (.there .here)) (.cons (.there (.there .here)) .nil)) le
                  refine h_back ⟨fun _ => hw, ?_⟩
                  refine h_run' S rfl trivial ?_
                  refine s_app S (k2 := 5) (ys := [(t29.1, t29.2.1, t29.2.2), (t30.1, t30.2.1, t30.2.2), (t32.1, t32.2.1, t32.2.2), (t34.1, t34.2.1, t34.2.2), (t36.1, t36.2.1, t36.2.2)]) rfl (fun _ _ => (.there .here)) rfl rfl (S.holds _ (Pull.mem .here).1).1 (Res.row.src (S.holds _ (Pull.mem .here).1)) Tryd.underlying50 J46 c12 rfl ?_; clear S a; intro A15 cp79 a w S
                  replace hw := CL.again hw S (.cons (.there (.there .here)) (.cons (.there (.there .here)) .nil)) le
                  refine h_back ⟨fun _ => hw, ?_⟩
                  replace CL := CL.add (t := 58) (d := (.v (.slice A15 ((3 + 1) + 5) cp79))) S rfl rfl
                  refine h_assign S CL hw le ⟨rfl, rfl, rfl, rfl, rfl, rfl, rfl, rfl, rfl, rfl, rfl, rfl, rfl, trivial⟩ rfl rfl rfl trivial ?_; clear S CL a; intro a S CL
                  refine h_done ?_; clear CL hw le
                  refine x_thenN ?_
                  exact j2 _ A15 cp79 (y1 ++ [(t29.1, t29.2.1, t29.2.2), (t30.1, t30.2.1, t30.2.2), (t32.1, t32.2.1, t32.2.2), (t34.1, t34.2.1, t34.2.2), (t36.1, t36.2.1, t36.2.2)]) g7 g1 a w (S.sub ⟨rfl, rfl, rfl, trivial⟩ (.cons (.there .here) (.cons (.there .here) (.cons (.there .here) .nil)))) h10
                refine h_runO S rfl trivial ?_ ?_
                · replace S := S.rowfro .here
                  obtain ⟨m, le1, S, hro⟩ := S
                  replace le := le.trans le1
                  replace S := S.slotro (u := 51) rfl hro
                  refine s_callP S (fun (ch : (Option Addr) × Nat) => ((.agg [.one (.bool t34.1), .sl ch.1 (t34.2.1).length ch.2 (RdS (Ty.int .u8) ch.1 t34.2.1), .one (.int .i64 t34.2.2)]) : D)) N18 rfl rfl (smithyref19_item.ok t33 ch37.1 ch37.2.2 t34 et34 _ _) ?_; clear S a; intro ch38 m le1 a w S
                  replace le := le.trans le1
                  replace hw := CL.again hw S (.cons (.there .here) (.cons (.there .here) .nil)) le
                  refine h_back ⟨fun _ => hw, ?_⟩
                  refine h_alts ?_
                  refine h_runO S rfl trivial ?_ ?_
                  · refine s_move S rfl rfl ?_; clear S a; intro a S
                    replace hw := CL.again hw S (.cons (.there .here) (.cons (.there .here) .nil)) le
                    refine h_back ⟨fun _ => hw, ?_⟩
                    refine h_run' S rfl trivial ?_
                    refine s_callR S (fun (ch : (Option Addr) × Nat × Nat) => ((.v (.slice ch.1 ch.2.1 ch.2.2)) : D)) (fun (ch : (Option Addr) × Nat × Nat) => Res.row (Ty.int .u8) 5 ch.1 ch.2.1 ch.2.2 t35) N19 rfl rfl (smithyref07_Number.ok k x1.2.2.2.2.2.2.2.2.1 t35 et35 _ _) ?_; clear S a; intro ch39 m le1 a w S
                    replace le := le.trans le1
                    replace hw := CL.again hw S (.cons (.there (.there .here)) (.cons (.there (.there .here)) .nil)) le
                    refine h_back ⟨fun _ => hw, ?_⟩
                    refine h_run' S rfl trivial ?_
                    replace S := S.rowfro .here
                    obtain ⟨m, le1, S, hro⟩ := S
                    replace le := le.trans le1
                    replace S := S.slotro (u := 55) rfl hro
                    refine s_callP S (fun (ch : (Option Addr) × Nat) => ((.agg [.one (.bool t36.1), .sl ch.1 (t36.2.1).length ch.2 (RdS (Ty.int .u8) ch.1 t36.2.1), .one (.int .i64 t36.2.2)]) : D)) N18 rfl rfl (smithyref19_item.ok t35 ch39.1 ch39.2.2 t36 et36 _ _) ?_; clear S a; intro ch40 m le1 a w S
                    replace le := le.trans le1
                    replace hw := CL.again hw S (.cons (.there .here) (.cons (.there .here) .nil)) le
                    refine h_back ⟨fun _ => hw, ?_⟩
                    refine h_run' S rfl trivial ?_
                    refine s_bldSl S (ty' := (Ty.prod Ty.bool (Ty.prod (Ty.slice (Ty.int .u8)) (Ty.int .i64)))) (ds := [(0, (.agg [.one (.bool t29.1), .sl ch33.1 (t29.2.1).length ch33.2 (RdS (Ty.int .u8) ch33.1 t29.2.1), .one (.int .i64 t29.2.2)])), (1, (.agg [.one (.bool t30.1), .sl ch34.1 (t30.2.1).length ch34.2 (RdS (Ty.int .u8) ch34.1 t30.2.1), .one (.int .i64 t30.2.2)])), (2, (.agg [.one (.bool t32.1), .sl ch36.1 (t32.2.1).length ch36.2 (RdS (Ty.int .u8) ch36.1 t32.2.1), .one (.int .i64 t32.2.2)])), (3, (.agg [.one (.bool t34.1), .sl ch38.1 (t34.2.1).length ch38.2 (RdS (Ty.int .u8) ch38.1 t34.2.1), .one (.int .i64 t34.2.2)])), (4, (.agg [.one (.bool t36.1), .sl ch40.1 (t36.2.1).length ch40.2 (RdS (Ty.int .u8) ch40.1 t36.2.1), .one (.int .i64 t36.2.2)]))]) (z := (false, ([] : List Int), 0)) (c0 := ((), (none, 0), ())) (ys := [(t29.1, t29.2.1, t29.2.2), (t30.1, t30.2.1, t30.2.2), (t32.1, t32.2.1, t32.2.2), (t34.1, t34.2.1, t34.2.2), (t36.1, t36.2.1, t36.2.2)]) (cs := [((), (ch33.1, ch33.2), ()), ((), (ch34.1, ch34.2), ()), ((), (ch36.1, ch36.2), ()), ((), (ch38.1, ch38.2), ()), ((), (ch40.1, ch40.2), ())]) rfl Tryd.underlying50 J46 Z46 rfl ⟨rfl, ⟨Nat.le_refl _, Nat.zero_le _, RdS.nil _ _ _, RdS.mono _ _ _⟩, rfl, trivial⟩ rfl rfl rfl rfl rfl rfl ?_; clear S a; intro g161 a w S
                    replace hw := CL.again hw S (.cons (.there (.there .here)) (.cons (.there (.there .here)) .nil)) le
                    refine h_back ⟨fun _ => hw, ?_⟩
                    refine h_run' S rfl trivial ?_
                    refine s_app S (k2 := 5) (ys := [(t29.1, t29.2.1, t29.2.2), (t30.1, t30.2.1, t30.2.2), (t32.1, t32.2.1, t32.2.2), (t34.1, t34.2.1, t34.2.2), (t36.1, t36.2.1, t36.2.2)]) rfl (fun _ _ => (.there .here)) rfl rfl (S.holds _ (Pull.mem .here).1).1 (Res.row.src (S.holds _ (Pull.mem .here).1)) Tryd.underlying50 J46 c12 rfl ?_; clear S a; intro A15 cp79 a w S
                    replace hw := CL.again hw S (.cons (.there (.there .here)) (.cons (.there (.there .here)) .nil)) le
                    refine h_back ⟨fun _ => hw, ?_⟩
                    replace CL := CL.add (t := 58) (d := (.v (.slice A15 ((3 + 1) + 5) cp79))) S rfl rfl
                    refine h_assign S CL hw le ⟨rfl, rfl, rfl, rfl, rfl, rfl, rfl, rfl, rfl, rfl, rfl, rfl, rfl, trivial⟩ rfl rfl rfl trivial ?_; clear S CL a; intro a S CL
                    refine h_done ?_; clear CL hw le
                    refine x_thenN ?_
                    exact j2 _ A15 cp79 (y1 ++ [(t29.1, t29.2.1, t29.2.2), (t30.1, t30.2.1, t30.2.2), (t32.1, t32.2.1, t32.2.2), (t34.1, t34.2.1, t34.2.2), (t36.1, t36.2.1, t36.2.2)]) g7 g1 a w (S.sub ⟨rfl, rfl, rfl, trivial⟩ (.cons (.there .here) (.cons (.there .here) (.cons (.there .here) .nil)))) h10
                  refine h_runO S rfl trivial ?_ ?_
                  · refine s_callR S (fun (ch : (Option Addr) × Nat × Nat) => ((.v (.slice ch.1 ch.2.1 ch.2.2)) : D)) (fun (ch : (Option Addr) × Nat × Nat) => Res.row (Ty.int .u8) 5 ch.1 ch.2.1 ch.2.2 t35) N19 rfl rfl (smithyref07_Number.ok k x1.2.2.2.2.2.2.2.2.1 t35 et35 _ _) ?_; clear S a; intro ch39 m le1 a w S
                    replace le := le.trans le1
                    replace hw := CL.again hw S (.cons (.there (.there .here)) (.cons (.there (.there .here)) .nil)) le
                    refine h_back ⟨fun _ => hw, ?_⟩
                    refine h_alts ?_
                    refine h_runO S rfl trivial ?_ ?_
                    · refine s_move S rfl rfl ?_; clear S a; intro a S
                      replace hw := CL.again hw S (.cons (.there (.there .here)) (.cons (.there (.there .here)) .nil)) le
                      refine h_back ⟨fun _ => hw, ?_⟩
                      refine h_run' S rfl trivial ?_
                      replace S := S.rowfro .here
                      obtain ⟨m, le1, S, hro⟩ := S
                      replace le := le.trans le1
                      replace S := S.slotro (u := 55) rfl hro
                      refine s_callP S (fun (ch : (Option Addr) × Nat) => ((.agg [.one (.bool t36.1), .sl ch.1 (t36.2.1).length ch.2 (RdS (Ty.int .u8) ch.1 t36.2.1), .one (.int .i64 t36.2.2)]) : D)) N18 rfl rfl (smithyref19_item.ok t35 ch39.1 ch39.2.2 t36 et36 _ _) ?_; clear S a; intro ch40 m le1 a w S
                      replace le := le.trans le1
                      replace hw := CL.again hw S (.cons (.there .here) (.cons (.there .here) .nil)) le
                      refine h_back ⟨fun _ => hw, ?_⟩
                      refine h_run' S rfl trivial ?_
                      refine s_bldSl S (ty' := (Ty.prod Ty.bool (Ty.prod (Ty.slice (Ty.int .u8)) (Ty.int .i64)))) (ds := [(0, (.agg [.one (.bool t29.1), .sl ch33.1 (t29.2.1).length ch33.2 (RdS (Ty.int .u8) ch33.1 t29.2.1), .one (.int .i64 t29.2.2)])), (1, (.agg [.one (.bool t30.1), .sl ch34.1 (t30.2.1).length ch34.2 (RdS (Ty.int .u8) ch34.1 t30.2.1), .one (.int .i64 t30.2.2)])), (2, (.agg [.one (.bool t32.1), .sl ch36.1 (t32.2.1).length ch36.2 (RdS (Ty.int .u8) ch36.1 t32.2.1), .one (.int .i64 t32.2.2)])), (3, (.agg [.one (.bool t34.1), .sl ch38.1 (t34.2.1).length ch38.2 (RdS (Ty.int .u8) ch38.1 t34.2.1), .one (.int .i64 t34.2.2)])), (4, (.agg [.one (.bool t36.1), .sl ch40.1 (t36.2.1).length ch40.2 (RdS (Ty.int .u8) ch40.1 t36.2.1), .one (.int .i64 t36.2.2)]))]) (z := (false, ([] : List Int), 0)) (c0 := ((), (none, 0), ())) (ys := [(t29.1, t29.2.1, t29.2.2), (t30.1, t30.2.1, t30.2.2), (t32.1, t32.2.1, t32.2.2), (t34.1, t34.2.1, t34.2.2), (t36.1, t36.2.1, t36.2.2)]) (cs := [((), (ch33.1, ch33.2), ()), ((), (ch34.1, ch34.2), ()), ((), (ch36.1, ch36.2), ()), ((), (ch38.1, ch38.2), ()), ((), (ch40.1, ch40.2), ())]) rfl Tryd.underlying50 J46 Z46 rfl ⟨rfl, ⟨Nat.le_refl _, Nat.zero_le _, RdS.nil _ _ _, RdS.mono _ _ _⟩, rfl, trivial⟩ rfl rfl rfl rfl rfl rfl ?_; clear S a; intro g161 a w S
                      replace hw := CL.again hw S (.cons (.there (.there .here)) (.cons (.there (.there .here)) .nil)) le
                      refine h_back ⟨fun _ => hw, ?_⟩
                      refine h_run' S rfl trivial ?_
                      refine s_app S (k2 := 5) (ys := [(t29.1, t29.2.1, t29.2.2), (t30.1, t30.2.1, t30.2.2), (t32.1, t32.2.1, t32.2.2), (t34.1, t34.2.1, t34.2.2), (t36.1, t36.2.1, t36.2.2)]) rfl (fun _ _ => (.there .here)) rfl rfl (S.holds _ (Pull.mem .here).1).1 (Res.row.src (S.holds _ (Pull.mem .here).1)) Tryd.underlying50 J46 c12 rfl ?_; clear S a; intro A15 cp79 a w S
                      replace hw := CL.again hw S (.cons (.there (.there .here)) (.cons (.there (.there .here)) .nil)) le
                      refine h_back ⟨fun _ => hw, ?_⟩
                      replace CL := CL.add (t := 58) (d := (.v (.slice A15 ((3 + 1) + 5) cp79))) S rfl rfl
                      refine h_assign S CL hw le ⟨rfl, rfl, rfl, rfl, rfl, rfl, rfl, rfl, rfl, rfl, rfl, rfl, rfl, trivial⟩ rfl rfl rfl trivial ?_; clear S CL a; intro a S CL
                      refine h_done ?_; clear CL hw le
                      refine x_thenN ?_
                      exact j2 _ A15 cp79 (y1 ++ [(t29.1, t29.2.1, t29.2.2), (t30.1, t30.2.1, t30.2.2), (t32.1, t32.2.1, t32.2.2), (t34.1, t34.2.1, t34.2.2), (t36.1, t36.2.1, t36.2.2)]) g7 g1 a w (S.sub ⟨rfl, rfl, rfl, trivial⟩ (.cons (.there .here) (.cons (.there .here) (.cons (.there .here) .nil)))) h10
                    refine h_runO S rfl trivial ?_ ?_
                    · replace S := S.rowfro .here
                      obtain ⟨m, le1, S, hro⟩ := S
                      replace le := le.trans le1
                      replace S := S.slotro (u := 55) rfl hro
                      refine s_callP S (fun (ch : (Option Addr) × Nat) => ((.agg [.one (.bool t36.1), .sl ch.1 (t36.2.1).length ch.2 (RdS (Ty.int .u8) ch.1 t36.2.1), .one (.int .i64 t36.2.2)]) : D)) N18 rfl rfl (smithyref19_item.ok t35 ch39.1 ch39.2.2 t36 et36 _ _) ?_; clear S a; intro ch40 m le1 a w S
                      replace le := le.trans le1
                      replace hw := CL.again hw S (.cons (.there .here) (.cons (.there .here) .nil)) le
                      refine h_back ⟨fun _ => hw, ?_⟩
                      refine h_alts ?_
                      refine h_runO S rfl trivial ?_ ?_
                      · refine s_move S rfl rfl ?_; clear S a; intro a S
                        replace hw := CL.again hw S (.cons (.there .here) (.cons (.there .here) .nil)) le
                        refine h_back ⟨fun _ => hw, ?_⟩
                        refine h_run' S rfl trivial ?_
                        refine s_bldSl S (ty' := (Ty.prod Ty.bool (Ty.prod (Ty.slice (Ty.int .u8)) (Ty.int .i64)))) (ds := [(0, (.agg [.one (.bool t29.1), .sl ch33.1 (t29.2.1).length ch33.2 (RdS (Ty.int .u8) ch33.1 t29.2.1), .one (.int .i64 t29.2.2)])), (1, (.agg [.one (.bool t30.1), .sl ch34.1 (t30.2.1).length ch34.2 (RdS (Ty.int .u8) ch34.1 t30.2.1), .one (.int .i64 t30.2.2)])), (2, (.agg [.one (.bool t32.1), .sl ch36.1 (t32.2.1).length ch36.2 (RdS (Ty.int .u8) ch36.1 t32.2.1), .one (.int .i64 t32.2.2)])), (3, (.agg [.one (.bool t34.1), .sl ch38.1 (t34.2.1).length ch38.2 (RdS (Ty.int .u8) ch38.1 t34.2.1), .one (.int .i64 t34.2.2)])), (4, (.agg [.one (.bool t36.1), .sl ch40.1 (t36.2.1).length ch40.2 (RdS (Ty.int .u8) ch40.1 t36.2.1), .one (.int .i64 t36.2.2)]))]) (z := (false, ([] : List Int), 0)) (c0 := ((), (none, 0), ())) (ys := [(t29.1, t29.2.1, t29.2.2), (t30.1, t30.2.1, t30.2.2), (t32.1, t32.2.1, t32.2.2), (t34.1, t34.2.1, t34.2.2), (t36.1, t36.2.1, t36.2.2)]) (cs := [((), (ch33.1, ch33.2), ()), ((), (ch34.1, ch34.2), ()), ((), (ch36.1, ch36.2), ()), ((), (ch38.1, ch38.2), ()), ((), (ch40.1, ch40.2), ())]) rfl Tryd.underlying50 J46 Z46 rfl ⟨rfl, ⟨Nat.le_refl _, Nat.zero_le _, RdS.nil _ _ _, RdS.mono _ _ _⟩, rfl, trivial⟩ rfl rfl rfl rfl rfl rfl ?_; clear S a; intro g161 a w S
                        replace hw := CL.again hw S (.cons (.there (.there .here)) (.cons (.there (.there .here)) .nil)) le
                        refine h_back ⟨fun _ => hw, ?_⟩
                        refine h_run' S rfl trivial ?_
                        refine s_app S (k2 := 5) (ys := [(t29.1, t29.2.1, t29.2.2), (t30.1, t30.2.1, t30.2.2), (t32.1, t32.2.1, t32.2.2), (t34.1, t34.2.1, t34.2.2), (t36.1, t36.2.1, t36.2.2)]) rfl (fun _ _ => (.there .here)) rfl rfl (S.holds _ (Pull.mem .here).1).1 (Res.row.src (S.holds _ (Pull.mem .here).1)) Tryd.underlying50 J46 c12 rfl ?_; clear S a; intro A15 cp79 a w S
                        replace hw := CL.again hw S (.cons (.there (.there .here)) (.cons (.there (.there .here)) .nil)) le
                        refine h_back ⟨fun _ => hw, ?_⟩
                        replace CL := CL.add (t := 58) (d := (.v (.slice A15 ((3 + 1) + 5) cp79))) S rfl rfl
                        refine h_assign S CL hw le ⟨rfl, rfl, rfl, rfl, rfl, rfl, rfl, rfl, rfl, rfl, rfl, rfl, rfl, trivial⟩ rfl rfl rfl trivial ?_; clear S CL a; intro a S CL
                        refine h_done ?_; clear CL hw le
                        refine x_thenN ?_
                        exact j2 _ A15 cp79 (y1 ++ [(t29.1, t29.2.1, t29.2.2), (t30.1, t30.2.1, t30.2.2), (t32.1, t32.2.1, t32.2.2), (t34.1, t34.2.1, t34.2.2), (t36.1, t36.2.1, t36.2.2)]) g7 g1 a w (S.sub ⟨rfl, rfl, rfl, trivial⟩ (.cons (.there .here) (.cons (.there .here) (.cons (.there .here) .nil)))) h10
                      refine h_runO S rfl trivial ?_ ?_
                      · refine s_bldSl S (ty' := (Ty.prod Ty.bool (Ty.prod (Ty.slice (Ty.int .u8)) (Ty.int .i64)))) (ds := [(0, (.agg [.one (.bool t29.1), .sl ch33.1 (t29.2.1).length ch33.2 (RdS (Ty.int .u8) ch33.1 t29.2.1), .one (.int .i64 t29.2.2)])), (1, (.agg [.one (.bool t30.1), .sl ch34.1 (t30.2.1).length ch34.2 (RdS (Ty.int .u8) ch34.1 t30.2.1), .one (.int .i64 t30.2.2)])), (2, (.agg [.one (.bool t32.1), .sl ch36.1 (t32.2.1).length ch36.2 (RdS (Ty.int .u8) ch36.1 t32.2.1), .one (.int .i64 t32.2.2)])), (3, (.agg [.one (.bool t34.1), .sl ch38.1 (t34.2.1).length ch38.2 (RdS (Ty.int .u8) ch38.1 t34.2.1), .one (.int .i64 t34.2.2)])), (4, (.agg [.one (.bool t36.1), .sl ch40.1 (t36.2.1).length ch40.2 (RdS (Ty.int .u8) ch40.1 t36.2.1), .one (.int .i64 t36.2.2)]))]) (z := (false, ([] : List Int), 0)) (c0 := ((), (none, 0), ())) (ys := [(t29.1, t29.2.1, t29.2.2), (t30.1, t30.2.1, t30.2.2), (t32.1, t32.2.1, t32.2.2), (t34.1, t34.2.1, t34.2.2), (t36.1, t36.2.1, t36.2.2)]) (cs := [((), (ch33.1, ch33.2), ()), ((), (ch34.1, ch34.2), ()), ((), (ch36.1, ch36.2), ()), ((), (ch38.1, ch38.2), ()), ((), (ch40.1, ch40.2), ())]) rfl Tryd.underlying50 J46 Z46 rfl ⟨rfl, ⟨Nat.le_refl _, Nat.zero_le _, RdS.nil _ _ _, RdS.mono _ _ _⟩, rfl, trivial⟩ rfl rfl rfl rfl rfl rfl ?_; clear S a; intro g161 a w S
                        replace hw := CL.again hw S (.cons (.there (.there .here)) (.cons (.there (.there .here)) .nil)) le
                        refine h_back ⟨fun _ => hw, ?_⟩
                        refine h_run' S rfl trivial ?_
                        refine s_move S rfl rfl ?_; clear S a; intro a S
                        replace hw := CL.again hw S (.cons (.there (.there .here)) (.cons (.there (.there .here)) .nil)) le
                        refine h_back ⟨fun _ => hw, ?_⟩
                        refine h_run' S rfl trivial ?_
                        refine s_app S (k2 := 5) (ys := [(t29.1, t29.2.1, t29.2.2), (t30.1, t30.2.1, t30.2.2), (t32.1, t32.2.1, t32.2.2), (t34.1, t34.2.1, t34.2.2), (t36.1, t36.2.1, t36.2.2)]) rfl (fun _ _ => (.there .here)) rfl rfl (S.holds _ (Pull.mem .here).1).1 (Res.row.src (S.holds _ (Pull.mem .here).1)) Tryd.underlying50 J46 c12 rfl ?_; clear S a; intro A15 cp79 a w S
                        replace hw := CL.again hw S (.cons (.there (.there .here)) (.cons (.there (.there .here)) .nil)) le
                        refine h_back ⟨fun _ => hw, ?_⟩
                        replace CL := CL.add (t := 58) (d := (.v (.slice A15 ((3 + 1) + 5) cp79))) S rfl rfl
                        refine h_assign S CL hw le ⟨rfl, rfl, rfl, rfl, rfl, rfl, rfl, rfl, rfl, rfl, rfl, rfl, rfl, trivial⟩ rfl rfl rfl trivial ?_; clear S CL a; intro a S CL
                        refine h_done ?_; clear CL hw le
                        refine x_thenN ?_
                        exact j2 _ A15 cp79 (y1 ++ [(t29.1, t29.2.1, t29.2.2), (t30.1, t30.2.1, t30.2.2), (t32.1, t32.2.1, t32.2.2), (t34.1, t34.2.1, t34.2.2), (t36.1, t36.2.1, t36.2.2)]) g7 g1 a w (S.sub ⟨rfl, rfl, rfl, trivial⟩ (.cons (.there .here) (.cons (.there .here) (.cons (.there .here) .nil)))) h10
                      exact h_nil
                    exact h_nil
                  exact h_nil
                exact h_nil
              exact h_nil
            exact h_nil
          exact h_nil
        exact h_nil
      exact h_nil
    exact h_nil
  refine c_region ?_
  refine s_fieldAddr S rfl I30_2 T4 (by decide) rfl rfl ?_; clear S a; intro a S
  refine s_load1F S rfl (.there (.there .here)) T4 (v := (.bool x1.2.2.1)) rfl rfl ?_; clear S a; intro a S
  refine c_end ?_
  rcases ite_of h3 with ⟨c13, h4⟩ | ⟨c13, h4⟩ <;> clear h3
  · refine c_condT S rfl c13 ?_
    refine c_region' ?_
    refine s_move S rfl rfl ?_; clear S a; intro a S
    refine s_bldSl S (ty' := (Ty.int .u8)) (ds := []) (z := 0) (c0 := ()) (ys := ([] : List Int)) (cs := []) rfl Tryd.underlying27 J5 Z5 rfl ⟨rfl, trivial⟩ rfl rfl rfl rfl rfl rfl ?_; clear S a w; intro g162 a w S
    replace S := S.rowfro .here
    obtain ⟨m, le1, S, hro⟩ := S
    replace S := S.slotro (u := 26) rfl hro
    obtain ⟨t37, et37, h5⟩ := bind_of h4; clear h4
    refine s_callP S (fun (ch : (Option Addr) × Nat) => ((.agg [.one (.bool t37.1), .sl ch.1 (t37.2.1).length ch.2 (RdS (Ty.int .u8) ch.1 t37.2.1), .one (.int .i64 t37.2.2)]) : D)) N18 rfl rfl (smithyref19_item.ok ([] : List Int) (some ⟨g162, 0, none⟩) 0 t37 et37 _ _) ?_; clear S a w; intro ch41 m le1 a w S
    refine s_bldSl S (ty' := (Ty.prod Ty.bool (Ty.prod (Ty.slice (Ty.int .u8)) (Ty.int .i64)))) (ds := [(0, (.agg [.one (.bool t37.1), .sl ch41.1 (t37.2.1).length ch41.2 (RdS (Ty.int .u8) ch41.1 t37.2.1), .one (.int .i64 t37.2.2)]))]) (z := (false, ([] : List Int), 0)) (c0 := ((), (none, 0), ())) (ys := [(t37.1, t37.2.1, t37.2.2)]) (cs := [((), (ch41.1, ch41.2), ())]) rfl Tryd.underlying50 J46 Z46 rfl ⟨rfl, ⟨Nat.le_refl _, Nat.zero_le _, RdS.nil _ _ _, RdS.mono _ _ _⟩, rfl, trivial⟩ rfl rfl rfl rfl rfl rfl ?_; clear S a w; intro g163 a w S
    obtain ⟨c14, h6⟩ := chk_of h5; clear h5
    refine s_app S (k2 := 1) (ys := [(t37.1, t37.2.1, t37.2.2)]) rfl (fun _ _ => (.there .here)) rfl rfl (S.holds _ (Pull.mem .here).1).1 (Res.row.src (S.holds _ (Pull.mem .here).1)) Tryd.underlying50 J46 c14 rfl ?_; clear S a w; intro A16 cp80 a w S
    refine s_assign S rfl rfl ?_; clear S a; intro a S
    refine c_end' ?_
    refine x_thenN ?_
    exact j1 _ A16 cp80 ([(true, ([] : List Int), 0), (t1.1, t1.2.1, t1.2.2), (t3.1, t3.2.1, t3.2.2)] ++ [(t37.1, t37.2.1, t37.2.2)]) g2 a w (S.sub ⟨rfl, rfl, rfl, trivial⟩ (.cons (.there .here) (.cons (.there .here) (.cons (.there .here) .nil)))) h6
  · refine c_condF S rfl c13 ?_
    refine c_region' ?_
    refine s_move S rfl rfl ?_; clear S a; intro a S
    refine s_fieldAddr S rfl I30_1 T23 (by decide) rfl rfl ?_; clear S a; intro a S
    refine s_sliceA S (i := 0) (j := 20) (o' := 20) (len := 20) (cap := 20) rfl Tryd.underlying23 T5 (.inl ⟨rfl, rfl⟩) (.inl ⟨rfl, rfl⟩) (by decide) rfl rfl rfl rfl ?_; clear S a; intro a S
    replace S := (S.slup' (u := 32) (lo := 0) (c := 20) (ys := ((x1.2.1).drop 0).take 20) rfl (Pull.mem (.there (.there .here))).1 (.there .here rfl) (.inl rfl) (by decide) (by decide) rfl).2
    obtain ⟨t38, et38, h5⟩ := bind_of h4; clear h4
    refine s_callP S (fun (ch : (Option Addr) × Nat) => ((.agg [.one (.bool t38.1), .sl ch.1 (t38.2.1).length ch.2 (RdS (Ty.int .u8) ch.1 t38.2.1), .one (.int .i64 t38.2.2)]) : D)) N18 rfl rfl (smithyref19_item.ok (((x1.2.1).drop 0).take 20) (some ⟨g1, 20, none⟩) 20 t38 et38 _ _) ?_; clear S a w; intro ch42 m le1 a w S
    refine s_bldSl S (ty' := (Ty.prod Ty.bool (Ty.prod (Ty.slice (Ty.int .u8)) (Ty.int .i64)))) (ds := [(0, (.agg [.one (.bool t38.1), .sl ch42.1 (t38.2.1).length ch42.2 (RdS (Ty.int .u8) ch42.1 t38.2.1), .one (.int .i64 t38.2.2)]))]) (z := (false, ([] : List Int), 0)) (c0 := ((), (none, 0), ())) (ys := [(t38.1, t38.2.1, t38.2.2)]) (cs := [((), (ch42.1, ch42.2), ())]) rfl Tryd.underlying50 J46 Z46 rfl ⟨rfl, ⟨Nat.le_refl _, Nat.zero_le _, RdS.nil _ _ _, RdS.mono _ _ _⟩, rfl, trivial⟩ rfl rfl rfl rfl rfl rfl ?_; clear S a w; intro g164 a w S
    obtain ⟨c15, h6⟩ := chk_of h5; clear h5
    refine s_app S (k2 := 1) (ys := [(t38.1, t38.2.1, t38.2.2)]) rfl (fun _ _ => (.there .here)) rfl rfl (S.holds _ (Pull.mem .here).1).1 (Res.row.src (S.holds _ (Pull.mem .here).1)) Tryd.underlying50 J46 c15 rfl ?_; clear S a w; intro A17 cp81 a w S
    refine s_assign S rfl rfl ?_; clear S a; intro a S
    refine c_end' ?_
    refine x_thenN ?_
    exact j1 _ A17 cp81 ([(true, ([] : List Int), 0), (t1.1, t1.2.1, t1.2.2), (t3.1, t3.2.1, t3.2.2)] ++ [(t38.1, t38.2.1, t38.2.2)]) g2 a w (S.sub ⟨rfl, rfl, rfl, trivial⟩ (.cons (.there .here) (.cons (.there .here) (.cons (.there .here) .nil)))) h6
/-! smithy/gas.either -/
abbrev gas_either.Ty : Type := Bool → Int → Int → Option Int
def gas_either.Ctr (s : gas_either.Ty) : Prop := ∀ (x1 : Bool) (x2 : Int) (x3 : Int) (r : Int) (h0 : s x1 x2 x3 = some r) (mi : Mem) (w0 : World), okL mi [(.v (.bool x1)), (.v (.int .u64 x2)), (.v (.int .u64 x3))] → Pre mi [] w0 → Calls Tryd.prog 49 (([(.v (.bool x1)), (.v (.int .u64 x2)), (.v (.int .u64 x3))] : List D).map D.val).toArray w0 (RetX mi [] (fun (ch : Unit) => ((.v (.int .u64 r)) : D)) (fun (ch : Unit) => []) w0)
def gas_either.f (x1 : Bool) (x2 : Int) (x3 : Int) : Option Int := if x1 = true then (some x2) else (some x3)
theorem gas_either.ok : gas_either.Ctr (gas_either.f) := by
  intro x1 x2 x3 r h0 mi w0 ok hm
  delta gas_either.f at h0
  refine c_enterX (n := 10) [(.v (.bool x1)), (.v (.int .u64 x2)), (.v (.int .u64 x3))] (l := [(0, (.v (.bool x1))), (1, (.v (.int .u64 x2))), (2, (.v (.int .u64 x3)))]) Tryd.func49 rfl rfl rfl rfl ok hm ?_
  clear ok hm
  intro b0 hb a S
  refine c_region ?_
  refine s_assign S rfl rfl ?_; clear S a; intro a S
  refine c_end ?_
  refine wp_seq ?_
  refine c_region ?_
  refine s_move S rfl rfl ?_; clear S a; intro a S
  refine c_end ?_
  rcases ite_of h0 with ⟨c1, h1⟩ | ⟨c1, h1⟩ <;> clear h0
  · refine c_condT S rfl c1 ?_
    refine c_region ?_
    refine s_move S rfl rfl ?_; clear S a; intro a S
    refine s_assign S rfl rfl ?_; clear S a; intro a S
    refine c_end ?_
    refine wp_ret ?_
    refine x_thenR ?_
    obtain rfl := Option.some.inj h1
    exact b_ret1 (d := (.v (.int .u64 x2))) S rfl rfl fun ok => S.retX (Hx := []) hb _ _ (() : Unit) .nil ok
  · refine c_condF S rfl c1 ?_
    refine wp_skip ?_
    refine x_thenN ?_
    refine c_region ?_
    refine s_move S rfl rfl ?_; clear S a; intro a S
    refine s_assign S rfl rfl ?_; clear S a; intro a S
    refine c_end ?_
    refine wp_ret ?_
    obtain rfl := Option.some.inj h1
    exact b_ret1 (d := (.v (.int .u64 x3))) S rfl rfl fun ok => S.retX (Hx := []) hb _ _ (() : Unit) .nil ok
/-! smithy/mem.Words -/
abbrev mem_Words.Ty : Type := Int → Option Int
def mem_Words.Ctr (s : mem_Words.Ty) : Prop := ∀ (x1 : Int) (r : Int) (h0 : s x1 = some r) (mi : Mem) (w0 : World), okL mi [(.v (.int .u64 x1))] → Pre mi [] w0 → Calls Tryd.prog 50 (([(.v (.int .u64 x1))] : List D).map D.val).toArray w0 (RetX mi [] (fun (ch : Unit) => ((.v (.int .u64 r)) : D)) (fun (ch : Unit) => []) w0)
def mem_Words.j1 (y1 : Int) : Option Int := some y1
def mem_Words.f (x1 : Int) : Option Int := if (decide (0 < (Int.tmod x1 32))) = true then (mem_Words.j1 (wr .u64 ((wr .u64 (Int.tdiv x1 32)) + 1))) else (mem_Words.j1 (wr .u64 (Int.tdiv x1 32)))
theorem mem_Words.ok : mem_Words.Ctr (mem_Words.f) := by
  intro x1 r h0 mi w0 ok hm
  delta mem_Words.f at h0
  refine c_enterX (n := 12) [(.v (.int .u64 x1))] (l := [(0, (.v (.int .u64 x1)))]) Tryd.func50 rfl rfl rfl rfl ok hm ?_
  clear ok hm
  intro b0 hb a S
  refine c_region ?_
  refine s_assign S rfl rfl ?_; clear S a; intro a S
  refine c_end ?_
  refine c_region ?_
  refine s_move S rfl rfl ?_; clear S a; intro a S
  refine s_quo S rfl rfl (by decide) rfl ?_; clear S a; intro a S
  refine s_assign S rfl rfl ?_; clear S a; intro a S
  refine c_end ?_
  refine wp_seq_k ?_
  intro K1 hK1
  have j1 : ∀ (m : Mem) (y1 : Int) (a : Act) (w : World), St 12 m b0 [(3, (.v (.int .u64 y1)))] [] a w → mem_Words.j1 y1 = some r → K1 a w := by
    intro m y1 a w S h0
    delta mem_Words.j1 at h0
    refine hK1 a w ?_
    refine c_region ?_
    refine s_move S rfl rfl ?_; clear S a; intro a S
    refine s_assign S rfl rfl ?_; clear S a; intro a S
    refine c_end ?_
    refine wp_ret ?_
    obtain rfl := Option.some.inj h0
    exact b_ret1 (d := (.v (.int .u64 y1))) S rfl rfl fun ok => S.retX (Hx := []) hb _ _ (() : Unit) .nil ok
  refine c_region ?_
  refine s_move S rfl rfl ?_; clear S a; intro a S
  refine s_rem S rfl rfl (by decide) rfl ?_; clear S a; intro a S
  refine s_bin S rfl rfl rfl rfl ?_; clear S a; intro a S
  refine c_end ?_
  rcases ite_of h0 with ⟨c1, h1⟩ | ⟨c1, h1⟩ <;> clear h0
  · refine c_condT S rfl c1 ?_
    refine c_region' ?_
    refine s_move S rfl rfl ?_; clear S a; intro a S
    refine s_bin S rfl rfl rfl rfl ?_; clear S a; intro a S
    refine s_assign S rfl rfl ?_; clear S a; intro a S
    refine c_end' ?_
    refine x_thenN ?_
    exact j1 _ (wr .u64 ((wr .u64 (Int.tdiv x1 32)) + 1)) a w0 (S.sub ⟨rfl, trivial⟩ .nil) h1
  · refine c_condF S rfl c1 ?_
    refine wp_skip ?_
    refine x_thenN ?_
    exact j1 _ (wr .u64 (Int.tdiv x1 32)) a w0 (S.sub ⟨rfl, trivial⟩ .nil) h1
/-! smithy/gas.Intrinsic -/
abbrev gas_Intrinsic.Ty : Type := (List Int) → Bool → Int → Int → Option Int
def gas_Intrinsic.Ctr (s : gas_Intrinsic.Ty) : Prop := ∀ (x1 : List Int) (x2 : Bool) (x3 : Int) (x4 : Int) (ch_0_0 : Option Addr) (ch_0_1 : Nat) (r : Int) (h0 : s x1 x2 x3 x4 = some r) (mi : Mem) (w0 : World), okL mi [(.sl ch_0_0 (x1).length ch_0_1 (RdS (Ty.int .u8) ch_0_0 x1)), (.v (.bool x2)), (.v (.int .u64 x3)), (.v (.int .u64 x4))] → Pre mi [] w0 → Calls Tryd.prog 38 (([(.sl ch_0_0 (x1).length ch_0_1 (RdS (Ty.int .u8) ch_0_0 x1)), (.v (.bool x2)), (.v (.int .u64 x3)), (.v (.int .u64 x4))] : List D).map D.val).toArray w0 (RetX mi [] (fun (ch : Unit) => ((.v (.int .u64 r)) : D)) (fun (ch : Unit) => []) w0)
def gas_Intrinsic.j2 (y2 : Int) : Option Int := some y2
def gas_Intrinsic.j1 (x1 : List Int) (x2 : Bool) (y1 : Int) : Option Int := if x2 = true then ((mem_Words.f (wr .u64 ((x1).length : Int))).bind fun t1 => (gas_Intrinsic.j2 (wr .u64 (y1 + (wr .u64 (32000 + (wr .u64 (2 * t1)))))))) else (gas_Intrinsic.j2 y1)
def gas_Intrinsic.b1 (x1 : List Int) (x2 : Bool) (rec1 : Int → Int → Option Int) (y5 : Int) (y6 : Int) : Option Int := if (decide (y5 < ((x1).length : Int))) = true then (if (0 : Int) ≤ y5 ∧ y5 < ((x1).length : Int) then ((gas_either.f ((rd x1 y5) == 0) 4 16).bind fun t4 => (rec1 (wr .i64 (y5 + 1)) (wr .u64 (y6 + t4)))) else none) else (gas_Intrinsic.j1 x1 x2 y6)
def gas_Intrinsic.l1 (x1 : List Int) (x2 : Bool) : Nat → Int → Int → Option Int
  | 0, _, _ => none
  | q + 1, y5, y6 => gas_Intrinsic.b1 x1 x2 (gas_Intrinsic.l1 x1 x2 q) y5 y6
def gas_Intrinsic.f (k : Nat) (x1 : List Int) (x2 : Bool) (x3 : Int) (x4 : Int) : Option Int := gas_Intrinsic.l1 x1 x2 k 0 (wr .u64 ((wr .u64 (21000 + (wr .u64 (2400 * x3)))) + (wr .u64 (1900 * x4))))
theorem gas_Intrinsic.ok (k : Nat) : gas_Intrinsic.Ctr (gas_Intrinsic.f k) := by
  intro x1 x2 x3 x4 ch_0_0 ch_0_1 r h0 mi w0 ok hm
  delta gas_Intrinsic.f at h0
  refine c_enterX (n := 40) [(.sl ch_0_0 (x1).length ch_0_1 (RdS (Ty.int .u8) ch_0_0 x1)), (.v (.bool x2)), (.v (.int .u64 x3)), (.v (.int .u64 x4))] (l := [(0, (.sl ch_0_0 (x1).length ch_0_1 (RdS (Ty.int .u8) ch_0_0 x1))), (1, (.v (.bool x2))), (2, (.v (.int .u64 x3))), (3, (.v (.int .u64 x4)))]) Tryd.func38 rfl rfl rfl rfl ok hm ?_
  clear ok hm
  intro b0 hb a S
  refine c_region ?_
  refine s_assign S rfl rfl ?_; clear S a; intro a S
  refine c_end ?_
  refine c_region ?_
  refine s_move S rfl rfl ?_; clear S a; intro a S
  refine s_bin S rfl rfl rfl rfl ?_; clear S a; intro a S
  refine s_bin S rfl rfl rfl rfl ?_; clear S a; intro a S
  refine s_move S rfl rfl ?_; clear S a; intro a S
  refine s_bin S rfl rfl rfl rfl ?_; clear S a; intro a S
  refine s_bin S rfl rfl rfl rfl ?_; clear S a; intro a S
  refine s_assign S rfl rfl ?_; clear S a; intro a S
  refine c_end ?_
  refine wp_seq_k ?_
  intro K1 hK1
  have j1 : ∀ (m : Mem) (y1 : Int) (a : Act) (w : World), St 40 m b0 [(9, (.v (.int .u64 y1))), (0, (.sl ch_0_0 (x1).length ch_0_1 (RdS (Ty.int .u8) ch_0_0 x1))), (1, (.v (.bool x2)))] [] a w → gas_Intrinsic.j1 x1 x2 y1 = some r → K1 a w := by
    intro m y1 a w S h0
    delta gas_Intrinsic.j1 at h0
    refine hK1 a w ?_
    refine wp_seq_k ?_
    intro K2 hK2
    have j2 : ∀ (m : Mem) (y2 : Int) (a : Act) (w : World), St 40 m b0 [(9, (.v (.int .u64 y2)))] [] a w → gas_Intrinsic.j2 y2 = some r → K2 a w := by
      intro m y2 a w S h0
      delta gas_Intrinsic.j2 at h0
      refine hK2 a w ?_
      refine c_region ?_
      refine s_move S rfl rfl ?_; clear S a; intro a S
      refine s_assign S rfl rfl ?_; clear S a; intro a S
      refine c_end ?_
      refine wp_ret ?_
      obtain rfl := Option.some.inj h0
      exact b_ret1 (d := (.v (.int .u64 y2))) S rfl rfl fun ok => S.retX (Hx := []) hb _ _ (() : Unit) .nil ok
    refine c_region ?_
    refine s_move S rfl rfl ?_; clear S a; intro a S
    refine c_end ?_
    rcases ite_of h0 with ⟨c1, h1⟩ | ⟨c1, h1⟩ <;> clear h0
    · refine c_condT S rfl c1 ?_
      refine c_region' ?_
      refine s_move S rfl rfl ?_; clear S a; intro a S
      refine s_move S rfl rfl ?_; clear S a; intro a S
      refine s_lenS S rfl Tryd.underlying27 rfl ?_; clear S a; intro a S
      refine s_conv S rfl rfl Tryd.underlying24 rfl ?_; clear S a; intro a S
      obtain ⟨t1, et1, h2⟩ := bind_of h1; clear h1
      refine s_callP S (fun (ch : Unit) => ((.v (.int .u64 t1)) : D)) N50 rfl rfl (mem_Words.ok (wr .u64 ((x1).length : Int)) t1 et1 _ _) ?_; clear S a w; intro ch1 m le1 a w S
      refine s_bin S rfl rfl rfl rfl ?_; clear S a; intro a S
      refine s_bin S rfl rfl rfl rfl ?_; clear S a; intro a S
      refine s_bin S rfl rfl rfl rfl ?_; clear S a; intro a S
      refine s_assign S rfl rfl ?_; clear S a; intro a S
      refine c_end' ?_
      refine x_thenN ?_
      exact j2 _ (wr .u64 (y1 + (wr .u64 (32000 + (wr .u64 (2 * t1)))))) a w (S.sub ⟨rfl, trivial⟩ .nil) h2
    · refine c_condF S rfl c1 ?_
      refine wp_skip ?_
      refine x_thenN ?_
      exact j2 _ y1 a w (S.sub ⟨rfl, trivial⟩ .nil) h1
  refine c_region ?_
  refine s_move S rfl rfl ?_; clear S a; intro a S
  refine s_lenS S rfl Tryd.underlying27 rfl ?_; clear S a; intro a S
  refine s_move S rfl rfl ?_; clear S a; intro a S
  refine c_end ?_
  refine wp_block ?_
  refine c_loop (fun q1 a w => ∃ (m : Mem) (y5 : Int) (y6 : Int), St 40 m b0 [(20, (.v (.int .i64 y5))), (19, (.v (.int .i64 ((x1).length : Int)))), (18, (.sl ch_0_0 (x1).length ch_0_1 (RdS (Ty.int .u8) ch_0_0 x1))), (9, (.v (.int .u64 y6))), (0, (.sl ch_0_0 (x1).length ch_0_1 (RdS (Ty.int .u8) ch_0_0 x1))), (1, (.v (.bool x2)))] [] a w ∧ gas_Intrinsic.l1 x1 x2 q1 y5 y6 = some r) ?_ ?_ (k := k) ⟨_, 0, (wr .u64 ((wr .u64 (21000 + (wr .u64 (2400 * x3)))) + (wr .u64 (1900 * x4)))), (S.sub ⟨rfl, rfl, rfl, rfl, rfl, rfl, trivial⟩ .nil), h0⟩
  · rintro a w ⟨m, y5, y6, S, h0⟩
    exact (nomatch (show (none : Option Int) = some r from h0))
  · clear S h0
    rintro q1 a w ⟨m, y5, y6, S, h0⟩
    replace h0 : gas_Intrinsic.b1 x1 x2 (gas_Intrinsic.l1 x1 x2 q1) y5 y6 = some r := h0
    delta gas_Intrinsic.b1 at h0
    refine c_region ?_
    refine s_bin S rfl rfl rfl rfl ?_; clear S a; intro a S
    refine c_end ?_
    refine wp_seq ?_
    rcases ite_of h0 with ⟨c2, h1⟩ | ⟨c2, h1⟩ <;> clear h0
    · refine c_condT S rfl c2 ?_
      refine wp_skip ?_
      refine x_thenN ?_
      refine wp_seq ?_
      refine wp_block ?_
      refine c_region ?_
      obtain ⟨c3, h2⟩ := chk_of h1; clear h1
      refine s_iaddrS S rfl rfl rfl Tryd.underlying27 T5 c3.1 c3.2 rfl ?_; clear S a; intro p1 a S
      refine s_ld1 S (v := (.int .u8 (rd x1 y5))) rfl T5 (fun _ => rfl) rfl ?_; clear S a; intro a S
      refine s_assign S rfl rfl ?_; clear S a; intro a S
      refine c_end ?_
      refine c_region' ?_
      refine s_move S rfl rfl ?_; clear S a; intro a S
      refine s_move S rfl rfl ?_; clear S a; intro a S
      refine s_bin S rfl rfl rfl rfl ?_; clear S a; intro a S
      obtain ⟨t4, et4, h3⟩ := bind_of h2; clear h2
      refine s_callP S (fun (ch : Unit) => ((.v (.int .u64 t4)) : D)) N49 rfl rfl (gas_either.ok ((rd x1 y5) == 0) 4 16 t4 et4 _ _) ?_; clear S a w; intro ch2 m le1 a w S
      refine s_bin S rfl rfl rfl rfl ?_; clear S a; intro a S
      refine s_assign S rfl rfl ?_; clear S a; intro a S
      refine c_end' ?_
      refine x_blockN ?_
      refine x_thenN ?_
      refine c_region' ?_
      refine s_bin S rfl rfl rfl rfl ?_; clear S a; intro a S
      refine s_move S rfl rfl ?_; clear S a; intro a S
      refine c_end' ?_
      refine x_thenN ?_
      exact ⟨_, (wr .i64 (y5 + 1)), (wr .u64 (y6 + t4)), (S.sub ⟨rfl, rfl, rfl, rfl, rfl, rfl, trivial⟩ .nil), h3⟩
    · refine c_condF S rfl c2 ?_
      refine wp_exit ?_
      refine x_thenX ?_
      refine x_thenX ?_
      refine x_blockX ?_
      refine x_thenN ?_
      exact j1 _ y6 a w (S.sub ⟨rfl, rfl, rfl, trivial⟩ .nil) h1
/-! smithy/tx.Intrinsic -/
abbrev tx_Intrinsic.Ty : Type := ((List Int) × (List Int) × Bool × Int × (List Int) × (List Int) × Int × (List Int) × (List Int) × (List ((List Int) × (List (List Int))))) → Option Int
def tx_Intrinsic.Ctr (s : tx_Intrinsic.Ty) : Prop := ∀ (x1 : (List Int) × (List Int) × Bool × Int × (List Int) × (List Int) × Int × (List Int) × (List Int) × (List ((List Int) × (List (List Int))))) (ch_0_0 : Option Addr) (ch_0_1 : Nat) (ch_0_2 : Option Addr) (ch_0_3 : Nat) (r : Int) (h0 : s x1 = some r) (mi : Mem) (w0 : World), okL mi [(.agg [.ints .u8 x1.1 20, .ints .u8 x1.2.1 20, .one (.bool x1.2.2.1), .one (.int .u64 x1.2.2.2.1), .ints .u64 x1.2.2.2.2.1 4, .sl ch_0_0 (x1.2.2.2.2.2.1).length ch_0_1 (RdS (Ty.int .u8) ch_0_0 x1.2.2.2.2.2.1), .one (.int .u64 x1.2.2.2.2.2.2.1), .ints .u64 x1.2.2.2.2.2.2.2.1 4, .ints .u64 x1.2.2.2.2.2.2.2.2.1 4, .sl ch_0_2 (x1.2.2.2.2.2.2.2.2.2).length ch_0_3 (RdS (Ty.prod (Ty.arr .u8 20) (Ty.slice (Ty.arr .u64 4))) ch_0_2 x1.2.2.2.2.2.2.2.2.2)])] → Pre mi [] w0 → Calls Tryd.prog 24 (([(.agg [.ints .u8 x1.1 20, .ints .u8 x1.2.1 20, .one (.bool x1.2.2.1), .one (.int .u64 x1.2.2.2.1), .ints .u64 x1.2.2.2.2.1 4, .sl ch_0_0 (x1.2.2.2.2.2.1).length ch_0_1 (RdS (Ty.int .u8) ch_0_0 x1.2.2.2.2.2.1), .one (.int .u64 x1.2.2.2.2.2.2.1), .ints .u64 x1.2.2.2.2.2.2.2.1 4, .ints .u64 x1.2.2.2.2.2.2.2.2.1 4, .sl ch_0_2 (x1.2.2.2.2.2.2.2.2.2).length ch_0_3 (RdS (Ty.prod (Ty.arr .u8 20) (Ty.slice (Ty.arr .u64 4))) ch_0_2 x1.2.2.2.2.2.2.2.2.2)])] : List D).map D.val).toArray w0 (RetX mi [] (fun (ch : Unit) => ((.v (.int .u64 r)) : D)) (fun (ch : Unit) => []) w0)
def tx_Intrinsic.j1 (k : Nat) (x1 : (List Int) × (List Int) × Bool × Int × (List Int) × (List Int) × Int × (List Int) × (List Int) × (List ((List Int) × (List (List Int))))) (y1 : Int) : Option Int := (gas_Intrinsic.f k x1.2.2.2.2.2.1 x1.2.2.1 (wr .u64 ((x1.2.2.2.2.2.2.2.2.2).length : Int)) y1).bind fun t1 => (some t1)
def tx_Intrinsic.b1 (k : Nat) (x1 : (List Int) × (List Int) × Bool × Int × (List Int) × (List Int) × Int × (List Int) × (List Int) × (List ((List Int) × (List (List Int))))) (rec1 : Int → Int → Option Int) (y4 : Int) (y5 : Int) : Option Int := if (decide (y4 < ((x1.2.2.2.2.2.2.2.2.2).length : Int))) = true then (if (0 : Int) ≤ y4 ∧ y4 < ((x1.2.2.2.2.2.2.2.2.2).length : Int) then (rec1 (wr .i64 (y4 + 1)) (wr .u64 (y5 + (wr .u64 (((gt x1.2.2.2.2.2.2.2.2.2 y4).2).length : Int))))) else none) else (tx_Intrinsic.j1 k x1 y5)
def tx_Intrinsic.l1 (k : Nat) (x1 : (List Int) × (List Int) × Bool × Int × (List Int) × (List Int) × Int × (List Int) × (List Int) × (List ((List Int) × (List (List Int))))) : Nat → Int → Int → Option Int
  | 0, _, _ => none
  | q + 1, y4, y5 => tx_Intrinsic.b1 k x1 (tx_Intrinsic.l1 k x1 q) y4 y5
def tx_Intrinsic.f (k : Nat) (x1 : (List Int) × (List Int) × Bool × Int × (List Int) × (List Int) × Int × (List Int) × (List Int) × (List ((List Int) × (List (List Int))))) : Option Int := tx_Intrinsic.l1 k x1 k 0 0
theorem tx_Intrinsic.ok (k : Nat) : tx_Intrinsic.Ctr (tx_Intrinsic.f k) := by
  intro x1 ch_0_0 ch_0_1 ch_0_2 ch_0_3 r h0 mi w0 ok hm
  delta tx_Intrinsic.f at h0
  refine c_enterX (n := 30) [(.agg [.ints .u8 x1.1 20, .ints .u8 x1.2.1 20, .one (.bool x1.2.2.1), .one (.int .u64 x1.2.2.2.1), .ints .u64 x1.2.2.2.2.1 4, .sl ch_0_0 (x1.2.2.2.2.2.1).length ch_0_1 (RdS (Ty.int .u8) ch_0_0 x1.2.2.2.2.2.1), .one (.int .u64 x1.2.2.2.2.2.2.1), .ints .u64 x1.2.2.2.2.2.2.2.1 4, .ints .u64 x1.2.2.2.2.2.2.2.2.1 4, .sl ch_0_2 (x1.2.2.2.2.2.2.2.2.2).length ch_0_3 (RdS (Ty.prod (Ty.arr .u8 20) (Ty.slice (Ty.arr .u64 4))) ch_0_2 x1.2.2.2.2.2.2.2.2.2)])] (l := [(0, (.agg [.ints .u8 x1.1 20, .ints .u8 x1.2.1 20, .one (.bool x1.2.2.1), .one (.int .u64 x1.2.2.2.1), .ints .u64 x1.2.2.2.2.1 4, .sl ch_0_0 (x1.2.2.2.2.2.1).length ch_0_1 (RdS (Ty.int .u8) ch_0_0 x1.2.2.2.2.2.1), .one (.int .u64 x1.2.2.2.2.2.2.1), .ints .u64 x1.2.2.2.2.2.2.2.1 4, .ints .u64 x1.2.2.2.2.2.2.2.2.1 4, .sl ch_0_2 (x1.2.2.2.2.2.2.2.2.2).length ch_0_3 (RdS (Ty.prod (Ty.arr .u8 20) (Ty.slice (Ty.arr .u64 4))) ch_0_2 x1.2.2.2.2.2.2.2.2.2)]))]) Tryd.func24 rfl rfl rfl rfl ok hm ?_
  clear ok hm
  intro b0 hb a S
  refine c_region ?_
  refine s_box S rfl rfl rfl ?_; clear S a; intro g1 a w S
  refine s_assign S rfl rfl ?_; clear S a; intro a S
  refine c_end ?_
  refine c_region ?_
  refine s_assign S rfl rfl ?_; clear S a; intro a S
  refine c_end ?_
  refine wp_seq_k ?_
  intro K1 hK1
  have j1 : ∀ (m : Mem) (y1 : Int) (g7 : Nat) (a : Act) (w : World), St 30 m b0 [(3, (.v (.int .u64 y1))), (1, (.v (.pointer (some ⟨g7, 0, none⟩))))] [Res.cells g7 30 [.ints .u8 x1.1 20, .ints .u8 x1.2.1 20, .one (.bool x1.2.2.1), .one (.int .u64 x1.2.2.2.1), .ints .u64 x1.2.2.2.2.1 4, .sl ch_0_0 (x1.2.2.2.2.2.1).length ch_0_1 (RdS (Ty.int .u8) ch_0_0 x1.2.2.2.2.2.1), .one (.int .u64 x1.2.2.2.2.2.2.1), .ints .u64 x1.2.2.2.2.2.2.2.1 4, .ints .u64 x1.2.2.2.2.2.2.2.2.1 4, .sl ch_0_2 (x1.2.2.2.2.2.2.2.2.2).length ch_0_3 (RdS (Ty.prod (Ty.arr .u8 20) (Ty.slice (Ty.arr .u64 4))) ch_0_2 x1.2.2.2.2.2.2.2.2.2)]] a w → tx_Intrinsic.j1 k x1 y1 = some r → K1 a w := by
    intro m y1 g7 a w S h0
    delta tx_Intrinsic.j1 at h0
    refine hK1 a w ?_
    refine c_region ?_
    refine s_fieldAddr S rfl I30_5 T27 (by decide) rfl rfl ?_; clear S a; intro a S
    refine s_loadSl S rfl .here T27 (A := ch_0_0) (len := (x1.2.2.2.2.2.1).length) (cap := ch_0_1) rfl rfl ?_; clear S a; intro a S
    refine s_fieldAddr S rfl I30_2 T4 (by decide) rfl rfl ?_; clear S a; intro a S
    refine s_load1 S rfl .here T4 (v := (.bool x1.2.2.1)) rfl rfl ?_; clear S a; intro a S
    refine s_fieldAddr S rfl I30_9 T28 (by decide) rfl rfl ?_; clear S a; intro a S
    refine s_loadSl S rfl .here T28 (A := ch_0_2) (len := (x1.2.2.2.2.2.2.2.2.2).length) (cap := ch_0_3) rfl rfl ?_; clear S a; intro a S
    refine s_lenS S rfl Tryd.underlying28 rfl ?_; clear S a; intro a S
    refine s_conv S rfl rfl Tryd.underlying24 rfl ?_; clear S a; intro a S
    refine s_move S rfl rfl ?_; clear S a; intro a S
    obtain ⟨t1, et1, h1⟩ := bind_of h0; clear h0
    refine s_callP S (fun (ch : Unit) => ((.v (.int .u64 t1)) : D)) N38 rfl rfl (gas_Intrinsic.ok k x1.2.2.2.2.2.1 x1.2.2.1 (wr .u64 ((x1.2.2.2.2.2.2.2.2.2).length : Int)) y1 ch_0_0 ch_0_1 t1 et1 _ _) ?_; clear S a w; intro ch1 m le1 a w S
    refine s_assign S rfl rfl ?_; clear S a; intro a S
    refine c_end ?_
    refine wp_ret ?_
    obtain rfl := Option.some.inj h1
    exact b_ret1 (d := (.v (.int .u64 t1))) S rfl rfl fun ok => S.retX (Hx := []) hb _ _ (() : Unit) .nil ok
  refine c_region ?_
  refine s_fieldAddr S rfl I30_9 T28 (by decide) rfl rfl ?_; clear S a; intro a S
  refine s_loadSl S rfl .here T28 (A := ch_0_2) (len := (x1.2.2.2.2.2.2.2.2.2).length) (cap := ch_0_3) rfl rfl ?_; clear S a; intro a S
  refine s_lenS S rfl Tryd.underlying28 rfl ?_; clear S a; intro a S
  refine s_move S rfl rfl ?_; clear S a; intro a S
  refine c_end ?_
  refine wp_block ?_
  refine c_loop (fun q1 a w => ∃ (m : Mem) (y4 : Int) (y5 : Int) (g12 : Nat), St 30 m b0 [(9, (.v (.int .i64 y4))), (8, (.v (.int .i64 ((x1.2.2.2.2.2.2.2.2.2).length : Int)))), (7, (.sl ch_0_2 (x1.2.2.2.2.2.2.2.2.2).length ch_0_3 (RdS (Ty.prod (Ty.arr .u8 20) (Ty.slice (Ty.arr .u64 4))) ch_0_2 x1.2.2.2.2.2.2.2.2.2))), (3, (.v (.int .u64 y5))), (1, (.v (.pointer (some ⟨g12, 0, none⟩))))] [Res.cells g12 30 [.ints .u8 x1.1 20, .ints .u8 x1.2.1 20, .one (.bool x1.2.2.1), .one (.int .u64 x1.2.2.2.1), .ints .u64 x1.2.2.2.2.1 4, .sl ch_0_0 (x1.2.2.2.2.2.1).length ch_0_1 (RdS (Ty.int .u8) ch_0_0 x1.2.2.2.2.2.1), .one (.int .u64 x1.2.2.2.2.2.2.1), .ints .u64 x1.2.2.2.2.2.2.2.1 4, .ints .u64 x1.2.2.2.2.2.2.2.2.1 4, .sl ch_0_2 (x1.2.2.2.2.2.2.2.2.2).length ch_0_3 (RdS (Ty.prod (Ty.arr .u8 20) (Ty.slice (Ty.arr .u64 4))) ch_0_2 x1.2.2.2.2.2.2.2.2.2)]] a w ∧ tx_Intrinsic.l1 k x1 q1 y4 y5 = some r) ?_ ?_ (k := k) ⟨_, 0, 0, g1, (S.sub ⟨rfl, rfl, rfl, rfl, rfl, trivial⟩ (.cons .here .nil)), h0⟩
  · rintro a w ⟨m, y4, y5, g12, S, h0⟩
    exact (nomatch (show (none : Option Int) = some r from h0))
  · clear S h0
    rintro q1 a w ⟨m, y4, y5, g12, S, h0⟩
    replace h0 : tx_Intrinsic.b1 k x1 (tx_Intrinsic.l1 k x1 q1) y4 y5 = some r := h0
    delta tx_Intrinsic.b1 at h0
    refine c_region ?_
    refine s_bin S rfl rfl rfl rfl ?_; clear S a; intro a S
    refine c_end ?_
    refine wp_seq ?_
    rcases ite_of h0 with ⟨c1, h1⟩ | ⟨c1, h1⟩ <;> clear h0
    · refine c_condT S rfl c1 ?_
      refine wp_skip ?_
      refine x_thenN ?_
      refine wp_seq ?_
      refine wp_block ?_
      refine c_region ?_
      obtain ⟨c2, h2⟩ := chk_of h1; clear h1
      refine s_iaddrS S rfl rfl rfl Tryd.underlying28 T35 c2.1 c2.2 rfl ?_; clear S a; intro p1 a S
      refine s_ldA S (fun (c : Unit × (Option Addr × Nat)) => [.ints .u8 ((gt x1.2.2.2.2.2.2.2.2.2 y4).1) 20, .sl c.2.1 ((gt x1.2.2.2.2.2.2.2.2.2 y4).2).length c.2.2 (RdS (Ty.arr .u64 4) c.2.1 ((gt x1.2.2.2.2.2.2.2.2.2 y4).2))]) rfl T35 (fun _ => rfl) rfl ?_; clear S a; intro ch4 a S
      refine s_alloc S Z35 rfl ⟨rfl, rfl, trivial⟩ rfl ?_; clear S a w; intro g13 a w S
      refine s_store S rfl rfl rfl (s' := [.ints .u8 ((gt x1.2.2.2.2.2.2.2.2.2 y4).1) 20, .sl ch4.2.1 ((gt x1.2.2.2.2.2.2.2.2.2 y4).2).length ch4.2.2 (RdS (Ty.arr .u64 4) ch4.2.1 ((gt x1.2.2.2.2.2.2.2.2.2 y4).2))]) .here T35 rfl rfl ?_; clear S w; intro w S
      refine c_end ?_
      refine c_region' ?_
      refine s_move S rfl rfl ?_; clear S a; intro a S
      refine s_fieldAddr S rfl I35_1 T33 (by decide) rfl rfl ?_; clear S a; intro a S
      refine s_loadSl S rfl .here T33 (A := ch4.2.1) (len := ((gt x1.2.2.2.2.2.2.2.2.2 y4).2).length) (cap := ch4.2.2) rfl rfl ?_; clear S a; intro a S
      refine s_lenS S rfl Tryd.underlying33 rfl ?_; clear S a; intro a S
      refine s_conv S rfl rfl Tryd.underlying24 rfl ?_; clear S a; intro a S
      refine s_bin S rfl rfl rfl rfl ?_; clear S a; intro a S
      refine s_assign S rfl rfl ?_; clear S a; intro a S
      refine c_end' ?_
      refine x_blockN ?_
      refine x_thenN ?_
      refine c_region' ?_
      refine s_bin S rfl rfl rfl rfl ?_; clear S a; intro a S
      refine s_move S rfl rfl ?_; clear S a; intro a S
      refine c_end' ?_
      refine x_thenN ?_
      exact ⟨_, (wr .i64 (y4 + 1)), (wr .u64 (y5 + (wr .u64 (((gt x1.2.2.2.2.2.2.2.2.2 y4).2).length : Int)))), g12, (S.sub ⟨rfl, rfl, rfl, rfl, rfl, trivial⟩ (.cons (.there .here) .nil)), h2⟩
    · refine c_condF S rfl c1 ?_
      refine wp_exit ?_
      refine x_thenX ?_
      refine x_thenX ?_
      refine x_blockX ?_
      refine x_thenN ?_
      exact j1 _ y5 g12 a w (S.sub ⟨rfl, rfl, trivial⟩ (.cons .here .nil)) h1
/-! smithy/tx.May -/
abbrev tx_May.Ty : Type := ((List Int) × (List Int) × Bool × Int × (List Int) × (List Int) × Int × (List Int) × (List Int) × (List ((List Int) × (List (List Int))))) → Option Int
def tx_May.Ctr (s : tx_May.Ty) : Prop := ∀ (x1 : (List Int) × (List Int) × Bool × Int × (List Int) × (List Int) × Int × (List Int) × (List Int) × (List ((List Int) × (List (List Int))))) (ch_0_0 : Option Addr) (ch_0_1 : Nat) (ch_0_2 : Option Addr) (ch_0_3 : Nat) (r : Int) (h0 : s x1 = some r) (mi : Mem) (w0 : World), okL mi [(.agg [.ints .u8 x1.1 20, .ints .u8 x1.2.1 20, .one (.bool x1.2.2.1), .one (.int .u64 x1.2.2.2.1), .ints .u64 x1.2.2.2.2.1 4, .sl ch_0_0 (x1.2.2.2.2.2.1).length ch_0_1 (RdS (Ty.int .u8) ch_0_0 x1.2.2.2.2.2.1), .one (.int .u64 x1.2.2.2.2.2.2.1), .ints .u64 x1.2.2.2.2.2.2.2.1 4, .ints .u64 x1.2.2.2.2.2.2.2.2.1 4, .sl ch_0_2 (x1.2.2.2.2.2.2.2.2.2).length ch_0_3 (RdS (Ty.prod (Ty.arr .u8 20) (Ty.slice (Ty.arr .u64 4))) ch_0_2 x1.2.2.2.2.2.2.2.2.2)])] → Pre mi [] w0 → Calls Tryd.prog 8 (([(.agg [.ints .u8 x1.1 20, .ints .u8 x1.2.1 20, .one (.bool x1.2.2.1), .one (.int .u64 x1.2.2.2.1), .ints .u64 x1.2.2.2.2.1 4, .sl ch_0_0 (x1.2.2.2.2.2.1).length ch_0_1 (RdS (Ty.int .u8) ch_0_0 x1.2.2.2.2.2.1), .one (.int .u64 x1.2.2.2.2.2.2.1), .ints .u64 x1.2.2.2.2.2.2.2.1 4, .ints .u64 x1.2.2.2.2.2.2.2.2.1 4, .sl ch_0_2 (x1.2.2.2.2.2.2.2.2.2).length ch_0_3 (RdS (Ty.prod (Ty.arr .u8 20) (Ty.slice (Ty.arr .u64 4))) ch_0_2 x1.2.2.2.2.2.2.2.2.2)])] : List D).map D.val).toArray w0 (RetX mi [] (fun (ch : Unit) => ((.v (.int .i64 r)) : D)) (fun (ch : Unit) => []) w0)
def tx_May.j2 (k : Nat) (x1 : (List Int) × (List Int) × Bool × Int × (List Int) × (List Int) × Int × (List Int) × (List Int) × (List ((List Int) × (List (List Int))))) (y2 : Bool) : Option Int := if y2 = true then (some 8) else ((word_Compare.f k x1.2.2.2.2.2.2.2.2.1 x1.2.2.2.2.2.2.2.1).bind fun t1 => (if (decide (0 < t1)) = true then (some 9) else (if (x1.2.2.2.1 == 18446744073709551615) = true then (some 6) else (some 0))))
def tx_May.j1 (k : Nat) (x1 : (List Int) × (List Int) × Bool × Int × (List Int) × (List Int) × Int × (List Int) × (List Int) × (List ((List Int) × (List (List Int))))) (y1 : Bool) : Option Int := if y1 = true then (some 4) else (if (decide (1099511627776 < x1.2.2.2.2.2.2.1)) = true then (tx_May.j2 k x1 true) else ((tx_Intrinsic.f k (x1.1, x1.2.1, x1.2.2.1, x1.2.2.2.1, x1.2.2.2.2.1, x1.2.2.2.2.2.1, x1.2.2.2.2.2.2.1, x1.2.2.2.2.2.2.2.1, x1.2.2.2.2.2.2.2.2.1, x1.2.2.2.2.2.2.2.2.2)).bind fun t2 => (tx_May.j2 k x1 (decide (x1.2.2.2.2.2.2.1 < t2)))))
def tx_May.f (k : Nat) (x1 : (List Int) × (List Int) × Bool × Int × (List Int) × (List Int) × Int × (List Int) × (List Int) × (List ((List Int) × (List (List Int))))) : Option Int := (tx_long.f k (x1.1, x1.2.1, x1.2.2.1, x1.2.2.2.1, x1.2.2.2.2.1, x1.2.2.2.2.2.1, x1.2.2.2.2.2.2.1, x1.2.2.2.2.2.2.2.1, x1.2.2.2.2.2.2.2.2.1, x1.2.2.2.2.2.2.2.2.2)).bind fun t3 => (if t3 = true then (tx_May.j1 k x1 true) else (if x1.2.2.1 = true then (tx_May.j1 k x1 (decide (49152 < ((x1.2.2.2.2.2.1).length : Int)))) else (tx_May.j1 k x1 false)))
theorem tx_May.ok (k : Nat) : tx_May.Ctr (tx_May.f k) := by
  intro x1 ch_0_0 ch_0_1 ch_0_2 ch_0_3 r h0 mi w0 ok hm
  delta tx_May.f at h0
  refine c_enterX (n := 38) [(.agg [.ints .u8 x1.1 20, .ints .u8 x1.2.1 20, .one (.bool x1.2.2.1), .one (.int .u64 x1.2.2.2.1), .ints .u64 x1.2.2.2.2.1 4, .sl ch_0_0 (x1.2.2.2.2.2.1).length ch_0_1 (RdS (Ty.int .u8) ch_0_0 x1.2.2.2.2.2.1), .one (.int .u64 x1.2.2.2.2.2.2.1), .ints .u64 x1.2.2.2.2.2.2.2.1 4, .ints .u64 x1.2.2.2.2.2.2.2.2.1 4, .sl ch_0_2 (x1.2.2.2.2.2.2.2.2.2).length ch_0_3 (RdS (Ty.prod (Ty.arr .u8 20) (Ty.slice (Ty.arr .u64 4))) ch_0_2 x1.2.2.2.2.2.2.2.2.2)])] (l := [(0, (.agg [.ints .u8 x1.1 20, .ints .u8 x1.2.1 20, .one (.bool x1.2.2.1), .one (.int .u64 x1.2.2.2.1), .ints .u64 x1.2.2.2.2.1 4, .sl ch_0_0 (x1.2.2.2.2.2.1).length ch_0_1 (RdS (Ty.int .u8) ch_0_0 x1.2.2.2.2.2.1), .one (.int .u64 x1.2.2.2.2.2.2.1), .ints .u64 x1.2.2.2.2.2.2.2.1 4, .ints .u64 x1.2.2.2.2.2.2.2.2.1 4, .sl ch_0_2 (x1.2.2.2.2.2.2.2.2.2).length ch_0_3 (RdS (Ty.prod (Ty.arr .u8 20) (Ty.slice (Ty.arr .u64 4))) ch_0_2 x1.2.2.2.2.2.2.2.2.2)]))]) Tryd.func8 rfl rfl rfl rfl ok hm ?_
  clear ok hm
  intro b0 hb a S
  refine c_region ?_
  refine s_box S rfl rfl rfl ?_; clear S a; intro g1 a w S
  refine s_assign S rfl rfl ?_; clear S a; intro a S
  refine c_end ?_
  refine wp_seq ?_
  refine wp_block ?_
  refine wp_seq_k ?_
  intro K1 hK1
  have j1 : ∀ (m : Mem) (y1 : Bool) (g2 : Nat) (a : Act) (w : World), St 38 m b0 [(3, (.v (.bool y1))), (1, (.v (.pointer (some ⟨g2, 0, none⟩))))] [Res.cells g2 30 [.ints .u8 x1.1 20, .ints .u8 x1.2.1 20, .one (.bool x1.2.2.1), .one (.int .u64 x1.2.2.2.1), .ints .u64 x1.2.2.2.2.1 4, .sl ch_0_0 (x1.2.2.2.2.2.1).length ch_0_1 (RdS (Ty.int .u8) ch_0_0 x1.2.2.2.2.2.1), .one (.int .u64 x1.2.2.2.2.2.2.1), .ints .u64 x1.2.2.2.2.2.2.2.1 4, .ints .u64 x1.2.2.2.2.2.2.2.2.1 4, .sl ch_0_2 (x1.2.2.2.2.2.2.2.2.2).length ch_0_3 (RdS (Ty.prod (Ty.arr .u8 20) (Ty.slice (Ty.arr .u64 4))) ch_0_2 x1.2.2.2.2.2.2.2.2.2)]] a w → tx_May.j1 k x1 y1 = some r → K1 a w := by
    intro m y1 g2 a w S h0
    delta tx_May.j1 at h0
    refine hK1 a w ?_
    rcases ite_of h0 with ⟨c1, h1⟩ | ⟨c1, h1⟩ <;> clear h0
    · refine c_condT S rfl c1 ?_
      refine c_region ?_
      refine s_assign S rfl rfl ?_; clear S a; intro a S
      refine c_end ?_
      refine wp_ret ?_
      refine x_blockR ?_
      refine x_thenR ?_
      obtain rfl := Option.some.inj h1
      exact b_ret1 (d := (.v (.int .i64 4))) S rfl rfl fun ok => S.retX (Hx := []) hb _ _ (() : Unit) .nil ok
    · refine c_condF S rfl c1 ?_
      refine wp_seq_k ?_
      intro K2 hK2
      have j2 : ∀ (m : Mem) (y2 : Bool) (g3 : Nat) (a : Act) (w : World), St 38 m b0 [(16, (.v (.bool y2))), (1, (.v (.pointer (some ⟨g3, 0, none⟩))))] [Res.cells g3 30 [.ints .u8 x1.1 20, .ints .u8 x1.2.1 20, .one (.bool x1.2.2.1), .one (.int .u64 x1.2.2.2.1), .ints .u64 x1.2.2.2.2.1 4, .sl ch_0_0 (x1.2.2.2.2.2.1).length ch_0_1 (RdS (Ty.int .u8) ch_0_0 x1.2.2.2.2.2.1), .one (.int .u64 x1.2.2.2.2.2.2.1), .ints .u64 x1.2.2.2.2.2.2.2.1 4, .ints .u64 x1.2.2.2.2.2.2.2.2.1 4, .sl ch_0_2 (x1.2.2.2.2.2.2.2.2.2).length ch_0_3 (RdS (Ty.prod (Ty.arr .u8 20) (Ty.slice (Ty.arr .u64 4))) ch_0_2 x1.2.2.2.2.2.2.2.2.2)]] a w → tx_May.j2 k x1 y2 = some r → K2 a w := by
        intro m y2 g3 a w S h0
        delta tx_May.j2 at h0
        refine hK2 a w ?_
        rcases ite_of h0 with ⟨c2, h1⟩ | ⟨c2, h1⟩ <;> clear h0
        · refine c_condT S rfl c2 ?_
          refine c_region ?_
          refine s_assign S rfl rfl ?_; clear S a; intro a S
          refine c_end ?_
          refine wp_ret ?_
          refine x_blockR ?_
          refine x_thenR ?_
          obtain rfl := Option.some.inj h1
          exact b_ret1 (d := (.v (.int .i64 8))) S rfl rfl fun ok => S.retX (Hx := []) hb _ _ (() : Unit) .nil ok
        · refine c_condF S rfl c2 ?_
          refine c_region ?_
          refine s_fieldAddr S rfl I30_8 T26 (by decide) rfl rfl ?_; clear S a; intro a S
          refine s_loada S rfl .here T26 (s' := [.ints .u64 x1.2.2.2.2.2.2.2.2.1 4]) rfl rfl ?_; clear S a; intro a S
          refine s_fieldAddr S rfl I30_7 T26 (by decide) rfl rfl ?_; clear S a; intro a S
          refine s_loada S rfl .here T26 (s' := [.ints .u64 x1.2.2.2.2.2.2.2.1 4]) rfl rfl ?_; clear S a; intro a S
          obtain ⟨t1, et1, h2⟩ := bind_of h1; clear h1
          refine s_callP S (fun (ch : Unit) => ((.v (.int .i64 t1)) : D)) N25 rfl rfl (word_Compare.ok k x1.2.2.2.2.2.2.2.2.1 x1.2.2.2.2.2.2.2.1 t1 et1 _ _) ?_; clear S a w; intro ch1 m le1 a w S
          refine s_bin S rfl rfl rfl rfl ?_; clear S a; intro a S
          refine s_assign S rfl rfl ?_; clear S a; intro a S
          refine c_end ?_
          rcases ite_of h2 with ⟨c3, h3⟩ | ⟨c3, h3⟩ <;> clear h2
          · refine c_condT S rfl c3 ?_
            refine c_region ?_
            refine s_assign S rfl rfl ?_; clear S a; intro a S
            refine c_end ?_
            refine wp_ret ?_
            refine x_blockR ?_
            refine x_thenR ?_
            obtain rfl := Option.some.inj h3
            exact b_ret1 (d := (.v (.int .i64 9))) S rfl rfl fun ok => S.retX (Hx := []) hb _ _ (() : Unit) .nil ok
          · refine c_condF S rfl c3 ?_
            refine c_region ?_
            refine s_fieldAddr S rfl I30_3 T24 (by decide) rfl rfl ?_; clear S a; intro a S
            refine s_load1 S rfl .here T24 (v := (.int .u64 x1.2.2.2.1)) rfl rfl ?_; clear S a; intro a S
            refine s_bin S rfl rfl rfl rfl ?_; clear S a; intro a S
            refine s_assign S rfl rfl ?_; clear S a; intro a S
            refine c_end ?_
            rcases ite_of h3 with ⟨c4, h4⟩ | ⟨c4, h4⟩ <;> clear h3
            · refine c_condT S rfl c4 ?_
              refine c_region ?_
              refine s_assign S rfl rfl ?_; clear S a; intro a S
              refine c_end ?_
              refine wp_ret ?_
              refine x_blockR ?_
              refine x_thenR ?_
              obtain rfl := Option.some.inj h4
              exact b_ret1 (d := (.v (.int .i64 6))) S rfl rfl fun ok => S.retX (Hx := []) hb _ _ (() : Unit) .nil ok
            · refine c_condF S rfl c4 ?_
              refine wp_skip ?_
              refine x_blockN ?_
              refine x_thenN ?_
              refine c_region ?_
              refine s_assign S rfl rfl ?_; clear S a; intro a S
              refine c_end ?_
              refine wp_ret ?_
              obtain rfl := Option.some.inj h4
              exact b_ret1 (d := (.v (.int .i64 0))) S rfl rfl fun ok => S.retX (Hx := []) hb _ _ (() : Unit) .nil ok
      refine c_heldS S (.take 0 (.take 1 (.take 2 (.take 3 (.take 4 (.take 5 (.take 6 (.alts (.run 7 true (.take 8 (.take 9 (.take 10 .done))) .nil))))))))) 11 [Res.cells g2 30 [.ints .u8 x1.1 20, .ints .u8 x1.2.1 20, .one (.bool x1.2.2.1), .one (.int .u64 x1.2.2.2.1), .ints .u64 x1.2.2.2.2.1 4, .sl ch_0_0 (x1.2.2.2.2.2.1).length ch_0_1 (RdS (Ty.int .u8) ch_0_0 x1.2.2.2.2.2.1), .one (.int .u64 x1.2.2.2.2.2.2.1), .ints .u64 x1.2.2.2.2.2.2.2.1 4, .ints .u64 x1.2.2.2.2.2.2.2.2.1 4, .sl ch_0_2 (x1.2.2.2.2.2.2.2.2.2).length ch_0_3 (RdS (Ty.prod (Ty.arr .u8 20) (Ty.slice (Ty.arr .u64 4))) ch_0_2 x1.2.2.2.2.2.2.2.2.2)]] (.cons .here .nil) ⟨Res.stay_cells, trivial⟩ [(1, (.v (.pointer (some ⟨g2, 0, none⟩))))] ⟨rfl, trivial⟩ (by kernel_rfl) (by kernel_rfl) ?_; clear S; intro w S CL hw le
      refine h_fieldAddr S CL hw le ⟨rfl, trivial⟩ rfl I30_6 T24 (by decide) rfl rfl rfl trivial ?_; clear S CL a; intro a S CL
      refine h_load1 S CL hw le ⟨rfl, rfl, trivial⟩ rfl .here T24 (v := (.int .u64 x1.2.2.2.2.2.2.1)) rfl rfl rfl trivial ?_; clear S CL a; intro a S CL
      refine h_bin S CL hw le ⟨rfl, rfl, rfl, trivial⟩ rfl rfl rfl rfl rfl trivial ?_; clear S CL a; intro a S CL
      refine h_move S CL hw le ⟨rfl, rfl, rfl, rfl, trivial⟩ rfl rfl rfl trivial ?_; clear S CL a; intro a S CL
      rcases ite_of h1 with ⟨c5, h2⟩ | ⟨c5, h2⟩ <;> clear h1
      · refine h_skip S CL rfl rfl rfl (ne_bool c5) rfl ?_; clear S CL a; intro a S CL
        refine h_skip S CL rfl rfl rfl (ne_bool c5) rfl ?_; clear S CL a; intro a S CL
        refine h_skip S CL rfl rfl rfl (ne_bool c5) rfl ?_; clear S CL a; intro a S CL
        refine h_skipRt S rfl rfl rfl (ne_bool c5) rfl ?_; clear S a; intro a S
        replace hw := CL.again hw S (.cons .here .nil) le
        refine h_back ⟨fun _ => hw, ?_⟩
        replace CL := CL.add (t := 24) (d := .u) S rfl rfl
        refine h_skip S CL rfl rfl rfl (ne_bool c5) rfl ?_; clear S CL a; intro a S CL
        refine h_pick S CL hw le ⟨rfl, rfl, rfl, rfl, rfl, rfl, rfl, rfl, rfl, rfl, trivial⟩ (b := true) (hc_of rfl c5) rfl rfl rfl trivial ?_; clear S CL a; intro a S CL
        refine h_assign S CL hw le ⟨rfl, rfl, rfl, rfl, rfl, rfl, rfl, rfl, rfl, rfl, rfl, trivial⟩ rfl rfl rfl trivial ?_; clear S CL a; intro a S CL
        refine h_done ?_; clear CL hw le
        refine x_thenN ?_
        exact j2 _ true g2 a w (S.sub ⟨rfl, rfl, trivial⟩ (.cons .here .nil)) h2
      · refine h_fieldAddr S CL hw le ⟨rfl, rfl, rfl, rfl, rfl, trivial⟩ rfl I30_6 T24 (by decide) rfl rfl rfl ⟨_, _, rfl, rfl, c5⟩ ?_; clear S CL a; intro a S CL
        refine h_load1 S CL hw le ⟨rfl, rfl, rfl, rfl, rfl, rfl, trivial⟩ rfl .here T24 (v := (.int .u64 x1.2.2.2.2.2.2.1)) rfl rfl rfl ⟨_, _, rfl, rfl, c5⟩ ?_; clear S CL a; intro a S CL
        refine h_loada S CL hw le ⟨rfl, rfl, rfl, rfl, rfl, rfl, rfl, trivial⟩ rfl .here T30 (s' := [.ints .u8 x1.1 20, .ints .u8 x1.2.1 20, .one (.bool x1.2.2.1), .one (.int .u64 x1.2.2.2.1), .ints .u64 x1.2.2.2.2.1 4, .sl ch_0_0 (x1.2.2.2.2.2.1).length ch_0_1 (RdS (Ty.int .u8) ch_0_0 x1.2.2.2.2.2.1), .one (.int .u64 x1.2.2.2.2.2.2.1), .ints .u64 x1.2.2.2.2.2.2.2.1 4, .ints .u64 x1.2.2.2.2.2.2.2.2.1 4, .sl ch_0_2 (x1.2.2.2.2.2.2.2.2.2).length ch_0_3 (RdS (Ty.prod (Ty.arr .u8 20) (Ty.slice (Ty.arr .u64 4))) ch_0_2 x1.2.2.2.2.2.2.2.2.2)]) rfl rfl rfl ⟨_, _, rfl, rfl, c5⟩ ?_; clear S CL a; intro a S CL
        refine h_run' S rfl ⟨_, _, rfl, rfl, c5⟩ ?_
        obtain ⟨t2, et2, h3⟩ := bind_of h2; clear h2
        refine s_callP S (fun (ch : Unit) => ((.v (.int .u64 t2)) : D)) N24 rfl rfl (tx_Intrinsic.ok k (x1.1, x1.2.1, x1.2.2.1, x1.2.2.2.1, x1.2.2.2.2.1, x1.2.2.2.2.2.1, x1.2.2.2.2.2.2.1, x1.2.2.2.2.2.2.2.1, x1.2.2.2.2.2.2.2.2.1, x1.2.2.2.2.2.2.2.2.2) ch_0_0 ch_0_1 ch_0_2 ch_0_3 t2 et2 _ _) ?_; clear S a; intro ch2 m le1 a w S
        replace le := le.trans le1
        replace hw := CL.again hw S (.cons .here .nil) le
        refine h_back ⟨fun _ => hw, ?_⟩
        replace CL := CL.add (t := 24) (d := (.v (.int .u64 t2))) S rfl rfl
        refine h_bin S CL hw le ⟨rfl, rfl, rfl, rfl, rfl, rfl, rfl, rfl, rfl, trivial⟩ rfl rfl rfl rfl rfl ⟨_, _, rfl, rfl, c5⟩ ?_; clear S CL a; intro a S CL
        refine h_pick S CL hw le ⟨rfl, rfl, rfl, rfl, rfl, rfl, rfl, rfl, rfl, rfl, trivial⟩ (b := false) (hc_of rfl c5) rfl rfl rfl trivial ?_; clear S CL a; intro a S CL
        refine h_assign S CL hw le ⟨rfl, rfl, rfl, rfl, rfl, rfl, rfl, rfl, rfl, rfl, rfl, trivial⟩ rfl rfl rfl trivial ?_; clear S CL a; intro a S CL
        refine h_done ?_; clear CL hw le
        refine x_thenN ?_
        exact j2 _ (decide (x1.2.2.2.2.2.2.1 < t2)) g2 a w (S.sub ⟨rfl, rfl, trivial⟩ (.cons .here .nil)) h3
  refine c_region' ?_
  refine s_loada S rfl .here T30 (s' := [.ints .u8 x1.1 20, .ints .u8 x1.2.1 20, .one (.bool x1.2.2.1), .one (.int .u64 x1.2.2.2.1), .ints .u64 x1.2.2.2.2.1 4, .sl ch_0_0 (x1.2.2.2.2.2.1).length ch_0_1 (RdS (Ty.int .u8) ch_0_0 x1.2.2.2.2.2.1), .one (.int .u64 x1.2.2.2.2.2.2.1), .ints .u64 x1.2.2.2.2.2.2.2.1 4, .ints .u64 x1.2.2.2.2.2.2.2.2.1 4, .sl ch_0_2 (x1.2.2.2.2.2.2.2.2.2).length ch_0_3 (RdS (Ty.prod (Ty.arr .u8 20) (Ty.slice (Ty.arr .u64 4))) ch_0_2 x1.2.2.2.2.2.2.2.2.2)]) rfl rfl ?_; clear S a; intro a S
  obtain ⟨t3, et3, h1⟩ := bind_of h0; clear h0
  refine s_callP S (fun (ch : Unit) => ((.v (.bool t3)) : D)) N11 rfl rfl (tx_long.ok k (x1.1, x1.2.1, x1.2.2.1, x1.2.2.2.1, x1.2.2.2.2.1, x1.2.2.2.2.2.1, x1.2.2.2.2.2.2.1, x1.2.2.2.2.2.2.2.1, x1.2.2.2.2.2.2.2.2.1, x1.2.2.2.2.2.2.2.2.2) ch_0_0 ch_0_1 ch_0_2 ch_0_3 t3 et3 _ _) ?_; clear S a w; intro ch3 m le1 a w S
  refine s_move S rfl rfl ?_; clear S a; intro a S
  rcases ite_of h1 with ⟨c6, h2⟩ | ⟨c6, h2⟩ <;> clear h1
  · refine s_gF S (b := t3) rfl rfl c6 rfl ?_; clear S a; intro a S
    refine s_gF S (b := t3) rfl rfl c6 rfl ?_; clear S a; intro a S
    refine s_gF S (b := t3) rfl rfl c6 rfl ?_; clear S a; intro a S
    refine s_gU S rfl rfl rfl ?_; clear S a; intro a S
    refine s_gU S rfl rfl rfl ?_; clear S a; intro a S
    refine s_gU S rfl rfl rfl ?_; clear S a; intro a S
    refine s_gU S rfl rfl rfl ?_; clear S a; intro a S
    refine s_gF S (b := t3) rfl rfl c6 rfl ?_; clear S a; intro a S
    refine s_pick S (b := true) (hc_of rfl c6) rfl rfl ?_; clear S a; intro a S
    refine s_assign S rfl rfl ?_; clear S a; intro a S
    refine c_end' ?_
    refine x_thenN ?_
    exact j1 _ true g1 a w (S.sub ⟨rfl, rfl, trivial⟩ (.cons .here .nil)) h2
  · refine s_gT S (b := t3) rfl rfl c6 ?_
    refine s_fieldAddr S rfl I30_2 T4 (by decide) rfl rfl ?_; clear S a; intro a S
    refine s_gT S (b := t3) rfl rfl c6 ?_
    refine s_load1 S rfl .here T4 (v := (.bool x1.2.2.1)) rfl rfl ?_; clear S a; intro a S
    refine s_gT S (b := t3) rfl rfl c6 ?_
    refine s_move S rfl rfl ?_; clear S a; intro a S
    rcases ite_of h2 with ⟨c7, h3⟩ | ⟨c7, h3⟩ <;> clear h2
    · refine s_gT S (b := x1.2.2.1) rfl rfl c7 ?_
      refine s_fieldAddr S rfl I30_5 T27 (by decide) rfl rfl ?_; clear S a; intro a S
      refine s_gT S (b := x1.2.2.1) rfl rfl c7 ?_
      refine s_loadSl S rfl .here T27 (A := ch_0_0) (len := (x1.2.2.2.2.2.1).length) (cap := ch_0_1) rfl rfl ?_; clear S a; intro a S
      refine s_gT S (b := x1.2.2.1) rfl rfl c7 ?_
      refine s_lenS S rfl Tryd.underlying27 rfl ?_; clear S a; intro a S
      refine s_gT S (b := x1.2.2.1) rfl rfl c7 ?_
      refine s_bin S rfl rfl rfl rfl ?_; clear S a; intro a S
      refine s_gT S (b := t3) rfl rfl c6 ?_
      refine s_pick S (b := true) (hc_of rfl c7) rfl rfl ?_; clear S a; intro a S
      refine s_pick S (b := false) (hc_of rfl c6) rfl rfl ?_; clear S a; intro a S
      refine s_assign S rfl rfl ?_; clear S a; intro a S
      refine c_end' ?_
      refine x_thenN ?_
      exact j1 _ (decide (49152 < ((x1.2.2.2.2.2.1).length : Int))) g1 a w (S.sub ⟨rfl, rfl, trivial⟩ (.cons .here .nil)) h3
    · refine s_gF S (b := x1.2.2.1) rfl rfl c7 rfl ?_; clear S a; intro a S
      refine s_gF S (b := x1.2.2.1) rfl rfl c7 rfl ?_; clear S a; intro a S
      refine s_gF S (b := x1.2.2.1) rfl rfl c7 rfl ?_; clear S a; intro a S
      refine s_gF S (b := x1.2.2.1) rfl rfl c7 rfl ?_; clear S a; intro a S
      refine s_gT S (b := t3) rfl rfl c6 ?_
      refine s_pick S (b := false) (hc_of rfl c7) rfl rfl ?_; clear S a; intro a S
      refine s_pick S (b := false) (hc_of rfl c6) rfl rfl ?_; clear S a; intro a S
      refine s_assign S rfl rfl ?_; clear S a; intro a S
      refine c_end' ?_
      refine x_thenN ?_
      exact j1 _ false g1 a w (S.sub ⟨rfl, rfl, trivial⟩ (.cons .here .nil)) h3
end GW
